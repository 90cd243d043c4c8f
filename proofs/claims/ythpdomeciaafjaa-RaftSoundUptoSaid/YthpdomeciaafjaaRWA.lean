/- Walks: each Go function does what its model says. Printed by an own program. -/
import Derived.Test.YthpdomeciaafjaaRK
set_option maxRecDepth 100000
set_option linter.unusedVariables false
namespace Go.Proofs.Ythpdomeciaafjaa
open Go.Fx

/-! ## heartwood/raft.timeout -/
/-- heartwood/raft.timeout: what is left behind a call. -/
abbrev R29 (M : Mem) (r : Int) : Value → Mem → List Res → Prop := fun v M' H' => .int .i64 r = v ∧ M = M' ∧ H' = []
noncomputable def c29 : Code := match Try.f29.body with | some c => c | none => .skip
abbrev C29 (w0 : World) (M0 : Mem) : Ctx := ⟨12, w0, M0, []⟩
abbrev D29 (w0 : World) (M0 : Mem) (r : Int) : Post := Done Try.prog Try.f29 (C29 w0 M0) (R29 M0 r)
theorem f29_j1 {w0 : World} {M0 : Mem} {r : Int} : ∀ {M : Mem} (xj1_s3 : Int) (_ : m29_j1 xj1_s3 = some r), AG Try.prog c29 [1, 1, 1] (D29 w0 M0 r) (C29 w0 M0) (env [(3, .int .i64 xj1_s3)]) M [] := by
  intro M xj1_s3 hm; unfold m29_j1 at hm
  refine rs [1, 1, 1, 0] [.p 3] [(2, .int .i64 (IntKind.i64.wrap (10 + xj1_s3)))] [] ?_
  obtain rfl := Option.some.inj hm
  exact rtp (v := .int .i64 (IntKind.i64.wrap (10 + xj1_s3))) [] ⟨rfl, rfl, rfl⟩
theorem f29_ok {M : Mem} (x0 : Int) (r : Int) (hm : m29 x0 = some r) : FnOk Try.prog 29 [.int .i64 x0] M [] (R29 M r) := by
  refine intro_ (c := c29) 12 Try.func29 fun w => ?_
  unfold m29 at hm
  refine rs [0] [.p 1] [] [] ?_
  refine rg [1, 0] ?_
  refine seg [.p 1] [(4, .int .i64 x0)] [] ?_
  refine g_rem (kd := .i64) (x := x0) (y := 10) 5 (by kernel_rfl) ?_ (by kernel_rfl) (by kernel_rfl)
  refine seg [.p 1] [(3, .int .i64 (Int.tmod x0 10))] [] ?_
  refine fin ?_
  refine rs [1, 1, 0, 0] [.p 2] [(7, .bool (decide (((Int.tmod x0 10) : Int) < 0)))] [] ?_
  refine gi [1, 1, 0, 1] hm (fun hm => ?_) fun hm => ?_
  · refine rs [1, 1, 0, 1, 0] [.p 3] [(3, .int .i64 (IntKind.i64.wrap ((Int.tmod x0 10) + 10)))] [] ?_
    exact to [] (@f29_j1 _ _ _ M _ hm)
  · exact to [] (@f29_j1 _ _ _ M _ hm)

/-! ## heartwood/log.count -/
/-- heartwood/log.count: what is left behind a call. -/
abbrev R77 (M : Mem) (r : Bool) : Value → Mem → List Res → Prop := fun v M' H' => .bool r = v ∧ M = M' ∧ H' = []
noncomputable def c77 : Code := match Try.f77.body with | some c => c | none => .skip
abbrev C77 (w0 : World) (M0 : Mem) : Ctx := ⟨9, w0, M0, []⟩
abbrev D77 (w0 : World) (M0 : Mem) (r : Bool) : Post := Done Try.prog Try.f77 (C77 w0 M0) (R77 M0 r)
theorem f77_j1 {w0 : World} {M0 : Mem} {r : Bool} : ∀ {M : Mem} (xj1_s2 : Bool) (_ : m77_j1 xj1_s2 = some r), AG Try.prog c77 [1, 1] (D77 w0 M0 r) (C77 w0 M0) (env [(2, .bool xj1_s2)]) M [] := by
  intro M xj1_s2 hm; unfold m77_j1 at hm
  obtain rfl := Option.some.inj hm
  exact rtp (v := .bool xj1_s2) [] ⟨rfl, rfl, rfl⟩
theorem f77_ok {M : Mem} (x0 : Int) (r : Bool) (hm : m77 x0 = some r) : FnOk Try.prog 77 [.int .i64 x0] M [] (R77 M r) := by
  refine intro_ (c := c77) 9 Try.func77 fun w => ?_
  unfold m77 at hm
  refine rs [0] [.p 1] [] [] ?_
  refine rg [1, 0] ?_
  refine seg [.p 3] [(5, .bool (decide ((x0 : Int) ≥ 0)))] [] ?_
  refine gs 5 hm (fun hm => ?_) fun hm => ?_
  · refine seg [.p 4] [(2, .bool (decide ((x0 : Int) ≤ 1152921504606846976)))] [] ?_
    refine fin ?_
    exact to [] (@f77_j1 _ _ _ M _ hm)
  · refine seg [.p 4] [(2, .bool false)] [] ?_
    refine fin ?_
    exact to [] (@f77_j1 _ _ _ M _ hm)

/-! ## heartwood/conf.May -/
/-- heartwood/conf.May: what is left behind a call. -/
abbrev R78 (M : Mem) (r : Bool) : Value → Mem → List Res → Prop := fun v M' H' => .bool r = v ∧ M = M' ∧ H' = []
noncomputable def c78 : Code := match Try.f78.body with | some c => c | none => .skip
abbrev C78 (w0 : World) (M0 : Mem) : Ctx := ⟨35, w0, M0, []⟩
abbrev D78 (w0 : World) (M0 : Mem) (r : Bool) : Post := Done Try.prog Try.f78 (C78 w0 M0) (R78 M0 r)
abbrev H78_j1 (w0 : World) (M0 : Mem) (r : Bool) (Lj1 : Int → (List Int) → Option Bool) : Prop := ∀ {M : Mem} {cx0 : Nat} {Ax0 : Option Addr} (xj1_s7 : Int) (x0 : List Int) (_ : Lj1 xj1_s7 x0 = some r) (_ : SlAt (kint .i64) M Ax0 cx0 x0) (_ : SlAt (kint .i64) M Ax0 cx0 x0), AG Try.prog c78 [1, 0, 1, 0] (D78 w0 M0 r) (C78 w0 M0) (env [(0, .slice Ax0 x0.length cx0), (5, .slice Ax0 x0.length cx0), (6, .int .i64 (x0.length : Int)), (7, .int .i64 xj1_s7)]) M []
theorem f78_j2 {w0 : World} {M0 : Mem} {r : Bool} {Lj1 : Int → (List Int) → Option Bool} (ihj1 : H78_j1 w0 M0 r Lj1) : ∀ {M : Mem} {cx0 : Nat} {Ax0 : Option Addr} (xj2_s30 : Bool) (xj2_s7 : Int) (x0 : List Int) (_ : m78_j2 Lj1 xj2_s30 xj2_s7 x0 = some r) (_ : SlAt (kint .i64) M Ax0 cx0 x0) (_ : SlAt (kint .i64) M Ax0 cx0 x0), AG Try.prog c78 [1, 0, 1, 0, 0, 1, 1, 0, 0, 1, 1] (D78 w0 M0 r) (C78 w0 M0) (env [(0, .slice Ax0 x0.length cx0), (5, .slice Ax0 x0.length cx0), (6, .int .i64 (x0.length : Int)), (7, .int .i64 xj2_s7), (30, .bool xj2_s30)]) M [] := by
  intro M cx0 Ax0 xj2_s30 xj2_s7 x0 hm hj2_s0 hj2_s5; unfold m78_j2 at hm
  refine gi [1, 0, 1, 0, 0, 1, 1, 0, 0, 1, 1] hm (fun hm => ?_) fun hm => ?_
  · refine rs [1, 0, 1, 0, 0, 1, 1, 0, 0, 1, 1, 0, 0] [.p 1] [(2, .bool false)] [] ?_
    obtain rfl := Option.some.inj hm
    exact rtp (v := .bool false) [] ⟨rfl, rfl, rfl⟩
  · refine rs [1, 0, 1, 0, 0, 1, 1, 1] [.p 2] [(7, .int .i64 (IntKind.i64.wrap (xj2_s7 + 1)))] [] ?_
    exact to [] (@ihj1 M cx0 Ax0 _ _ hm hj2_s0 hj2_s5)
theorem f78_j1 {w0 : World} {M0 : Mem} {r : Bool} : ∀ k, H78_j1 w0 M0 r (m78_j1 k) := by
  intro k; induction k with
  | zero => intro M cx0 Ax0 xj1_s7 x0 hm; exact absurd hm (by simp [m78_j1])
  | succ k ihj1 =>
    intro M cx0 Ax0 xj1_s7 x0 hm hj1_s0 hj1_s5
    rw [m78_j1.eq_2] at hm
    refine gl [1, 0, 1, 0] plain_done ?_
    refine rs [1, 0, 1, 0, 0, 0] [.p 1] [(8, .bool (decide ((xj1_s7 : Int) < (x0.length : Int))))] [] ?_
    refine gi [1, 0, 1, 0, 0, 1, 0] hm (fun hm => ?_) fun hm => ?_
    · obtain ⟨ej1_1, bj1_2, fj1_3, kj1_4, Wj1_5, hm, haej1_1, hbej1_1, hmej1_1, hwej1_1, hrej1_1⟩ := ixo hm hj1_s5
      replace hwej1_1 := hwej1_1.trans hrej1_1
      refine rg [1, 0, 1, 0, 0, 1, 1, 0, 0, 0] ?_
      refine seg [.p 1] [(9, .int .i64 xj1_s7)] [] ?_
      refine g_ix 10 1 haej1_1 hbej1_1 ?_
      refine g_lw 11 0 (.int .i64 ej1_1) hmej1_1 hwej1_1 ?_
      refine seg [.p 2] [(3, .int .i64 xj1_s7), (4, .int .i64 ej1_1)] [] ?_
      refine fin ?_
      refine rg [1, 0, 1, 0, 0, 1, 1, 0, 0, 1, 0] ?_
      refine seg [.p 3] [(14, .bool (decide ((ej1_1 : Int) < 1)))] [] ?_
      refine gs 14 hm (fun hm => ?_) fun hm => ?_
      · refine seg [.p 16] [(30, .bool true)] [] ?_
        refine fin ?_
        exact to [] (@f78_j2 _ _ _ _ ihj1 M cx0 Ax0 _ _ _ hm hj1_s0 hj1_s5)
      · refine seg [.p 4] [(18, .bool (decide ((ej1_1 : Int) > 7)))] [] ?_
        refine gs 18 hm (fun hm => ?_) fun hm => ?_
        · refine seg [.p 12] [(30, .bool true)] [] ?_
          refine fin ?_
          exact to [] (@f78_j2 _ _ _ _ ihj1 M cx0 Ax0 _ _ _ hm hj1_s0 hj1_s5)
        · refine seg [.p 3] [(21, .bool (decide ((xj1_s7 : Int) > 0)))] [] ?_
          refine gs 21 hm (fun hm => ?_) fun hm => ?_
          · obtain ⟨ej1_6, bj1_7, fj1_8, kj1_9, Wj1_10, hm, haej1_6, hbej1_6, hmej1_6, hwej1_6, hrej1_6⟩ := ixo hm hj1_s0
            replace hwej1_6 := hwej1_6.trans hrej1_6
            refine seg [.p 4] [(22, .int .i64 ej1_1), (23, .slice Ax0 x0.length cx0), (25, .int .i64 (IntKind.i64.wrap (xj1_s7 - 1)))] [] ?_
            refine g_ix 26 1 haej1_6 hbej1_6 ?_
            refine g_lw 27 0 (.int .i64 ej1_6) hmej1_6 hwej1_6 ?_
            refine seg [.p 3] [(30, .bool (decide ((ej1_1 : Int) ≤ ej1_6)))] [] ?_
            refine fin ?_
            exact to [] (@f78_j2 _ _ _ _ ihj1 M cx0 Ax0 _ _ _ hm hj1_s0 hj1_s5)
          · refine seg [.p 9] [(30, .bool false)] [] ?_
            refine fin ?_
            exact to [] (@f78_j2 _ _ _ _ ihj1 M cx0 Ax0 _ _ _ hm hj1_s0 hj1_s5)
    · refine rs [1, 1, 0] [.p 4] [(2, .bool (decide (((x0.length : Int) : Int) > 0)))] [] ?_
      obtain rfl := Option.some.inj hm
      exact rtp (v := .bool (decide (((x0.length : Int) : Int) > 0))) [] ⟨rfl, rfl, rfl⟩
theorem f78_ok {M : Mem} {Ax0 : Option Addr} {cx0 : Nat} (x0 : List Int) (r : Bool) (hm : m78 x0 = some r) (hx0 : SlAt (kint .i64) M Ax0 cx0 x0) : FnOk Try.prog 78 [.slice Ax0 x0.length cx0] M [] (R78 M r) := by
  refine intro_ (c := c78) 35 Try.func78 fun w => ?_
  unfold m78 at hm
  refine rs [0] [.p 1] [] [] ?_
  refine rs [1, 0, 0] [.p 3] [(5, .slice Ax0 x0.length cx0), (6, .int .i64 (x0.length : Int)), (7, .int .i64 0)] [] ?_
  exact to [] (@f78_j1 _ _ _ FUEL M cx0 Ax0 _ _ hm hx0 hx0)

/-! ## heartwood/conf.Of -/
/-- heartwood/conf.Of: what is left behind a call. -/
abbrev R95 (M : Mem) (r : ((List Int) × Int)) : Value → Mem → List Res → Prop := fun v M' H' => ∃ (q0 : Option Addr) (u0 : Nat), .tuple #[.slice q0 r.1.length u0, errV 39 r.2] = v ∧ H' = [] ∧ SlAt (kint .i64) M' q0 u0 r.1
noncomputable def c95 : Code := match Try.f95.body with | some c => c | none => .skip
abbrev C95 (w0 : World) (M0 : Mem) : Ctx := ⟨24, w0, M0, []⟩
abbrev D95 (w0 : World) (M0 : Mem) (r : ((List Int) × Int)) : Post := Done Try.prog Try.f95 (C95 w0 M0) (R95 M0 r)
abbrev H95_j1 (w0 : World) (M0 : Mem) (r : ((List Int) × Int)) (Lj1 : Int → (List Int) → (List Int) → Option ((List Int) × Int)) : Prop := ∀ {M : Mem} {csj1_1_1_0_1_0_0_1_1_0_0_1_4 : List Value} {cj1_1_1_0_1_0_0_1_1_0_0_1_4 cx0 : Nat} {Aj1_1_1_0_1_0_0_1_1_0_0_1_4 Ax0 : Option Addr} (xj1_s9 : Int) (x0 xj1_1_1_0_1_0_0_1_1_0_0_1_4 : List Int) (_ : Lj1 xj1_s9 x0 xj1_1_1_0_1_0_0_1_1_0_0_1_4 = some r) (_ : SlAt (kint .u8) M Ax0 cx0 x0) (_ : Elems (kint .i64) M csj1_1_1_0_1_0_0_1_1_0_0_1_4 xj1_1_1_0_1_0_0_1_1_0_0_1_4), AG Try.prog c95 [1, 1, 0, 1, 0] (D95 w0 M0 r) (C95 w0 M0) (env [(4, (.slice Aj1_1_1_0_1_0_0_1_1_0_0_1_4 xj1_1_1_0_1_0_0_1_1_0_0_1_4.length cj1_1_1_0_1_0_0_1_1_0_0_1_4)), (7, .slice Ax0 x0.length cx0), (8, .int .i64 (x0.length : Int)), (9, .int .i64 xj1_s9)]) M [.row (.slice Aj1_1_1_0_1_0_0_1_1_0_0_1_4 xj1_1_1_0_1_0_0_1_1_0_0_1_4.length cj1_1_1_0_1_0_0_1_1_0_0_1_4) 3 1 xj1_1_1_0_1_0_0_1_1_0_0_1_4.length csj1_1_1_0_1_0_0_1_1_0_0_1_4]
theorem f95_j1 {w0 : World} {M0 : Mem} {r : ((List Int) × Int)} : ∀ k, H95_j1 w0 M0 r (m95_j1 k) := by
  intro k; induction k with
  | zero => intro M csj1_1_1_0_1_0_0_1_1_0_0_1_4 cj1_1_1_0_1_0_0_1_1_0_0_1_4 cx0 Aj1_1_1_0_1_0_0_1_1_0_0_1_4 Ax0 xj1_s9 x0 xj1_1_1_0_1_0_0_1_1_0_0_1_4 hm; exact absurd hm (by simp [m95_j1])
  | succ k ihj1 =>
    intro M csj1_1_1_0_1_0_0_1_1_0_0_1_4 cj1_1_1_0_1_0_0_1_1_0_0_1_4 cx0 Aj1_1_1_0_1_0_0_1_1_0_0_1_4 Ax0 xj1_s9 x0 xj1_1_1_0_1_0_0_1_1_0_0_1_4 hm hj1_s7 ej1_1_1_0_1_0_0_1_1_0_0_1_4
    rw [m95_j1.eq_2] at hm
    refine gl [1, 1, 0, 1, 0] plain_done ?_
    refine rs [1, 1, 0, 1, 0, 0, 0] [.p 1] [(10, .bool (decide ((xj1_s9 : Int) < (x0.length : Int))))] [] ?_
    refine gi [1, 1, 0, 1, 0, 0, 1, 0] hm (fun hm => ?_) fun hm => ?_
    · obtain ⟨ej1_1, bj1_2, fj1_3, kj1_4, Wj1_5, hm, haej1_1, hbej1_1, hmej1_1, hwej1_1, hrej1_1⟩ := ixo hm hj1_s7
      replace hwej1_1 := hwej1_1.trans hrej1_1
      refine rg [1, 1, 0, 1, 0, 0, 1, 1, 0, 0, 0] ?_
      refine g_ix 11 1 haej1_1 hbej1_1 ?_
      refine g_lw 12 0 (.int .u8 ej1_1) hmej1_1 hwej1_1 ?_
      refine seg [.p 1] [(6, .int .u8 ej1_1)] [] ?_
      refine fin ?_
      refine rg [1, 1, 0, 1, 0, 0, 1, 1, 0, 0, 1] ?_
      refine seg [.p 3] [(13, (.slice Aj1_1_1_0_1_0_0_1_1_0_0_1_4 xj1_1_1_0_1_0_0_1_1_0_0_1_4.length cj1_1_1_0_1_0_0_1_1_0_0_1_4)), (15, .int .i64 (IntKind.i64.wrap ej1_1))] [] ?_
      have ej1_6 : Elems (kint .i64) M [.int .i64 (IntKind.i64.wrap ej1_1)] ([IntKind.i64.wrap ej1_1] : List Int) := (elCons (d := (kint .i64)) (M := M) (a := [.int .i64 (IntKind.i64.wrap ej1_1)]) (x := IntKind.i64.wrap ej1_1) rfl elNil)
      refine g_bs 16 3 1 1 [.int .i64 (IntKind.i64.wrap ej1_1)] fun bj1_7 => ?_
      obtain ⟨hbj1_8, hm⟩ := gd2 hm
      refine g_apR 17 0 3 8 1 Aj1_1_1_0_1_0_0_1_1_0_0_1_4 cj1_1_1_0_1_0_0_1_1_0_0_1_4 (some ⟨bj1_7, 0, none⟩) 1 ej1_1_1_0_1_0_0_1_1_0_0_1_4 ej1_6 hbj1_8 fun Aj1_9 cj1_10 csj1_11 ej1_8 => ?_
      refine seg [.p 1] [(4, (.slice Aj1_9 ((xj1_1_1_0_1_0_0_1_1_0_0_1_4 ++ ([IntKind.i64.wrap ej1_1] : List Int)).length) cj1_10))] [] ?_
      refine fin ?_
      refine rs [1, 1, 0, 1, 0, 0, 1, 1, 1] [.p 2] [(9, .int .i64 (IntKind.i64.wrap (xj1_s9 + 1)))] [] ?_
      exact to [0] (@ihj1 M csj1_11 cj1_10 cx0 Aj1_9 Ax0 _ _ _ hm hj1_s7 ej1_8)
    · obtain ⟨tj1_13, htj1_13, hm⟩ := bind_some hm
      refine rg [1, 1, 1, 0, 0] ?_
      refine seg [.p 1] [(19, (.slice Aj1_1_1_0_1_0_0_1_1_0_0_1_4 xj1_1_1_0_1_0_0_1_1_0_0_1_4.length cj1_1_1_0_1_0_0_1_1_0_0_1_4))] [] ?_
      refine fzI 0 3 Aj1_1_1_0_1_0_0_1_1_0_0_1_4 cj1_1_1_0_1_0_0_1_1_0_0_1_4 ej1_1_1_0_1_0_0_1_1_0_0_1_4 fun Mhj1_12 lhj1_12 hj1_12 => ?_
      refine g_call0 20 (f78_ok _ _ htj1_13 hj1_12) ?_
      rintro _ _ _ ⟨rfl, rfl, rfl⟩ -
      refine seg [.p 1] [(21, .bool (!tj1_13))] [] ?_
      refine fin ?_
      refine gi [1, 1, 1, 0, 1] hm (fun hm => ?_) fun hm => ?_
      · refine rs [1, 1, 1, 0, 1, 0, 0] [.p 3] [(2, .slice none 0 0), (3, errV 39 3)] [] ?_
        obtain rfl := Option.some.inj hm
        exact rt (v := .tuple #[.slice none 0 0, errV 39 3]) [] ⟨none, 0, rfl, rfl, slNil⟩
      · refine rs [1, 1, 1, 1, 0] [.p 3] [(2, .slice Aj1_1_1_0_1_0_0_1_1_0_0_1_4 xj1_1_1_0_1_0_0_1_1_0_0_1_4.length cj1_1_1_0_1_0_0_1_1_0_0_1_4), (3, .nilIface)] [] ?_
        obtain rfl := Option.some.inj hm
        exact rt (v := .tuple #[.slice Aj1_1_1_0_1_0_0_1_1_0_0_1_4 xj1_1_1_0_1_0_0_1_1_0_0_1_4.length cj1_1_1_0_1_0_0_1_1_0_0_1_4, .nilIface]) [] ⟨Aj1_1_1_0_1_0_0_1_1_0_0_1_4, cj1_1_1_0_1_0_0_1_1_0_0_1_4, rfl, rfl, hj1_12⟩
theorem f95_ok {M : Mem} {Ax0 : Option Addr} {cx0 : Nat} (x0 : List Int) (r : ((List Int) × Int)) (hm : m95 x0 = some r) (hx0 : SlAt (kint .u8) M Ax0 cx0 x0) : FnOk Try.prog 95 [.slice Ax0 x0.length cx0] M [] (R95 M r) := by
  refine intro_ (c := c95) 24 Try.func95 fun w => ?_
  unfold m95 at hm
  refine rs [0] [.p 2] [] [] ?_
  refine rs [1, 0] [.p 1] [(4, .slice none 0 0)] [] ?_
  refine rs [1, 1, 0, 0] [.p 3] [(7, .slice Ax0 x0.length cx0), (8, .int .i64 (x0.length : Int)), (9, .int .i64 0)] [] ?_
  refine nlA 3 1 ?_
  exact to [0] (@f95_j1 _ _ _ FUEL M [] 0 cx0 none Ax0 _ _ _ hm hx0 (elNil (d := (kint .i64)) (M := M)))

/-! ## heartwood/log.entry -/
/-- heartwood/log.entry: what is left behind a call. -/
abbrev R79 (M : Mem) (r : Bool) : Value → Mem → List Res → Prop := fun v M' H' => .bool r = v ∧ M = M' ∧ H' = []
noncomputable def c79 : Code := match Try.f79.body with | some c => c | none => .skip
abbrev C79 (w0 : World) (M0 : Mem) : Ctx := ⟨39, w0, M0, []⟩
abbrev D79 (w0 : World) (M0 : Mem) (r : Bool) : Post := Done Try.prog Try.f79 (C79 w0 M0) (R79 M0 r)
theorem f79_j1 {w0 : World} {M0 : Mem} {r : Bool} : ∀ {M : Mem} {b0_1 chx0_2 : Nat} {Ahx0_2 : Option Addr} (xj1_s27 : Bool) (x0 : S80) (_ : m79_j1 xj1_s27 x0 = some r) (_ : SlAt (kint .u8) M Ahx0_2 chx0_2 x0.f2), AG Try.prog c79 [1, 0, 1] (D79 w0 M0 r) (C79 w0 M0) (env [(2, .pointer (some ⟨b0_1, 0, none⟩)), (27, .bool xj1_s27)]) M [.blk b0_1 (cS80 x0 Ahx0_2 chx0_2) 81] := by
  intro M b0_1 chx0_2 Ahx0_2 xj1_s27 x0 hm hj1_0_0_l2; unfold m79_j1 at hm
  refine gi [1, 0, 1] hm (fun hm => ?_) fun hm => ?_
  · refine rs [1, 0, 1, 0, 0] [.p 1] [(4, .bool false)] [] ?_
    obtain rfl := Option.some.inj hm
    exact rtp (v := .bool false) [] ⟨rfl, rfl, rfl⟩
  · refine rs [1, 1, 0, 0] [.p 1, .l 0, .p 1] [(30, .bool ((x0.f1 : Int) != 2))] [] ?_
    refine gi [1, 1, 0, 1] hm (fun hm => ?_) fun hm => ?_
    · refine rs [1, 1, 0, 1, 0, 0] [.p 1] [(4, .bool true)] [] ?_
      obtain rfl := Option.some.inj hm
      exact rtp (v := .bool true) [] ⟨rfl, rfl, rfl⟩
    · obtain ⟨tj1_1, htj1_1, hm⟩ := bind_some hm
      refine rg [1, 1, 1, 0] ?_
      refine seg [.p 1, .l 0] [(33, .slice Ahx0_2 x0.f2.length chx0_2)] [] ?_
      refine g_call0 34 (f95_ok _ _ htj1_1 hj1_0_0_l2) ?_
      rintro _ Mj1_4 _ ⟨Aj1_2, cj1_3, rfl, rfl, hj1_4⟩ hMj1_4
      refine seg [.p 5] [(6, errV 39 tj1_1.2)] [] ?_
      refine fin ?_
      refine rs [1, 1, 1, 1, 0] [.p 1, .e 39 tj1_1.2, .p 1] [(4, .bool ((tj1_1.2 : Int) == 0))] [] ?_
      obtain rfl := Option.some.inj hm
      exact rtp (v := .bool ((tj1_1.2 : Int) == 0)) [] ⟨rfl, rfl, rfl⟩
theorem f79_ok {M : Mem} {csx0 : List Value} (x0 : S80) (x1 : Int) (r : Bool) (hm : m79 x0 x1 = some r) (hx0 : kS80.rep M csx0 x0) : FnOk Try.prog 79 [.agg csx0.toArray, .int .i64 x1] M [] (R79 M r) := by
  obtain ⟨Ahx0_2, chx0_2, rfl, hx0_2⟩ := kS80_open hx0
  refine intro_ (c := c79) 39 Try.func79 fun w => ?_
  unfold m79 at hm
  refine rg [0] ?_
  refine g_bx 2 81 (.agg (cS80 x0 Ahx0_2 chx0_2).toArray) fun b0_1 => ?_
  refine seg [.p 1] [] [] ?_
  refine fin ?_
  refine rg [1, 0, 0] ?_
  refine seg [.p 1, .l 0, .p 4] [(12, .bool (decide ((x0.f0 : Int) < (if x1 < 1 then 1 else x1))))] [] ?_
  refine gs 12 hm (fun hm => ?_) fun hm => ?_
  · refine seg [.p 15] [(27, .bool true)] [] ?_
    refine fin ?_
    exact to [0] (@f79_j1 _ _ _ M b0_1 chx0_2 Ahx0_2 _ _ hm hx0_2)
  · obtain ⟨t0_2, ht0_2, hm⟩ := bind_some hm
    refine seg [.p 1, .l 0] [(14, .int .i64 x0.f0)] [] ?_
    refine g_call0 15 (f77_ok (M := M) _ _ ht0_2) ?_
    rintro _ _ _ ⟨rfl, rfl, rfl⟩ -
    refine seg [.p 3] [(18, .bool (!t0_2))] [] ?_
    refine gs 18 hm (fun hm => ?_) fun hm => ?_
    · refine seg [.p 9] [(27, .bool true)] [] ?_
      refine fin ?_
      exact to [0] (@f79_j1 _ _ _ M b0_1 chx0_2 Ahx0_2 _ _ hm hx0_2)
    · refine seg [.p 1, .l 0, .p 3] [(23, .bool (decide ((x0.f1 : Int) < 0)))] [] ?_
      refine gs 23 hm (fun hm => ?_) fun hm => ?_
      · refine seg [.p 4] [(27, .bool true)] [] ?_
        refine fin ?_
        exact to [0] (@f79_j1 _ _ _ M b0_1 chx0_2 Ahx0_2 _ _ hm hx0_2)
      · refine seg [.p 1, .l 0, .p 2] [(27, .bool (decide ((x0.f1 : Int) > 2)))] [] ?_
        refine fin ?_
        exact to [0] (@f79_j1 _ _ _ M b0_1 chx0_2 Ahx0_2 _ _ hm hx0_2)

/-! ## heartwood/log.Check -/
/-- heartwood/log.Check: what is left behind a call. -/
abbrev R40 (M : Mem) (r : Int) : Value → Mem → List Res → Prop := fun v M' H' => errV 39 r = v ∧ M = M' ∧ H' = []
noncomputable def c40 : Code := match Try.f40.body with | some c => c | none => .skip
abbrev C40 (w0 : World) (M0 : Mem) : Ctx := ⟨54, w0, M0, []⟩
abbrev D40 (w0 : World) (M0 : Mem) (r : Int) : Post := Done Try.prog Try.f40 (C40 w0 M0) (R40 M0 r)
abbrev H40_j2 (w0 : World) (M0 : Mem) (r : Int) (Lj2 : Int → Int → S26 → Option Int) : Prop := ∀ {M : Mem} {chx0_3 : Nat} {Ahx0_3 : Option Addr} (xj2_s3 xj2_s42 : Int) (x0 : S26) (_ : Lj2 xj2_s3 xj2_s42 x0 = some r) (_ : SlAt kS80 M Ahx0_3 chx0_3 x0.f1), AG Try.prog c40 [1, 1, 1, 0, 1, 0] (D40 w0 M0 r) (C40 w0 M0) (env [(3, .int .i64 xj2_s3), (40, .slice Ahx0_3 x0.f1.length chx0_3), (41, .int .i64 (x0.f1.length : Int)), (42, .int .i64 xj2_s42)]) M []
theorem f40_j2 {w0 : World} {M0 : Mem} {r : Int} : ∀ k, H40_j2 w0 M0 r (m40_j2 k) := by
  intro k; induction k with
  | zero => intro M chx0_3 Ahx0_3 xj2_s3 xj2_s42 x0 hm; exact absurd hm (by simp [m40_j2])
  | succ k ihj2 =>
    intro M chx0_3 Ahx0_3 xj2_s3 xj2_s42 x0 hm hj2_s40
    rw [m40_j2.eq_2] at hm
    refine gl [1, 1, 1, 0, 1, 0] plain_done ?_
    refine rs [1, 1, 1, 0, 1, 0, 0, 0] [.p 1] [(43, .bool (decide ((xj2_s42 : Int) < (x0.f1.length : Int))))] [] ?_
    refine gi [1, 1, 1, 0, 1, 0, 0, 1, 0] hm (fun hm => ?_) fun hm => ?_
    · obtain ⟨ej2_1, bj2_2, fj2_3, kj2_4, Wj2_5, hm, haej2_1, hbej2_1, hmej2_1, hwej2_1, hrej2_1⟩ := ixo hm hj2_s40
      obtain ⟨Ahrej2_1_2, chrej2_1_2, hcej2_1, hrej2_1_2⟩ := kS80_open hrej2_1
      replace hwej2_1 := hwej2_1.trans hcej2_1
      refine rg [1, 1, 1, 0, 1, 0, 0, 1, 1, 0, 0, 0] ?_
      refine g_ix 44 3 haej2_1 hbej2_1 ?_
      refine g_lw 45 0 (.agg (cS80 ej2_1 Ahrej2_1_2 chrej2_1_2).toArray) hmej2_1 hwej2_1 ?_
      refine g_al 5 81 (cS80 (S80.mk 0 0 []) none 0) fun bj2_6 => ?_
      refine seg [.s 0] [] [(0, .blk bj2_6 (cS80 ej2_1 Ahrej2_1_2 chrej2_1_2) 81)] ?_
      refine fin ?_
      obtain ⟨tj2_7, htj2_7, hm⟩ := bind_some hm
      refine rg [1, 1, 1, 0, 1, 0, 0, 1, 1, 0, 0, 1, 0, 0] ?_
      refine seg [.l 0, .p 1] [(46, .agg (cS80 ej2_1 Ahrej2_1_2 chrej2_1_2).toArray), (47, .int .i64 xj2_s3)] [] ?_
      refine g_call0 48 (f79_ok _ _ _ htj2_7 (kS80_mk (cs := (cS80 ej2_1 Ahrej2_1_2 chrej2_1_2)) ej2_1 rfl hrej2_1_2)) ?_
      rintro _ _ _ ⟨rfl, rfl, rfl⟩ -
      refine seg [.p 1] [(49, .bool (!tj2_7))] [] ?_
      refine fin ?_
      refine gi [1, 1, 1, 0, 1, 0, 0, 1, 1, 0, 0, 1, 0, 1] hm (fun hm => ?_) fun hm => ?_
      · refine rs [1, 1, 1, 0, 1, 0, 0, 1, 1, 0, 0, 1, 0, 1, 0, 0] [.p 2] [(2, errV 39 3)] [] ?_
        obtain rfl := Option.some.inj hm
        exact rtp (v := errV 39 3) [] ⟨rfl, rfl, rfl⟩
      · refine rs [1, 1, 1, 0, 1, 0, 0, 1, 1, 0, 0, 1, 1] [.p 1, .l 0, .p 1] [(3, .int .i64 ej2_1.f0)] [] ?_
        refine rs [1, 1, 1, 0, 1, 0, 0, 1, 1, 1] [.p 2] [(42, .int .i64 (IntKind.i64.wrap (xj2_s42 + 1)))] [] ?_
        exact to [] (@ihj2 M chx0_3 Ahx0_3 _ _ _ hm hj2_s40)
    · refine rs [1, 1, 1, 1, 0] [.p 1] [(2, .nilIface)] [] ?_
      obtain rfl := Option.some.inj hm
      exact rtp (v := .nilIface) [] ⟨rfl, rfl, rfl⟩
theorem f40_j1 {w0 : World} {M0 : Mem} {r : Int} : ∀ {M : Mem} {b0_1 chx0_2 chx0_3 : Nat} {Ahx0_2 Ahx0_3 : Option Addr} (xj1_s34 : Bool) (x0 : S26) (_ : m40_j1 xj1_s34 x0 = some r) (_ : SlAt (kint .i64) M Ahx0_2 chx0_2 x0.f0.f2) (_ : SlAt kS80 M Ahx0_3 chx0_3 x0.f1), AG Try.prog c40 [1, 0, 1] (D40 w0 M0 r) (C40 w0 M0) (env [(1, .pointer (some ⟨b0_1, 0, none⟩)), (34, .bool xj1_s34)]) M [.blk b0_1 (cS26 x0 Ahx0_2 chx0_2 Ahx0_3 chx0_3) 27] := by
  intro M b0_1 chx0_2 chx0_3 Ahx0_2 Ahx0_3 xj1_s34 x0 hm hj1_0_0_l2 hj1_0_0_l3; unfold m40_j1 at hm
  refine gi [1, 0, 1] hm (fun hm => ?_) fun hm => ?_
  · refine rs [1, 0, 1, 0, 0] [.p 2] [(2, errV 39 3)] [] ?_
    obtain rfl := Option.some.inj hm
    exact rtp (v := errV 39 3) [] ⟨rfl, rfl, rfl⟩
  · refine rs [1, 1, 0] [.p 2, .l 0, .p 1] [(3, .int .i64 x0.f0.f1)] [] ?_
    refine rs [1, 1, 1, 0, 0] [.p 1, .l 0, .p 2] [(40, .slice Ahx0_3 x0.f1.length chx0_3), (41, .int .i64 (x0.f1.length : Int)), (42, .int .i64 0)] [] ?_
    exact to [] (@f40_j2 _ _ _ FUEL M chx0_3 Ahx0_3 _ _ _ hm hj1_0_0_l3)
theorem f40_ok {M : Mem} {csx0 : List Value} (x0 : S26) (r : Int) (hm : m40 x0 = some r) (hx0 : kS26.rep M csx0 x0) : FnOk Try.prog 40 [.agg csx0.toArray] M [] (R40 M r) := by
  obtain ⟨Ahx0_2, chx0_2, Ahx0_3, chx0_3, rfl, hx0_2, hx0_3⟩ := kS26_open hx0
  refine intro_ (c := c40) 54 Try.func40 fun w => ?_
  unfold m40 at hm
  refine rg [0] ?_
  refine g_bx 1 27 (.agg (cS26 x0 Ahx0_2 chx0_2 Ahx0_3 chx0_3).toArray) fun b0_1 => ?_
  refine seg [.p 1] [] [] ?_
  refine fin ?_
  obtain ⟨t0_2, ht0_2, hm⟩ := bind_some hm
  refine rg [1, 0, 0] ?_
  refine seg [.p 2, .l 0] [(8, .int .i64 x0.f0.f0)] [] ?_
  refine g_call0 9 (f77_ok (M := M) _ _ ht0_2) ?_
  rintro _ _ _ ⟨rfl, rfl, rfl⟩ -
  refine seg [.p 2] [(11, .bool (!t0_2))] [] ?_
  refine gs 11 hm (fun hm => ?_) fun hm => ?_
  · refine seg [.p 23] [(34, .bool true)] [] ?_
    refine fin ?_
    exact to [0] (@f40_j1 _ _ _ M b0_1 chx0_2 chx0_3 Ahx0_2 Ahx0_3 _ _ hm hx0_2 hx0_3)
  · obtain ⟨t0_3, ht0_3, hm⟩ := bind_some hm
    refine seg [.p 2, .l 0] [(14, .int .i64 x0.f0.f1)] [] ?_
    refine g_call0 15 (f77_ok (M := M) _ _ ht0_3) ?_
    rintro _ _ _ ⟨rfl, rfl, rfl⟩ -
    refine seg [.p 3] [(18, .bool (!t0_3))] [] ?_
    refine gs 18 hm (fun hm => ?_) fun hm => ?_
    · refine seg [.p 16] [(34, .bool true)] [] ?_
      refine fin ?_
      exact to [0] (@f40_j1 _ _ _ M b0_1 chx0_2 chx0_3 Ahx0_2 Ahx0_3 _ _ hm hx0_2 hx0_3)
    · obtain ⟨t0_4, ht0_4, hm⟩ := bind_some hm
      refine seg [.p 2, .l 0] [(21, .slice Ahx0_2 x0.f0.f2.length chx0_2)] [] ?_
      refine g_call0 22 (f78_ok _ _ ht0_4 hx0_2) ?_
      rintro _ _ _ ⟨rfl, rfl, rfl⟩ -
      refine seg [.p 3] [(25, .bool (!t0_4))] [] ?_
      refine gs 25 hm (fun hm => ?_) fun hm => ?_
      · refine seg [.p 9] [(34, .bool true)] [] ?_
        refine fin ?_
        exact to [0] (@f40_j1 _ _ _ M b0_1 chx0_2 chx0_3 Ahx0_2 Ahx0_3 _ _ hm hx0_2 hx0_3)
      · refine seg [.p 1, .l 0, .p 3, .l 0, .p 3] [(34, .bool (decide (((x0.f1.length : Int) : Int) > (IntKind.i64.wrap (1152921504606846976 - x0.f0.f0)))))] [] ?_
        refine fin ?_
        exact to [0] (@f40_j1 _ _ _ M b0_1 chx0_2 chx0_3 Ahx0_2 Ahx0_3 _ _ hm hx0_2 hx0_3)

/-! ## heartwood/log.last -/
/-- heartwood/log.last: what is left behind a call. -/
abbrev R80 (M : Mem) (r : Int) : Value → Mem → List Res → Prop := fun v M' H' => .int .i64 r = v ∧ M = M' ∧ H' = []
noncomputable def c80 : Code := match Try.f80.body with | some c => c | none => .skip
theorem f80_ok {M : Mem} {csx0 : List Value} (x0 : S26) (r : Int) (hm : m80 x0 = some r) (hx0 : kS26.rep M csx0 x0) : FnOk Try.prog 80 [.agg csx0.toArray] M [] (R80 M r) := by
  obtain ⟨Ahx0_2, chx0_2, Ahx0_3, chx0_3, rfl, hx0_2, hx0_3⟩ := kS26_open hx0
  refine intro_ (c := c80) 10 Try.func80 fun w => ?_
  unfold m80 at hm
  refine rg [0] ?_
  refine g_bx 1 27 (.agg (cS26 x0 Ahx0_2 chx0_2 Ahx0_3 chx0_3).toArray) fun b0_1 => ?_
  refine seg [.p 1] [] [] ?_
  refine fin ?_
  refine rs [1, 0] [.p 2, .l 0, .p 1, .l 0, .p 3] [(2, .int .i64 (IntKind.i64.wrap (x0.f0.f0 + (x0.f1.length : Int))))] [] ?_
  obtain rfl := Option.some.inj hm
  exact rtp (v := .int .i64 (IntKind.i64.wrap (x0.f0.f0 + (x0.f1.length : Int)))) [] ⟨rfl, rfl, rfl⟩

/-! ## heartwood/log.term -/
/-- heartwood/log.term: what is left behind a call. -/
abbrev R74 (M : Mem) (r : Int) : Value → Mem → List Res → Prop := fun v M' H' => .int .i64 r = v ∧ M = M' ∧ H' = []
noncomputable def c74 : Code := match Try.f74.body with | some c => c | none => .skip
theorem f74_ok {M : Mem} {csx0 : List Value} (x0 : S26) (x1 : Int) (r : Int) (hm : m74 x0 x1 = some r) (hx0 : kS26.rep M csx0 x0) : FnOk Try.prog 74 [.agg csx0.toArray, .int .i64 x1] M [] (R74 M r) := by
  obtain ⟨Ahx0_2, chx0_2, Ahx0_3, chx0_3, rfl, hx0_2, hx0_3⟩ := kS26_open hx0
  refine intro_ (c := c74) 24 Try.func74 fun w => ?_
  unfold m74 at hm
  refine rg [0] ?_
  refine g_bx 2 27 (.agg (cS26 x0 Ahx0_2 chx0_2 Ahx0_3 chx0_3).toArray) fun b0_1 => ?_
  refine seg [.p 1] [] [] ?_
  refine fin ?_
  refine rs [1, 0, 0] [.p 3, .l 0, .p 1] [(9, .bool ((x1 : Int) == x0.f0.f0))] [] ?_
  refine gi [1, 0, 1] hm (fun hm => ?_) fun hm => ?_
  · refine rs [1, 0, 1, 0, 0] [.p 2, .l 0, .p 1] [(4, .int .i64 x0.f0.f1)] [] ?_
    obtain rfl := Option.some.inj hm
    exact rtp (v := .int .i64 x0.f0.f1) [] ⟨rfl, rfl, rfl⟩
  · obtain ⟨e0_2, b0_3, f0_4, k0_5, W0_6, hm, hae0_2, hbe0_2, hme0_2, hwe0_2, hre0_2⟩ := ixo hm hx0_3
    obtain ⟨Ahre0_2_2, chre0_2_2, hce0_2, hre0_2_2⟩ := kS80_open hre0_2
    replace hwe0_2 := hwe0_2.trans hce0_2
    refine rg [1, 1, 0] ?_
    refine seg [.p 1, .l 0, .p 3, .l 0, .p 2] [(14, .slice Ahx0_3 x0.f1.length chx0_3), (20, .int .i64 (IntKind.i64.wrap ((IntKind.i64.wrap (x1 - x0.f0.f0)) - 1)))] [] ?_
    refine g_ix 21 3 hae0_2 hbe0_2 ?_
    refine seg [.p 1] [(22, .pointer (some ⟨b0_3, (f0_4 + (IntKind.i64.wrap ((IntKind.i64.wrap (x1 - x0.f0.f0)) - 1)).toNat * 3), none⟩))] [] ?_
    refine g_lw 23 0 (.int .i64 e0_2.f0) hme0_2 hwe0_2 ?_
    refine seg [.p 1] [(4, .int .i64 e0_2.f0)] [] ?_
    refine fin ?_
    obtain rfl := Option.some.inj hm
    exact rtp (v := .int .i64 e0_2.f0) [] ⟨rfl, rfl, rfl⟩

/-! ## heartwood/log.Last -/
/-- heartwood/log.Last: what is left behind a call. -/
abbrev R41 (M : Mem) (r : (Int × Int)) : Value → Mem → List Res → Prop := fun v M' H' => .tuple #[.int .i64 r.1, .int .i64 r.2] = v ∧ M = M' ∧ H' = []
noncomputable def c41 : Code := match Try.f41.body with | some c => c | none => .skip
theorem f41_ok {M : Mem} {csx0 : List Value} (x0 : S26) (r : (Int × Int)) (hm : m41 x0 = some r) (hx0 : kS26.rep M csx0 x0) : FnOk Try.prog 41 [.agg csx0.toArray] M [] (R41 M r) := by
  obtain ⟨Ahx0_2, chx0_2, Ahx0_3, chx0_3, rfl, hx0_2, hx0_3⟩ := kS26_open hx0
  refine intro_ (c := c41) 13 Try.func41 fun w => ?_
  unfold m41 at hm
  refine rg [0] ?_
  refine g_bx 1 27 (.agg (cS26 x0 Ahx0_2 chx0_2 Ahx0_3 chx0_3).toArray) fun b0_1 => ?_
  refine seg [.p 2] [] [] ?_
  refine fin ?_
  obtain ⟨t0_2, ht0_2, hm⟩ := bind_some hm
  refine rg [1, 0, 0] ?_
  refine seg [.l 0] [(4, .agg (cS26 x0 Ahx0_2 chx0_2 Ahx0_3 chx0_3).toArray)] [] ?_
  refine g_call0 5 (f40_ok _ _ ht0_2 (kS26_mk (cs := (cS26 x0 Ahx0_2 chx0_2 Ahx0_3 chx0_3)) x0 rfl hx0_2 hx0_3)) ?_
  rintro _ _ _ ⟨rfl, rfl, rfl⟩ -
  refine seg [.e 39 t0_2] [(6, .bool ((t0_2 : Int) != 0))] [] ?_
  refine fin ?_
  refine gi [1, 0, 1] hm (fun hm => ?_) fun hm => ?_
  · refine rs [1, 0, 1, 0, 0] [.p 2] [(2, .int .i64 0), (3, .int .i64 0)] [] ?_
    obtain rfl := Option.some.inj hm
    exact rtp (v := .tuple #[.int .i64 0, .int .i64 0]) [] ⟨rfl, rfl, rfl⟩
  · obtain ⟨t0_3, ht0_3, hm⟩ := bind_some hm
    refine rgD [1, 1, 0] (PT.of [1, 9, 13, 7, 19, 23, 24, 28] .dn) [(0, 0), (2, 0), (3, 0)] [0] mixed plain_done ?_
    refine seg [.l 0, .l 0, .l 0] [(7, .agg (cS26 x0 Ahx0_2 chx0_2 Ahx0_3 chx0_3).toArray), (9, .agg (cS26 x0 Ahx0_2 chx0_2 Ahx0_3 chx0_3).toArray), (10, .agg (cS26 x0 Ahx0_2 chx0_2 Ahx0_3 chx0_3).toArray)] [] ?_
    refine g_call0 8 (f80_ok _ _ ht0_3 (kS26_mk (cs := (cS26 x0 Ahx0_2 chx0_2 Ahx0_3 chx0_3)) x0 rfl hx0_2 hx0_3)) ?_
    rintro _ _ _ ⟨rfl, rfl, rfl⟩ -
    obtain ⟨t0_4, ht0_4, hm⟩ := bind_some hm
    refine g_call0 11 (f80_ok _ _ ht0_4 (kS26_mk (cs := (cS26 x0 Ahx0_2 chx0_2 Ahx0_3 chx0_3)) x0 rfl hx0_2 hx0_3)) ?_
    rintro _ _ _ ⟨rfl, rfl, rfl⟩ -
    obtain ⟨t0_5, ht0_5, hm⟩ := bind_some hm
    refine g_call0 12 (f74_ok _ _ _ ht0_5 (kS26_mk (cs := (cS26 x0 Ahx0_2 chx0_2 Ahx0_3 chx0_3)) x0 rfl hx0_2 hx0_3)) ?_
    rintro _ _ _ ⟨rfl, rfl, rfl⟩ -
    refine seg [.p 2] [(2, .int .i64 t0_3), (3, .int .i64 t0_5)] [] ?_
    refine fin ?_
    obtain rfl := Option.some.inj hm
    exact rtp (v := .tuple #[.int .i64 t0_3, .int .i64 t0_5]) [] ⟨rfl, rfl, rfl⟩

/-! ## heartwood/raft.in -/
/-- heartwood/raft.in: what is left behind a call. -/
abbrev R42 (M : Mem) (r : Bool) : Value → Mem → List Res → Prop := fun v M' H' => .bool r = v ∧ M = M' ∧ H' = []
noncomputable def c42 : Code := match Try.f42.body with | some c => c | none => .skip
abbrev C42 (w0 : World) (M0 : Mem) : Ctx := ⟨15, w0, M0, []⟩
abbrev D42 (w0 : World) (M0 : Mem) (r : Bool) : Post := Done Try.prog Try.f42 (C42 w0 M0) (R42 M0 r)
theorem f42_j1 {w0 : World} {M0 : Mem} {r : Bool} : ∀ {M : Mem} (xj1_s6 : Bool) (_ : m42_j1 xj1_s6 = some r), AG Try.prog c42 [1, 1] (D42 w0 M0 r) (C42 w0 M0) (env [(6, .bool xj1_s6)]) M [] := by
  intro M xj1_s6 hm; unfold m42_j1 at hm
  obtain rfl := Option.some.inj hm
  exact rtp (v := .bool xj1_s6) [] ⟨rfl, rfl, rfl⟩
theorem f42_ok {M : Mem} (x0 : Int) (x1 : Int) (x2 : Int) (r : Bool) (hm : m42 x0 x1 x2 = some r) : FnOk Try.prog 42 [.int .i64 x0, .int .i64 x1, .int .i64 x2] M [] (R42 M r) := by
  refine intro_ (c := c42) 15 Try.func42 fun w => ?_
  unfold m42 at hm
  refine rs [0] [.p 1] [] [] ?_
  refine rg [1, 0] ?_
  refine seg [.p 4] [(10, .bool (decide ((x0 : Int) ≥ x1)))] [] ?_
  refine gs 10 hm (fun hm => ?_) fun hm => ?_
  · refine seg [.p 5] [(6, .bool (decide ((x0 : Int) ≤ x2)))] [] ?_
    refine fin ?_
    exact to [] (@f42_j1 _ _ _ M _ hm)
  · refine seg [.p 5] [(6, .bool false)] [] ?_
    refine fin ?_
    exact to [] (@f42_j1 _ _ _ M _ hm)

/-! ## slices.Index[[]int,int] -/
/-- slices.Index[[]int,int]: what is left behind a call. -/
abbrev R81 (M : Mem) (r : Int) : Value → Mem → List Res → Prop := fun v M' H' => .int .i64 r = v ∧ M = M' ∧ H' = []
noncomputable def c81 : Code := match Try.f81.body with | some c => c | none => .skip
abbrev C81 (w0 : World) (M0 : Mem) : Ctx := ⟨19, w0, M0, []⟩
abbrev D81 (w0 : World) (M0 : Mem) (r : Int) : Post := Done Try.prog Try.f81 (C81 w0 M0) (R81 M0 r)
abbrev H81_j1 (w0 : World) (M0 : Mem) (r : Int) (Lj1 : Int → Int → (List Int) → Option Int) : Prop := ∀ {M : Mem} {cx0 : Nat} {Ax0 : Option Addr} (x1 xj1_s8 : Int) (x0 : List Int) (_ : Lj1 x1 xj1_s8 x0 = some r) (_ : SlAt (kint .i64) M Ax0 cx0 x0), AG Try.prog c81 [1, 0, 1, 0] (D81 w0 M0 r) (C81 w0 M0) (env [(0, .slice Ax0 x0.length cx0), (1, .int .i64 x1), (7, .int .i64 (x0.length : Int)), (8, .int .i64 xj1_s8)]) M []
theorem f81_j1 {w0 : World} {M0 : Mem} {r : Int} : ∀ k, H81_j1 w0 M0 r (m81_j1 k) := by
  intro k; induction k with
  | zero => intro M cx0 Ax0 x1 xj1_s8 x0 hm; exact absurd hm (by simp [m81_j1])
  | succ k ihj1 =>
    intro M cx0 Ax0 x1 xj1_s8 x0 hm hj1_s0
    rw [m81_j1.eq_2] at hm
    refine gl [1, 0, 1, 0] plain_done ?_
    refine rs [1, 0, 1, 0, 0, 0] [.p 1] [(9, .bool (decide ((xj1_s8 : Int) < (x0.length : Int))))] [] ?_
    refine gi [1, 0, 1, 0, 0, 1, 0] hm (fun hm => ?_) fun hm => ?_
    · refine rs [1, 0, 1, 0, 0, 1, 1, 0, 0, 0] [.p 2] [(5, .int .i64 xj1_s8)] [] ?_
      obtain ⟨ej1_1, bj1_2, fj1_3, kj1_4, Wj1_5, hm, haej1_1, hbej1_1, hmej1_1, hwej1_1, hrej1_1⟩ := ixo hm hj1_s0
      replace hwej1_1 := hwej1_1.trans hrej1_1
      refine rg [1, 0, 1, 0, 0, 1, 1, 0, 0, 1, 0] ?_
      refine seg [.p 3] [(11, .int .i64 x1), (12, .slice Ax0 x0.length cx0), (13, .int .i64 xj1_s8)] [] ?_
      refine g_ix 14 1 haej1_1 hbej1_1 ?_
      refine g_lw 15 0 (.int .i64 ej1_1) hmej1_1 hwej1_1 ?_
      refine seg [.p 1] [(16, .bool ((x1 : Int) == ej1_1))] [] ?_
      refine fin ?_
      refine gi [1, 0, 1, 0, 0, 1, 1, 0, 0, 1, 1] hm (fun hm => ?_) fun hm => ?_
      · refine rs [1, 0, 1, 0, 0, 1, 1, 0, 0, 1, 1, 0, 0] [.p 2] [(4, .int .i64 xj1_s8)] [] ?_
        obtain rfl := Option.some.inj hm
        exact rtp (v := .int .i64 xj1_s8) [] ⟨rfl, rfl, rfl⟩
      · refine rs [1, 0, 1, 0, 0, 1, 1, 1] [.p 2] [(8, .int .i64 (IntKind.i64.wrap (xj1_s8 + 1)))] [] ?_
        exact to [] (@ihj1 M cx0 Ax0 _ _ _ hm hj1_s0)
    · refine rs [1, 1, 0] [.p 1] [(4, .int .i64 (-1))] [] ?_
      obtain rfl := Option.some.inj hm
      exact rtp (v := .int .i64 (-1)) [] ⟨rfl, rfl, rfl⟩
theorem f81_ok {M : Mem} {Ax0 : Option Addr} {cx0 : Nat} (x0 : List Int) (x1 : Int) (r : Int) (hm : m81 x0 x1 = some r) (hx0 : SlAt (kint .i64) M Ax0 cx0 x0) : FnOk Try.prog 81 [.slice Ax0 x0.length cx0, .int .i64 x1] M [] (R81 M r) := by
  refine intro_ (c := c81) 19 Try.func81 fun w => ?_
  unfold m81 at hm
  refine rs [0] [.p 1] [] [] ?_
  refine rs [1, 0, 0] [.p 3] [(7, .int .i64 (x0.length : Int)), (8, .int .i64 0)] [] ?_
  exact to [] (@f81_j1 _ _ _ FUEL M cx0 Ax0 _ _ _ hm hx0)

/-! ## slices.Contains[[]int,int] -/
/-- slices.Contains[[]int,int]: what is left behind a call. -/
abbrev R43 (M : Mem) (r : Bool) : Value → Mem → List Res → Prop := fun v M' H' => .bool r = v ∧ M = M' ∧ H' = []
noncomputable def c43 : Code := match Try.f43.body with | some c => c | none => .skip
theorem f43_ok {M : Mem} {Ax0 : Option Addr} {cx0 : Nat} (x0 : List Int) (x1 : Int) (r : Bool) (hm : m43 x0 x1 = some r) (hx0 : SlAt (kint .i64) M Ax0 cx0 x0) : FnOk Try.prog 43 [.slice Ax0 x0.length cx0, .int .i64 x1] M [] (R43 M r) := by
  refine intro_ (c := c43) 9 Try.func43 fun w => ?_
  unfold m43 at hm
  refine rs [0] [.p 1] [] [] ?_
  obtain ⟨t0_1, ht0_1, hm⟩ := bind_some hm
  refine rg [1, 0] ?_
  refine seg [.p 2] [(5, .slice Ax0 x0.length cx0), (6, .int .i64 x1)] [] ?_
  refine g_call0 7 (f81_ok _ _ _ ht0_1 hx0) ?_
  rintro _ _ _ ⟨rfl, rfl, rfl⟩ -
  refine seg [.p 2] [(4, .bool (decide ((t0_1 : Int) ≥ 0)))] [] ?_
  refine fin ?_
  obtain rfl := Option.some.inj hm
  exact rtp (v := .bool (decide ((t0_1 : Int) ≥ 0))) [] ⟨rfl, rfl, rfl⟩

/-! ## heartwood/raft.Check -/
/-- heartwood/raft.Check: what is left behind a call. -/
abbrev R15 (M : Mem) (r : Int) : Value → Mem → List Res → Prop := fun v M' H' => errV 39 r = v ∧ M = M' ∧ H' = []
noncomputable def c15 : Code := match Try.f15.body with | some c => c | none => .skip
abbrev C15 (w0 : World) (M0 : Mem) : Ctx := ⟨119, w0, M0, []⟩
abbrev D15 (w0 : World) (M0 : Mem) (r : Int) : Post := Done Try.prog Try.f15 (C15 w0 M0) (R15 M0 r)
abbrev H15_j4 (w0 : World) (M0 : Mem) (r : Int) (Lj4 : Bool → Int → S31 → Option Int) : Prop := ∀ {M : Mem} {b0_1 chx0_10 chx0_7 chx0_8 : Nat} {Ahx0_10 Ahx0_7 Ahx0_8 : Option Addr} (xj4_s5 : Bool) (xj4_s96 : Int) (x0 : S31) (_ : Lj4 xj4_s5 xj4_s96 x0 = some r) (_ : SlAt (kint .i64) M Ahx0_10 chx0_10 x0.f7) (_ : SlAt (kint .i64) M Ahx0_7 chx0_7 x0.f5.f0.f2) (_ : SlAt kS80 M Ahx0_8 chx0_8 x0.f5.f1) (_ : SlAt (kint .i64) M Ahx0_10 chx0_10 x0.f7) (_ : x0.f8.length = 8) (_ : x0.f9.length = 8), AG Try.prog c15 [1, 1, 1, 1, 1, 0, 1, 0] (D15 w0 M0 r) (C15 w0 M0) (env [(1, .pointer (some ⟨b0_1, 0, none⟩)), (5, .bool xj4_s5), (94, .slice Ahx0_10 x0.f7.length chx0_10), (95, .int .i64 (x0.f7.length : Int)), (96, .int .i64 xj4_s96)]) M [.blk b0_1 (cS31 x0 Ahx0_7 chx0_7 Ahx0_8 chx0_8 Ahx0_10 chx0_10) 32]
abbrev H15_j2 (w0 : World) (M0 : Mem) (r : Int) (Lj2 : Bool → Int → S31 → Option Int) : Prop := ∀ {M : Mem} {b0_1 chx0_10 chx0_7 chx0_8 : Nat} {Ahx0_10 Ahx0_7 Ahx0_8 : Option Addr} (xj2_s5 : Bool) (xj2_s74 : Int) (x0 : S31) (_ : Lj2 xj2_s5 xj2_s74 x0 = some r) (_ : SlAt (kint .i64) M Ahx0_7 chx0_7 x0.f5.f0.f2) (_ : SlAt kS80 M Ahx0_8 chx0_8 x0.f5.f1) (_ : SlAt (kint .i64) M Ahx0_10 chx0_10 x0.f7) (_ : x0.f8.length = 8) (_ : x0.f9.length = 8), AG Try.prog c15 [1, 1, 1, 1, 0, 1, 0] (D15 w0 M0 r) (C15 w0 M0) (env [(1, .pointer (some ⟨b0_1, 0, none⟩)), (5, .bool xj2_s5), (74, .int .i64 xj2_s74)]) M [.blk b0_1 (cS31 x0 Ahx0_7 chx0_7 Ahx0_8 chx0_8 Ahx0_10 chx0_10) 32]
theorem f15_j5 {w0 : World} {M0 : Mem} {r : Int} {Lj4 : Bool → Int → S31 → Option Int} (ihj4 : H15_j4 w0 M0 r Lj4) : ∀ {M : Mem} {b0_1 chx0_10 chx0_7 chx0_8 : Nat} {Ahx0_10 Ahx0_7 Ahx0_8 : Option Addr} (xj5_s5 : Bool) (xj5_s96 : Int) (x0 : S31) (_ : m15_j5 Lj4 xj5_s5 xj5_s96 x0 = some r) (_ : SlAt (kint .i64) M Ahx0_10 chx0_10 x0.f7) (_ : SlAt (kint .i64) M Ahx0_7 chx0_7 x0.f5.f0.f2) (_ : SlAt kS80 M Ahx0_8 chx0_8 x0.f5.f1) (_ : SlAt (kint .i64) M Ahx0_10 chx0_10 x0.f7) (_ : x0.f8.length = 8) (_ : x0.f9.length = 8), AG Try.prog c15 [1, 1, 1, 1, 1, 0, 1, 0, 0, 1, 1, 1] (D15 w0 M0 r) (C15 w0 M0) (env [(1, .pointer (some ⟨b0_1, 0, none⟩)), (5, .bool xj5_s5), (94, .slice Ahx0_10 x0.f7.length chx0_10), (95, .int .i64 (x0.f7.length : Int)), (96, .int .i64 xj5_s96)]) M [.blk b0_1 (cS31 x0 Ahx0_7 chx0_7 Ahx0_8 chx0_8 Ahx0_10 chx0_10) 32] := by
  intro M b0_1 chx0_10 chx0_7 chx0_8 Ahx0_10 Ahx0_7 Ahx0_8 xj5_s5 xj5_s96 x0 hm hj5_s94 hj5_0_0_l7 hj5_0_0_l8 hj5_0_0_l10 lj5_0_0_l11 lj5_0_0_l12; unfold m15_j5 at hm
  refine rs [1, 1, 1, 1, 1, 0, 1, 0, 0, 1, 1, 1] [.p 2] [(96, .int .i64 (IntKind.i64.wrap (xj5_s96 + 1)))] [] ?_
  exact to [0] (@ihj4 M b0_1 chx0_10 chx0_7 chx0_8 Ahx0_10 Ahx0_7 Ahx0_8 _ _ _ hm hj5_s94 hj5_0_0_l7 hj5_0_0_l8 hj5_0_0_l10 lj5_0_0_l11 lj5_0_0_l12)
theorem f15_j4 {w0 : World} {M0 : Mem} {r : Int} : ∀ k, H15_j4 w0 M0 r (m15_j4 k) := by
  intro k; induction k with
  | zero => intro M b0_1 chx0_10 chx0_7 chx0_8 Ahx0_10 Ahx0_7 Ahx0_8 xj4_s5 xj4_s96 x0 hm; exact absurd hm (by simp [m15_j4])
  | succ k ihj4 =>
    intro M b0_1 chx0_10 chx0_7 chx0_8 Ahx0_10 Ahx0_7 Ahx0_8 xj4_s5 xj4_s96 x0 hm hj4_s94 hj4_0_0_l7 hj4_0_0_l8 hj4_0_0_l10 lj4_0_0_l11 lj4_0_0_l12
    rw [m15_j4.eq_2] at hm
    refine gl [1, 1, 1, 1, 1, 0, 1, 0] plain_done ?_
    refine rs [1, 1, 1, 1, 1, 0, 1, 0, 0, 0] [.p 1] [(97, .bool (decide ((xj4_s96 : Int) < (x0.f7.length : Int))))] [] ?_
    refine gi [1, 1, 1, 1, 1, 0, 1, 0, 0, 1, 0] hm (fun hm => ?_) fun hm => ?_
    · obtain ⟨ej4_1, bj4_2, fj4_3, kj4_4, Wj4_5, hm, haej4_1, hbej4_1, hmej4_1, hwej4_1, hrej4_1⟩ := ixo hm hj4_s94
      replace hwej4_1 := hwej4_1.trans hrej4_1
      refine rg [1, 1, 1, 1, 1, 0, 1, 0, 0, 1, 1, 0, 0, 0] ?_
      refine seg [.p 1] [(98, .int .i64 xj4_s96)] [] ?_
      refine g_ix 99 1 haej4_1 hbej4_1 ?_
      refine g_lw 100 0 (.int .i64 ej4_1) hmej4_1 hwej4_1 ?_
      refine seg [.p 2] [(7, .int .i64 xj4_s96), (8, .int .i64 ej4_1)] [] ?_
      refine fin ?_
      refine rg [1, 1, 1, 1, 1, 0, 1, 0, 0, 1, 1, 0, 0, 1] ?_
      refine seg [.p 2] [(102, .bool xj4_s5)] [] ?_
      refine gs 102 hm (fun hm => ?_) fun hm => ?_
      · obtain ⟨tj4_6, htj4_6, hm⟩ := bind_some hm
        refine seg [.p 1] [(103, .int .i64 ej4_1)] [] ?_
        refine g_call0 104 (f42_ok (M := M) _ _ _ _ htj4_6) ?_
        rintro _ _ _ ⟨rfl, rfl, rfl⟩ -
        refine seg [.p 2] [(106, .bool tj4_6)] [] ?_
        refine gs 106 hm (fun hm => ?_) fun hm => ?_
        · obtain ⟨hbj4_7, hm⟩ := gd3 hm
          refine seg [.p 1, .l 0, .p 1] [(108, .slice Ahx0_10 x0.f7.length chx0_10), (109, .int .i64 xj4_s96)] [] ?_
          refine g_sl 110 hj4_0_0_l10 hbj4_7 fun Aj4_8 cj4_9 lj4_9 => ?_
          obtain ⟨tj4_10, htj4_10, hm⟩ := bind_some hm
          refine seg [.p 1] [(111, .int .i64 ej4_1)] [] ?_
          refine g_call0 112 (f43_ok _ _ _ htj4_10 lj4_9) ?_
          rintro _ _ _ ⟨rfl, rfl, rfl⟩ -
          refine seg [.p 3] [(5, .bool (!tj4_10))] [] ?_
          refine fin ?_
          exact to [0] (@f15_j5 _ _ _ _ ihj4 M b0_1 chx0_10 chx0_7 chx0_8 Ahx0_10 Ahx0_7 Ahx0_8 _ _ _ hm hj4_s94 hj4_0_0_l7 hj4_0_0_l8 hj4_0_0_l10 lj4_0_0_l11 lj4_0_0_l12)
        · refine seg [.p 9] [(5, .bool false)] [] ?_
          refine fin ?_
          exact to [0] (@f15_j5 _ _ _ _ ihj4 M b0_1 chx0_10 chx0_7 chx0_8 Ahx0_10 Ahx0_7 Ahx0_8 _ _ _ hm hj4_s94 hj4_0_0_l7 hj4_0_0_l8 hj4_0_0_l10 lj4_0_0_l11 lj4_0_0_l12)
      · refine seg [.p 13] [(5, .bool false)] [] ?_
        refine fin ?_
        exact to [0] (@f15_j5 _ _ _ _ ihj4 M b0_1 chx0_10 chx0_7 chx0_8 Ahx0_10 Ahx0_7 Ahx0_8 _ _ _ hm hj4_s94 hj4_0_0_l7 hj4_0_0_l8 hj4_0_0_l10 lj4_0_0_l11 lj4_0_0_l12)
    · refine rs [1, 1, 1, 1, 1, 1, 0, 0] [.p 2] [(117, .bool (!xj4_s5))] [] ?_
      refine gi [1, 1, 1, 1, 1, 1, 0, 1] hm (fun hm => ?_) fun hm => ?_
      · refine rs [1, 1, 1, 1, 1, 1, 0, 1, 0, 0] [.p 2] [(2, errV 39 3)] [] ?_
        obtain rfl := Option.some.inj hm
        exact rtp (v := errV 39 3) [] ⟨rfl, rfl, rfl⟩
      · refine rs [1, 1, 1, 1, 1, 1, 1, 0] [.p 1] [(2, .nilIface)] [] ?_
        obtain rfl := Option.some.inj hm
        exact rtp (v := .nilIface) [] ⟨rfl, rfl, rfl⟩
theorem f15_j3 {w0 : World} {M0 : Mem} {r : Int} {Lj2 : Bool → Int → S31 → Option Int} (ihj2 : H15_j2 w0 M0 r Lj2) : ∀ {M : Mem} {b0_1 chx0_10 chx0_7 chx0_8 : Nat} {Ahx0_10 Ahx0_7 Ahx0_8 : Option Addr} (xj3_s5 : Bool) (xj3_s74 : Int) (x0 : S31) (_ : m15_j3 Lj2 xj3_s5 xj3_s74 x0 = some r) (_ : SlAt (kint .i64) M Ahx0_7 chx0_7 x0.f5.f0.f2) (_ : SlAt kS80 M Ahx0_8 chx0_8 x0.f5.f1) (_ : SlAt (kint .i64) M Ahx0_10 chx0_10 x0.f7) (_ : x0.f8.length = 8) (_ : x0.f9.length = 8), AG Try.prog c15 [1, 1, 1, 1, 0, 1, 0, 0, 1, 1, 1] (D15 w0 M0 r) (C15 w0 M0) (env [(1, .pointer (some ⟨b0_1, 0, none⟩)), (5, .bool xj3_s5), (74, .int .i64 xj3_s74)]) M [.blk b0_1 (cS31 x0 Ahx0_7 chx0_7 Ahx0_8 chx0_8 Ahx0_10 chx0_10) 32] := by
  intro M b0_1 chx0_10 chx0_7 chx0_8 Ahx0_10 Ahx0_7 Ahx0_8 xj3_s5 xj3_s74 x0 hm hj3_0_0_l7 hj3_0_0_l8 hj3_0_0_l10 lj3_0_0_l11 lj3_0_0_l12; unfold m15_j3 at hm
  refine rs [1, 1, 1, 1, 0, 1, 0, 0, 1, 1, 1] [.p 2] [(74, .int .i64 (IntKind.i64.wrap (xj3_s74 + 1)))] [] ?_
  exact to [0] (@ihj2 M b0_1 chx0_10 chx0_7 chx0_8 Ahx0_10 Ahx0_7 Ahx0_8 _ _ _ hm hj3_0_0_l7 hj3_0_0_l8 hj3_0_0_l10 lj3_0_0_l11 lj3_0_0_l12)
theorem f15_j2 {w0 : World} {M0 : Mem} {r : Int} : ∀ k, H15_j2 w0 M0 r (m15_j2 k) := by
  intro k; induction k with
  | zero => intro M b0_1 chx0_10 chx0_7 chx0_8 Ahx0_10 Ahx0_7 Ahx0_8 xj2_s5 xj2_s74 x0 hm; exact absurd hm (by simp [m15_j2])
  | succ k ihj2 =>
    intro M b0_1 chx0_10 chx0_7 chx0_8 Ahx0_10 Ahx0_7 Ahx0_8 xj2_s5 xj2_s74 x0 hm hj2_0_0_l7 hj2_0_0_l8 hj2_0_0_l10 lj2_0_0_l11 lj2_0_0_l12
    rw [m15_j2.eq_2] at hm
    refine gl [1, 1, 1, 1, 0, 1, 0] plain_done ?_
    refine rs [1, 1, 1, 1, 0, 1, 0, 0, 0] [.p 1] [(75, .bool (decide ((xj2_s74 : Int) < 8)))] [] ?_
    refine gi [1, 1, 1, 1, 0, 1, 0, 0, 1, 0] hm (fun hm => ?_) fun hm => ?_
    · refine rs [1, 1, 1, 1, 0, 1, 0, 0, 1, 1, 0, 0, 0] [.p 2] [(6, .int .i64 xj2_s74)] [] ?_
      refine rg [1, 1, 1, 1, 0, 1, 0, 0, 1, 1, 0, 0, 1] ?_
      refine seg [.p 2] [(78, .bool xj2_s5)] [] ?_
      refine gs 78 hm (fun hm => ?_) fun hm => ?_
      · obtain ⟨hbj2_1, hm⟩ := gd2 hm
        refine seg [.p 2] [(79, .int .i64 xj2_s74), (80, .pointer (some ⟨b0_1, 11, none⟩))] [] ?_
        refine g_ixA 81 b0_1 11 8 1 hbj2_1 ?_
        refine g_la 82 0 11 8 .i64 lj2_0_0_l11 hbj2_1 ?_
        obtain ⟨tj2_2, htj2_2, hm⟩ := bind_some hm
        refine g_call0 83 (f42_ok (M := M) _ _ _ _ htj2_2) ?_
        rintro _ _ _ ⟨rfl, rfl, rfl⟩ -
        refine seg [.p 2] [(85, .bool tj2_2)] [] ?_
        refine gs 85 hm (fun hm => ?_) fun hm => ?_
        · obtain ⟨hbj2_3, hm⟩ := gd2 hm
          refine seg [.p 2] [(86, .int .i64 xj2_s74), (87, .pointer (some ⟨b0_1, 19, none⟩))] [] ?_
          refine g_ixA 88 b0_1 19 8 1 hbj2_3 ?_
          refine g_la 89 0 19 8 .i64 lj2_0_0_l12 hbj2_3 ?_
          obtain ⟨tj2_4, htj2_4, hm⟩ := bind_some hm
          refine g_call0 90 (f42_ok (M := M) _ _ _ _ htj2_4) ?_
          rintro _ _ _ ⟨rfl, rfl, rfl⟩ -
          refine seg [.p 2] [(5, .bool tj2_4)] [] ?_
          refine fin ?_
          exact to [0] (@f15_j3 _ _ _ _ ihj2 M b0_1 chx0_10 chx0_7 chx0_8 Ahx0_10 Ahx0_7 Ahx0_8 _ _ _ hm hj2_0_0_l7 hj2_0_0_l8 hj2_0_0_l10 lj2_0_0_l11 lj2_0_0_l12)
        · refine seg [.p 7] [(5, .bool false)] [] ?_
          refine fin ?_
          exact to [0] (@f15_j3 _ _ _ _ ihj2 M b0_1 chx0_10 chx0_7 chx0_8 Ahx0_10 Ahx0_7 Ahx0_8 _ _ _ hm hj2_0_0_l7 hj2_0_0_l8 hj2_0_0_l10 lj2_0_0_l11 lj2_0_0_l12)
      · refine seg [.p 14] [(5, .bool false)] [] ?_
        refine fin ?_
        exact to [0] (@f15_j3 _ _ _ _ ihj2 M b0_1 chx0_10 chx0_7 chx0_8 Ahx0_10 Ahx0_7 Ahx0_8 _ _ _ hm hj2_0_0_l7 hj2_0_0_l8 hj2_0_0_l10 lj2_0_0_l11 lj2_0_0_l12)
    · refine rs [1, 1, 1, 1, 1, 0, 0] [.p 1, .l 0, .p 2] [(94, .slice Ahx0_10 x0.f7.length chx0_10), (95, .int .i64 (x0.f7.length : Int)), (96, .int .i64 0)] [] ?_
      exact to [0] (@f15_j4 _ _ _ FUEL M b0_1 chx0_10 chx0_7 chx0_8 Ahx0_10 Ahx0_7 Ahx0_8 _ _ _ hm hj2_0_0_l10 hj2_0_0_l7 hj2_0_0_l8 hj2_0_0_l10 lj2_0_0_l11 lj2_0_0_l12)
theorem f15_j1 {w0 : World} {M0 : Mem} {r : Int} : ∀ {M : Mem} {b0_1 chx0_10 chx0_7 chx0_8 : Nat} {Ahx0_10 Ahx0_7 Ahx0_8 : Option Addr} (xj1_s5 : Bool) (x0 : S31) (_ : m15_j1 xj1_s5 x0 = some r) (_ : SlAt (kint .i64) M Ahx0_7 chx0_7 x0.f5.f0.f2) (_ : SlAt kS80 M Ahx0_8 chx0_8 x0.f5.f1) (_ : SlAt (kint .i64) M Ahx0_10 chx0_10 x0.f7) (_ : x0.f8.length = 8) (_ : x0.f9.length = 8), AG Try.prog c15 [1, 1, 1, 1] (D15 w0 M0 r) (C15 w0 M0) (env [(1, .pointer (some ⟨b0_1, 0, none⟩)), (5, .bool xj1_s5)]) M [.blk b0_1 (cS31 x0 Ahx0_7 chx0_7 Ahx0_8 chx0_8 Ahx0_10 chx0_10) 32] := by
  intro M b0_1 chx0_10 chx0_7 chx0_8 Ahx0_10 Ahx0_7 Ahx0_8 xj1_s5 x0 hm hj1_0_0_l7 hj1_0_0_l8 hj1_0_0_l10 lj1_0_0_l11 lj1_0_0_l12; unfold m15_j1 at hm
  refine rs [1, 1, 1, 1, 0, 0] [.p 1] [(74, .int .i64 0)] [] ?_
  exact to [0] (@f15_j2 _ _ _ FUEL M b0_1 chx0_10 chx0_7 chx0_8 Ahx0_10 Ahx0_7 Ahx0_8 _ _ _ hm hj1_0_0_l7 hj1_0_0_l8 hj1_0_0_l10 lj1_0_0_l11 lj1_0_0_l12)
theorem f15_ok {M : Mem} {csx0 : List Value} (x0 : S31) (r : Int) (hm : m15 x0 = some r) (hx0 : kS31.rep M csx0 x0) : FnOk Try.prog 15 [.agg csx0.toArray] M [] (R15 M r) := by
  obtain ⟨Ahx0_7, chx0_7, Ahx0_8, chx0_8, Ahx0_10, chx0_10, rfl, hx0_7, hx0_8, hx0_10, hx0_11, hx0_12⟩ := kS31_open hx0
  refine intro_ (c := c15) 119 Try.func15 fun w => ?_
  unfold m15 at hm
  refine rg [0] ?_
  refine g_bx 1 32 (.agg (cS31 x0 Ahx0_7 chx0_7 Ahx0_8 chx0_8 Ahx0_10 chx0_10).toArray) fun b0_1 => ?_
  refine seg [.p 1] [] [] ?_
  refine fin ?_
  obtain ⟨t0_2, ht0_2, hm⟩ := bind_some hm
  refine rg [1, 0, 0] ?_
  refine seg [.p 1, .l 0] [(10, .agg (cS26 x0.f5 Ahx0_7 chx0_7 Ahx0_8 chx0_8).toArray)] [] ?_
  refine g_call0 11 (f40_ok _ _ ht0_2 (kS26_mk (cs := (cS26 x0.f5 Ahx0_7 chx0_7 Ahx0_8 chx0_8)) x0.f5 rfl hx0_7 hx0_8)) ?_
  rintro _ _ _ ⟨rfl, rfl, rfl⟩ -
  refine seg [.e 39 t0_2] [(12, .bool ((t0_2 : Int) != 0))] [] ?_
  refine fin ?_
  refine gi [1, 0, 1] hm (fun hm => ?_) fun hm => ?_
  · refine rs [1, 0, 1, 0, 0] [.p 2] [(2, errV 39 3)] [] ?_
    obtain rfl := Option.some.inj hm
    exact rtp (v := errV 39 3) [] ⟨rfl, rfl, rfl⟩
  · obtain ⟨t0_3, ht0_3, hm⟩ := bind_some hm
    refine rg [1, 1, 0] ?_
    refine seg [.p 1, .l 0] [(16, .agg (cS26 x0.f5 Ahx0_7 chx0_7 Ahx0_8 chx0_8).toArray)] [] ?_
    refine g_call0 17 (f41_ok _ _ ht0_3 (kS26_mk (cs := (cS26 x0.f5 Ahx0_7 chx0_7 Ahx0_8 chx0_8)) x0.f5 rfl hx0_7 hx0_8)) ?_
    rintro _ _ _ ⟨rfl, rfl, rfl⟩ -
    refine seg [.p 5] [(3, .int .i64 t0_3.1), (4, .int .i64 t0_3.2)] [] ?_
    refine fin ?_
    obtain ⟨t0_4, ht0_4, hm⟩ := bind_some hm
    refine rg [1, 1, 1, 0] ?_
    refine seg [.p 1, .l 0] [(21, .int .i64 x0.f0)] [] ?_
    refine g_call0 22 (f42_ok (M := M) _ _ _ _ ht0_4) ?_
    rintro _ _ _ ⟨rfl, rfl, rfl⟩ -
    refine seg [.p 1] [(23, .bool t0_4)] [] ?_
    refine gs 23 hm (fun hm => ?_) fun hm => ?_
    · obtain ⟨t0_5, ht0_5, hm⟩ := bind_some hm
      refine seg [.p 1, .l 0, .p 1] [(25, .int .i64 x0.f1), (26, .int .i64 t0_3.2)] [] ?_
      refine g_call0 27 (f42_ok (M := M) _ _ _ _ ht0_5) ?_
      rintro _ _ _ ⟨rfl, rfl, rfl⟩ -
      refine seg [.p 2] [(29, .bool t0_5)] [] ?_
      refine gs 29 hm (fun hm => ?_) fun hm => ?_
      · obtain ⟨t0_6, ht0_6, hm⟩ := bind_some hm
        refine seg [.p 1, .l 0] [(31, .int .i64 x0.f2)] [] ?_
        refine g_call0 32 (f42_ok (M := M) _ _ _ _ ht0_6) ?_
        rintro _ _ _ ⟨rfl, rfl, rfl⟩ -
        refine seg [.p 2] [(34, .bool t0_6)] [] ?_
        refine gs 34 hm (fun hm => ?_) fun hm => ?_
        · obtain ⟨t0_7, ht0_7, hm⟩ := bind_some hm
          refine seg [.p 1, .l 0] [(36, .int .i64 x0.f4)] [] ?_
          refine g_call0 37 (f42_ok (M := M) _ _ _ _ ht0_7) ?_
          rintro _ _ _ ⟨rfl, rfl, rfl⟩ -
          refine seg [.p 2] [(39, .bool t0_7)] [] ?_
          refine gs 39 hm (fun hm => ?_) fun hm => ?_
          · obtain ⟨t0_8, ht0_8, hm⟩ := bind_some hm
            refine seg [.p 1, .l 0] [(41, .int .i64 x0.f3)] [] ?_
            refine g_call0 42 (f42_ok (M := M) _ _ _ _ ht0_8) ?_
            rintro _ _ _ ⟨rfl, rfl, rfl⟩ -
            refine seg [.p 2] [(44, .bool t0_8)] [] ?_
            refine gs 44 hm (fun hm => ?_) fun hm => ?_
            · refine seg [.p 1, .l 0, .p 2] [(48, .bool (decide ((x0.f1 : Int) > 0)))] [] ?_
              refine gs 48 hm (fun hm => ?_) fun hm => ?_
              · obtain ⟨t0_9, ht0_9, hm⟩ := bind_some hm
                refine seg [.p 7, .l 0, .p 3, .l 0, .p 1] [(54, .bool true), (56, .int .i64 x0.f6), (60, .int .i64 x0.f5.f0.f0), (61, .int .i64 t0_3.1)] [] ?_
                refine g_call0 62 (f42_ok (M := M) _ _ _ _ ht0_9) ?_
                rintro _ _ _ ⟨rfl, rfl, rfl⟩ -
                refine seg [.p 2] [(64, .bool t0_9)] [] ?_
                refine gs 64 hm (fun hm => ?_) fun hm => ?_
                · obtain ⟨t0_10, ht0_10, hm⟩ := bind_some hm
                  refine seg [.p 1, .l 0] [(66, .int .i64 x0.f10)] [] ?_
                  refine g_call0 67 (f42_ok (M := M) _ _ _ _ ht0_10) ?_
                  rintro _ _ _ ⟨rfl, rfl, rfl⟩ -
                  refine seg [.p 2] [(69, .bool t0_10)] [] ?_
                  refine gs 69 hm (fun hm => ?_) fun hm => ?_
                  · obtain ⟨t0_11, ht0_11, hm⟩ := bind_some hm
                    refine seg [.p 1, .l 0] [(71, .int .i64 x0.f11)] [] ?_
                    refine g_call0 72 (f42_ok (M := M) _ _ _ _ ht0_11) ?_
                    rintro _ _ _ ⟨rfl, rfl, rfl⟩ -
                    refine seg [.p 2] [(5, .bool t0_11)] [] ?_
                    refine fin ?_
                    exact to [0] (@f15_j1 _ _ _ M b0_1 chx0_10 chx0_7 chx0_8 Ahx0_10 Ahx0_7 Ahx0_8 _ _ hm hx0_7 hx0_8 hx0_10 hx0_11 hx0_12)
                  · refine seg [.p 5] [(5, .bool false)] [] ?_
                    refine fin ?_
                    exact to [0] (@f15_j1 _ _ _ M b0_1 chx0_10 chx0_7 chx0_8 Ahx0_10 Ahx0_7 Ahx0_8 _ _ hm hx0_7 hx0_8 hx0_10 hx0_11 hx0_12)
                · refine seg [.p 10] [(5, .bool false)] [] ?_
                  refine fin ?_
                  exact to [0] (@f15_j1 _ _ _ M b0_1 chx0_10 chx0_7 chx0_8 Ahx0_10 Ahx0_7 Ahx0_8 _ _ hm hx0_7 hx0_8 hx0_10 hx0_11 hx0_12)
              · refine seg [.p 1, .l 0, .p 4] [(54, .bool ((x0.f3 : Int) == 0))] [] ?_
                refine gs 54 hm (fun hm => ?_) fun hm => ?_
                · obtain ⟨t0_12, ht0_12, hm⟩ := bind_some hm
                  refine seg [.p 1, .l 0, .p 3, .l 0, .p 1] [(56, .int .i64 x0.f6), (60, .int .i64 x0.f5.f0.f0), (61, .int .i64 t0_3.1)] [] ?_
                  refine g_call0 62 (f42_ok (M := M) _ _ _ _ ht0_12) ?_
                  rintro _ _ _ ⟨rfl, rfl, rfl⟩ -
                  refine seg [.p 2] [(64, .bool t0_12)] [] ?_
                  refine gs 64 hm (fun hm => ?_) fun hm => ?_
                  · obtain ⟨t0_13, ht0_13, hm⟩ := bind_some hm
                    refine seg [.p 1, .l 0] [(66, .int .i64 x0.f10)] [] ?_
                    refine g_call0 67 (f42_ok (M := M) _ _ _ _ ht0_13) ?_
                    rintro _ _ _ ⟨rfl, rfl, rfl⟩ -
                    refine seg [.p 2] [(69, .bool t0_13)] [] ?_
                    refine gs 69 hm (fun hm => ?_) fun hm => ?_
                    · obtain ⟨t0_14, ht0_14, hm⟩ := bind_some hm
                      refine seg [.p 1, .l 0] [(71, .int .i64 x0.f11)] [] ?_
                      refine g_call0 72 (f42_ok (M := M) _ _ _ _ ht0_14) ?_
                      rintro _ _ _ ⟨rfl, rfl, rfl⟩ -
                      refine seg [.p 2] [(5, .bool t0_14)] [] ?_
                      refine fin ?_
                      exact to [0] (@f15_j1 _ _ _ M b0_1 chx0_10 chx0_7 chx0_8 Ahx0_10 Ahx0_7 Ahx0_8 _ _ hm hx0_7 hx0_8 hx0_10 hx0_11 hx0_12)
                    · refine seg [.p 5] [(5, .bool false)] [] ?_
                      refine fin ?_
                      exact to [0] (@f15_j1 _ _ _ M b0_1 chx0_10 chx0_7 chx0_8 Ahx0_10 Ahx0_7 Ahx0_8 _ _ hm hx0_7 hx0_8 hx0_10 hx0_11 hx0_12)
                  · refine seg [.p 10] [(5, .bool false)] [] ?_
                    refine fin ?_
                    exact to [0] (@f15_j1 _ _ _ M b0_1 chx0_10 chx0_7 chx0_8 Ahx0_10 Ahx0_7 Ahx0_8 _ _ hm hx0_7 hx0_8 hx0_10 hx0_11 hx0_12)
                · refine seg [.p 20] [(5, .bool false)] [] ?_
                  refine fin ?_
                  exact to [0] (@f15_j1 _ _ _ M b0_1 chx0_10 chx0_7 chx0_8 Ahx0_10 Ahx0_7 Ahx0_8 _ _ hm hx0_7 hx0_8 hx0_10 hx0_11 hx0_12)
            · refine seg [.p 30] [(5, .bool false)] [] ?_
              refine fin ?_
              exact to [0] (@f15_j1 _ _ _ M b0_1 chx0_10 chx0_7 chx0_8 Ahx0_10 Ahx0_7 Ahx0_8 _ _ hm hx0_7 hx0_8 hx0_10 hx0_11 hx0_12)
          · refine seg [.p 35] [(5, .bool false)] [] ?_
            refine fin ?_
            exact to [0] (@f15_j1 _ _ _ M b0_1 chx0_10 chx0_7 chx0_8 Ahx0_10 Ahx0_7 Ahx0_8 _ _ hm hx0_7 hx0_8 hx0_10 hx0_11 hx0_12)
        · refine seg [.p 40] [(5, .bool false)] [] ?_
          refine fin ?_
          exact to [0] (@f15_j1 _ _ _ M b0_1 chx0_10 chx0_7 chx0_8 Ahx0_10 Ahx0_7 Ahx0_8 _ _ hm hx0_7 hx0_8 hx0_10 hx0_11 hx0_12)
      · refine seg [.p 45] [(5, .bool false)] [] ?_
        refine fin ?_
        exact to [0] (@f15_j1 _ _ _ M b0_1 chx0_10 chx0_7 chx0_8 Ahx0_10 Ahx0_7 Ahx0_8 _ _ hm hx0_7 hx0_8 hx0_10 hx0_11 hx0_12)
    · refine seg [.p 51] [(5, .bool false)] [] ?_
      refine fin ?_
      exact to [0] (@f15_j1 _ _ _ M b0_1 chx0_10 chx0_7 chx0_8 Ahx0_10 Ahx0_7 Ahx0_8 _ _ hm hx0_7 hx0_8 hx0_10 hx0_11 hx0_12)

/-! ## heartwood/raft.New -/
/-- heartwood/raft.New: what is left behind a call. -/
abbrev R10 (M : Mem) (r : (S31 × Int)) : Value → Mem → List Res → Prop := fun v M' H' => ∃ (q0 : List Value), .tuple #[.agg q0.toArray, errV 39 r.2] = v ∧ H' = [] ∧ kS31.rep M' q0 r.1
noncomputable def c10 : Code := match Try.f10.body with | some c => c | none => .skip
abbrev C10 (w0 : World) (M0 : Mem) : Ctx := ⟨31, w0, M0, []⟩
abbrev D10 (w0 : World) (M0 : Mem) (r : (S31 × Int)) : Post := Done Try.prog Try.f10 (C10 w0 M0) (R10 M0 r)
theorem f10_j1 {w0 : World} {M0 : Mem} {r : (S31 × Int)} : ∀ {M : Mem} {b0_2 b0_663 chx3_2 chx3_3 : Nat} {Ahx3_2 Ahx3_3 : Option Addr} (t0_543 x0 x1 x2 : Int) (x3 : S26) (_ : m10_j1 t0_543 x0 x1 x2 x3 = some r) (_ : [0, 0, 0, 0, 0, 0, 0, 0].length = 8) (_ : [0, 0, 0, 0, 0, 0, 0, 0].length = 8) (_ : SlAt (kint .i64) M Ahx3_2 chx3_2 x3.f0.f2) (_ : SlAt kS80 M Ahx3_3 chx3_3 x3.f1) (_ : [0, 0, 0, 0, 0, 0, 0, 0].length = 8) (_ : [0, 0, 0, 0, 0, 0, 0, 0].length = 8), AG Try.prog c10 [1, 1] (D10 w0 M0 r) (C10 w0 M0) (env [(10, .pointer (some ⟨b0_2, 0, none⟩)), (12, .pointer (some ⟨b0_663, 0, none⟩))]) M [.blk b0_2 (cS31 (S31.mk 0 0 0 0 0 (S26.mk (S23.mk 0 0 []) []) 0 [] [0, 0, 0, 0, 0, 0, 0, 0] [0, 0, 0, 0, 0, 0, 0, 0] 0 0) none 0 none 0 none 0) 32, .blk b0_663 (cS31 (S31.mk x0 x1 x2 0 0 x3 x3.f0.f0 [] [0, 0, 0, 0, 0, 0, 0, 0] [0, 0, 0, 0, 0, 0, 0, 0] 0 t0_543) Ahx3_2 chx3_2 Ahx3_3 chx3_3 none 0) 32] := by
  intro M b0_2 b0_663 chx3_2 chx3_3 Ahx3_2 Ahx3_3 t0_543 x0 x1 x2 x3 hm lj1_0_1_l11 lj1_0_1_l12 hj1_1_0_10_l7 hj1_1_0_10_l8 lj1_1_0_10_l11 lj1_1_0_10_l12; unfold m10_j1 at hm
  obtain ⟨tj1_1, htj1_1, hm⟩ := bind_some hm
  refine rg [1, 1, 0, 0] ?_
  refine seg [.l 1] [(24, .agg (cS31 (S31.mk x0 x1 x2 0 0 x3 x3.f0.f0 [] [0, 0, 0, 0, 0, 0, 0, 0] [0, 0, 0, 0, 0, 0, 0, 0] 0 t0_543) Ahx3_2 chx3_2 Ahx3_3 chx3_3 none 0).toArray)] [] ?_
  refine g_call0 25 (f15_ok _ _ htj1_1 (kS31_mk (cs := (cS31 (S31.mk x0 x1 x2 0 0 x3 x3.f0.f0 [] [0, 0, 0, 0, 0, 0, 0, 0] [0, 0, 0, 0, 0, 0, 0, 0] 0 t0_543) Ahx3_2 chx3_2 Ahx3_3 chx3_3 none 0)) (S31.mk x0 x1 x2 0 0 x3 x3.f0.f0 [] [0, 0, 0, 0, 0, 0, 0, 0] [0, 0, 0, 0, 0, 0, 0, 0] 0 t0_543) rfl hj1_1_0_10_l7 hj1_1_0_10_l8 slNil lj1_1_0_10_l11 lj1_1_0_10_l12)) ?_
  rintro _ _ _ ⟨rfl, rfl, rfl⟩ -
  refine seg [.p 1] [(13, errV 39 tj1_1)] [] ?_
  refine fin ?_
  refine rs [1, 1, 0, 1, 0] [.p 1, .e 39 tj1_1] [(27, .bool ((tj1_1 : Int) != 0))] [] ?_
  refine gi [1, 1, 0, 1, 1] hm (fun hm => ?_) fun hm => ?_
  · refine rs [1, 1, 0, 1, 1, 0, 0] [.b, .p 1, .s 0, .p 1] [(11, errV 39 tj1_1)] [(0, .blk b0_2 (cS31 (S31.mk 0 0 0 0 0 (S26.mk (S23.mk 0 0 []) []) 0 [] [0, 0, 0, 0, 0, 0, 0, 0] [0, 0, 0, 0, 0, 0, 0, 0] 0 0) none 0 none 0 none 0) 32)] ?_
    obtain rfl := Option.some.inj hm
    exact rtc (vs := [.agg (cS31 (S31.mk 0 0 0 0 0 (S26.mk (S23.mk 0 0 []) []) 0 [] [0, 0, 0, 0, 0, 0, 0, 0] [0, 0, 0, 0, 0, 0, 0, 0] 0 0) none 0 none 0 none 0).toArray, errV 39 tj1_1]) (v := .tuple #[.agg (cS31 (S31.mk 0 0 0 0 0 (S26.mk (S23.mk 0 0 []) []) 0 [] [0, 0, 0, 0, 0, 0, 0, 0] [0, 0, 0, 0, 0, 0, 0, 0] 0 0) none 0 none 0 none 0).toArray, errV 39 tj1_1]) [] [.cell 10 32, .tmp 11] (.cell 0 0 (by kernel_rfl) (by kernel_rfl) (.tmp (by kernel_rfl) .nil)) ⟨(cS31 (S31.mk 0 0 0 0 0 (S26.mk (S23.mk 0 0 []) []) 0 [] [0, 0, 0, 0, 0, 0, 0, 0] [0, 0, 0, 0, 0, 0, 0, 0] 0 0) none 0 none 0 none 0), rfl, rfl, (kS31_mk (cs := (cS31 (S31.mk 0 0 0 0 0 (S26.mk (S23.mk 0 0 []) []) 0 [] [0, 0, 0, 0, 0, 0, 0, 0] [0, 0, 0, 0, 0, 0, 0, 0] 0 0) none 0 none 0 none 0)) (S31.mk 0 0 0 0 0 (S26.mk (S23.mk 0 0 []) []) 0 [] [0, 0, 0, 0, 0, 0, 0, 0] [0, 0, 0, 0, 0, 0, 0, 0] 0 0) rfl slNil slNil slNil rfl rfl)⟩ rfl rfl
  · refine rs [1, 1, 1, 0] [.l 1, .s 0, .p 1] [(11, .nilIface)] [(0, .blk b0_2 (cS31 (S31.mk x0 x1 x2 0 0 x3 x3.f0.f0 [] [0, 0, 0, 0, 0, 0, 0, 0] [0, 0, 0, 0, 0, 0, 0, 0] 0 t0_543) Ahx3_2 chx3_2 Ahx3_3 chx3_3 none 0) 32)] ?_
    obtain rfl := Option.some.inj hm
    exact rtc (vs := [.agg (cS31 (S31.mk x0 x1 x2 0 0 x3 x3.f0.f0 [] [0, 0, 0, 0, 0, 0, 0, 0] [0, 0, 0, 0, 0, 0, 0, 0] 0 t0_543) Ahx3_2 chx3_2 Ahx3_3 chx3_3 none 0).toArray, .nilIface]) (v := .tuple #[.agg (cS31 (S31.mk x0 x1 x2 0 0 x3 x3.f0.f0 [] [0, 0, 0, 0, 0, 0, 0, 0] [0, 0, 0, 0, 0, 0, 0, 0] 0 t0_543) Ahx3_2 chx3_2 Ahx3_3 chx3_3 none 0).toArray, .nilIface]) [] [.cell 10 32, .tmp 11] (.cell 0 0 (by kernel_rfl) (by kernel_rfl) (.tmp (by kernel_rfl) .nil)) ⟨(cS31 (S31.mk x0 x1 x2 0 0 x3 x3.f0.f0 [] [0, 0, 0, 0, 0, 0, 0, 0] [0, 0, 0, 0, 0, 0, 0, 0] 0 t0_543) Ahx3_2 chx3_2 Ahx3_3 chx3_3 none 0), rfl, rfl, (kS31_mk (cs := (cS31 (S31.mk x0 x1 x2 0 0 x3 x3.f0.f0 [] [0, 0, 0, 0, 0, 0, 0, 0] [0, 0, 0, 0, 0, 0, 0, 0] 0 t0_543) Ahx3_2 chx3_2 Ahx3_3 chx3_3 none 0)) (S31.mk x0 x1 x2 0 0 x3 x3.f0.f0 [] [0, 0, 0, 0, 0, 0, 0, 0] [0, 0, 0, 0, 0, 0, 0, 0] 0 t0_543) rfl hj1_1_0_10_l7 hj1_1_0_10_l8 slNil lj1_1_0_10_l11 lj1_1_0_10_l12)⟩ rfl rfl
theorem f10_ok {M : Mem} {csx3 : List Value} (x0 : Int) (x1 : Int) (x2 : Int) (x3 : S26) (x4 : Int) (r : (S31 × Int)) (hm : m10 x0 x1 x2 x3 x4 = some r) (hx3 : kS26.rep M csx3 x3) : FnOk Try.prog 10 [.int .i64 x0, .int .i64 x1, .int .i64 x2, .agg csx3.toArray, .int .i64 x4] M [] (R10 M r) := by
  obtain ⟨Ahx3_2, chx3_2, Ahx3_3, chx3_3, rfl, hx3_2, hx3_3⟩ := kS26_open hx3
  refine intro_ (c := c10) 31 Try.func10 fun w => ?_
  unfold m10 at hm
  refine rg [0] ?_
  refine g_bx 8 27 (.agg (cS26 x3 Ahx3_2 chx3_2 Ahx3_3 chx3_3).toArray) fun b0_1 => ?_
  refine g_al 10 32 (cS31 (S31.mk 0 0 0 0 0 (S26.mk (S23.mk 0 0 []) []) 0 [] [0, 0, 0, 0, 0, 0, 0, 0] [0, 0, 0, 0, 0, 0, 0, 0] 0 0) none 0 none 0 none 0) fun b0_2 => ?_
  refine seg [.p 1] [] [] ?_
  refine fin ?_
  obtain ⟨t0_543, ht0_543, hm⟩ := bind_some hm
  refine rgD [1, 0] (PT.of [0, 4, 8, 13, 16, 20, 25, 28] (.two 8 (PT.of [36, 43, 47] .dn) 10 (PT.of [35, 36, 47] .dn))) [(3, 0), (6, 0)] [0] mixed plain_done ?_
  refine seg [.p 3, .l 0, .p 2, .l 0, .p 1] [(14, .int .i64 x0), (15, .int .i64 x1), (16, .int .i64 x2), (17, .agg (cS26 x3 Ahx3_2 chx3_2 Ahx3_3 chx3_3).toArray), (20, .int .i64 x3.f0.f0), (21, .int .i64 x4)] [] ?_
  refine g2 ?_ ?_
  · refine g_call0 22 (f29_ok (M := M) _ _ ht0_543) ?_
    rintro _ _ _ ⟨rfl, rfl, rfl⟩ -
    refine seg [.b] [(23, .agg (cS31 (S31.mk x0 x1 x2 0 0 x3 x3.f0.f0 [] [0, 0, 0, 0, 0, 0, 0, 0] [0, 0, 0, 0, 0, 0, 0, 0] 0 t0_543) Ahx3_2 chx3_2 Ahx3_3 chx3_3 none 0).toArray)] [] ?_
    refine g_al 12 32 (cS31 (S31.mk 0 0 0 0 0 (S26.mk (S23.mk 0 0 []) []) 0 [] [0, 0, 0, 0, 0, 0, 0, 0] [0, 0, 0, 0, 0, 0, 0, 0] 0 0) none 0 none 0 none 0) fun b0_663 => ?_
    refine seg [.s 2] [] [(2, .blk b0_663 (cS31 (S31.mk x0 x1 x2 0 0 x3 x3.f0.f0 [] [0, 0, 0, 0, 0, 0, 0, 0] [0, 0, 0, 0, 0, 0, 0, 0] 0 t0_543) Ahx3_2 chx3_2 Ahx3_3 chx3_3 none 0) 32)] ?_
    refine fin ?_
    exact to [1, 2] (@f10_j1 _ _ _ M b0_2 b0_663 chx3_2 chx3_3 Ahx3_2 Ahx3_3 _ _ _ _ _ hm rfl rfl hx3_2 hx3_3 rfl rfl)
  · refine g_al 12 32 (cS31 (S31.mk 0 0 0 0 0 (S26.mk (S23.mk 0 0 []) []) 0 [] [0, 0, 0, 0, 0, 0, 0, 0] [0, 0, 0, 0, 0, 0, 0, 0] 0 0) none 0 none 0 none 0) fun b0_663 => ?_
    refine g_call0 22 (f29_ok (M := M) _ _ ht0_543) ?_
    rintro _ _ _ ⟨rfl, rfl, rfl⟩ -
    refine seg [.b, .s 2] [] [(2, .blk b0_663 (cS31 (S31.mk x0 x1 x2 0 0 x3 x3.f0.f0 [] [0, 0, 0, 0, 0, 0, 0, 0] [0, 0, 0, 0, 0, 0, 0, 0] 0 t0_543) Ahx3_2 chx3_2 Ahx3_3 chx3_3 none 0) 32)] ?_
    refine fin ?_
    exact to [1, 2] (@f10_j1 _ _ _ M b0_2 b0_663 chx3_2 chx3_3 Ahx3_2 Ahx3_3 _ _ _ _ _ hm rfl rfl hx3_2 hx3_3 rfl rfl)

/-! ## (heartwood/raft.stepper).last -/
/-- (heartwood/raft.stepper).last: what is left behind a call. -/
abbrev R36 (M : Mem) (bx0 : Nat) (csx0 : List Value) (Ax0_15 : Option Addr) (x0 : S85) (cx0_15 : Nat) (rcx0_15 : List Value) (r : Int) : Value → Mem → List Res → Prop := fun v M' H' => .int .i64 r = v ∧ M = M' ∧ H' = [.blk bx0 csx0 86, .row (.slice Ax0_15 x0.f1.length cx0_15) 47 17 x0.f1.length rcx0_15]
noncomputable def c36 : Code := match Try.f36.body with | some c => c | none => .skip
theorem f36_ok {M : Mem} {bx0 : Nat} {csx0 : List Value} {Ax0_15 : Option Addr} {cx0_15 : Nat} {rcx0_15 : List Value} (x0 : S85) (r : Int) (hm : m36 x0 = some r) (hx0 : (oS85 Ax0_15 cx0_15).rep M csx0 x0) (ex0_15 : Elems kS46 M rcx0_15 x0.f1) : FnOk Try.prog 36 [.pointer (some ⟨bx0, 0, none⟩)] M [.blk bx0 csx0 86, .row (.slice Ax0_15 x0.f1.length cx0_15) 47 17 x0.f1.length rcx0_15] (R36 M bx0 csx0 Ax0_15 x0 cx0_15 rcx0_15 r) := by
  obtain ⟨Ahx0_7, chx0_7, Ahx0_8, chx0_8, Ahx0_10, chx0_10, rfl, hx0_7, hx0_8, hx0_10, hx0_11, hx0_12⟩ := oS85_open hx0
  refine intro_ (c := c36) 15 Try.func36 fun w => ?_
  unfold m36 at hm
  refine rs [0] [.p 1] [] [] ?_
  obtain ⟨t0_1, ht0_1, hm⟩ := bind_some hm
  refine rg [1, 0] ?_
  refine seg [.p 4, .l 0] [(10, .agg (cS26 x0.f0.f5 Ahx0_7 chx0_7 Ahx0_8 chx0_8).toArray)] [] ?_
  refine g_call0 11 (f41_ok _ _ ht0_1 (kS26_mk (cs := (cS26 x0.f0.f5 Ahx0_7 chx0_7 Ahx0_8 chx0_8)) x0.f0.f5 rfl hx0_7 hx0_8)) ?_
  rintro _ _ _ ⟨rfl, rfl, rfl⟩ -
  refine seg [.p 5] [(3, .int .i64 t0_1.1)] [] ?_
  refine fin ?_
  refine rs [1, 1, 0] [.p 2] [(2, .int .i64 t0_1.1)] [] ?_
  obtain rfl := Option.some.inj hm
  exact rtp (v := .int .i64 t0_1.1) [0, 1] ⟨rfl, rfl, rfl⟩

/-! ## slices.Clone[[]int,int] -/
/-- slices.Clone[[]int,int]: what is left behind a call. -/
abbrev R61 (M : Mem) (r : List Int) : Value → Mem → List Res → Prop := fun v M' H' => ∃ (q0 : Option Addr) (y0 : Nat) (u0 : List Value), .slice q0 r.length y0 = v ∧ H' = [.row (.slice q0 r.length y0) 3 1 r.length u0] ∧ Elems (kint .i64) M' u0 r
noncomputable def c61 : Code := match Try.f61.body with | some c => c | none => .skip
theorem f61_ok {M : Mem} {Ax0 : Option Addr} {cx0 : Nat} (x0 : List Int) (r : List Int) (hm : m61 x0 = some r) (hx0 : SlAt (kint .i64) M Ax0 cx0 x0) : FnOk Try.prog 61 [.slice Ax0 x0.length cx0] M [] (R61 M r) := by
  refine intro_ (c := c61) 8 Try.func61 fun w => ?_
  unfold m61 at hm
  refine rs [0] [.p 1] [] [] ?_
  refine rg [1, 0, 0] ?_
  refine seg [.p 1] [(3, .slice Ax0 x0.length cx0)] [] ?_
  rcases slnil_or hx0 with ⟨rfl, rfl⟩ | ⟨ax0_1, rfl⟩
  · refine seg [.p 1] [(4, .bool true)] [] ?_
    refine fin ?_
    refine gib [1, 0, 1] true ?_
    refine rs [1, 0, 1, 0, 0] [.p 1] [(2, .slice none 0 0)] [] ?_
    refine nlA 3 1 ?_
    obtain rfl := Option.some.inj hm
    exact rt (v := (.slice none (([] : List Int).length) 0)) [0] ⟨none, 0, [], rfl, rfl, (elNil (d := (kint .i64)) (M := M))⟩
  · refine seg [.p 1] [(4, .bool false)] [] ?_
    refine fin ?_
    refine gib [1, 0, 1] false ?_
    refine rg [1, 1, 0] ?_
    have e0_2 : Elems (kint .i64) M [] ([] : List Int) := elNil
    refine g_bs 5 3 1 0 [] fun b0_3 => ?_
    obtain ⟨hb0_4, hm⟩ := gd2 hm
    refine seg [.p 1] [(6, .slice (some ax0_1) x0.length cx0)] [] ?_
    refine g_apD 7 0 3 8 (some ⟨b0_3, 0, none⟩) 0 e0_2 hx0 hb0_4 fun A0_5 c0_6 cs0_7 e0_4 => ?_
    refine seg [.p 1] [(2, (.slice A0_5 ((([] : List Int) ++ x0).length) c0_6))] [] ?_
    refine fin ?_
    obtain rfl := Option.some.inj hm
    exact rt (v := (.slice A0_5 ((([] : List Int) ++ x0).length) c0_6)) [0] ⟨A0_5, c0_6, cs0_7, rfl, rfl, e0_4⟩

/-! ## heartwood/log.Members -/
/-- heartwood/log.Members: what is left behind a call. -/
abbrev R75 (M : Mem) (r : List Int) : Value → Mem → List Res → Prop := fun v M' H' => ∃ (q0 : Option Addr) (u0 : Nat), .slice q0 r.length u0 = v ∧ H' = [] ∧ SlAt (kint .i64) M' q0 u0 r
noncomputable def c75 : Code := match Try.f75.body with | some c => c | none => .skip
abbrev C75 (w0 : World) (M0 : Mem) : Ctx := ⟨49, w0, M0, []⟩
abbrev D75 (w0 : World) (M0 : Mem) (r : List Int) : Post := Done Try.prog Try.f75 (C75 w0 M0) (R75 M0 r)
abbrev H75_j1 (w0 : World) (M0 : Mem) (r : List Int) (Lj1 : Int → S26 → Option (List Int)) : Prop := ∀ {M : Mem} {b0_1 chx0_2 chx0_3 : Nat} {Ahx0_2 Ahx0_3 : Option Addr} (xj1_s5 : Int) (x0 : S26) (_ : Lj1 xj1_s5 x0 = some r) (_ : SlAt (kint .i64) M Ahx0_2 chx0_2 x0.f0.f2) (_ : SlAt kS80 M Ahx0_3 chx0_3 x0.f1), AG Try.prog c75 [1, 1, 0, 1, 0] (D75 w0 M0 r) (C75 w0 M0) (env [(2, .pointer (some ⟨b0_1, 0, none⟩)), (5, .int .i64 xj1_s5)]) M [.blk b0_1 (cS26 x0 Ahx0_2 chx0_2 Ahx0_3 chx0_3) 27]
theorem f75_j2 {w0 : World} {M0 : Mem} {r : List Int} {Lj1 : Int → S26 → Option (List Int)} (ihj1 : H75_j1 w0 M0 r Lj1) : ∀ {M : Mem} {b0_1 chx0_2 chx0_3 : Nat} {Ahx0_2 Ahx0_3 : Option Addr} (xj2_s5 : Int) (x0 : S26) (_ : m75_j2 Lj1 xj2_s5 x0 = some r) (_ : SlAt (kint .i64) M Ahx0_2 chx0_2 x0.f0.f2) (_ : SlAt kS80 M Ahx0_3 chx0_3 x0.f1), AG Try.prog c75 [1, 1, 0, 1, 0, 0, 1, 1] (D75 w0 M0 r) (C75 w0 M0) (env [(2, .pointer (some ⟨b0_1, 0, none⟩)), (5, .int .i64 xj2_s5)]) M [.blk b0_1 (cS26 x0 Ahx0_2 chx0_2 Ahx0_3 chx0_3) 27] := by
  intro M b0_1 chx0_2 chx0_3 Ahx0_2 Ahx0_3 xj2_s5 x0 hm hj2_0_0_l2 hj2_0_0_l3; unfold m75_j2 at hm
  refine rs [1, 1, 0, 1, 0, 0, 1, 1] [.p 3] [(5, .int .i64 (IntKind.i64.wrap (xj2_s5 - 1)))] [] ?_
  exact to [0] (@ihj1 M b0_1 chx0_2 chx0_3 Ahx0_2 Ahx0_3 _ _ hm hj2_0_0_l2 hj2_0_0_l3)
theorem f75_j1 {w0 : World} {M0 : Mem} {r : List Int} : ∀ k, H75_j1 w0 M0 r (m75_j1 k) := by
  intro k; induction k with
  | zero => intro M b0_1 chx0_2 chx0_3 Ahx0_2 Ahx0_3 xj1_s5 x0 hm; exact absurd hm (by simp [m75_j1])
  | succ k ihj1 =>
    intro M b0_1 chx0_2 chx0_3 Ahx0_2 Ahx0_3 xj1_s5 x0 hm hj1_0_0_l2 hj1_0_0_l3
    rw [m75_j1.eq_2] at hm
    refine gl [1, 1, 0, 1, 0] plain_done ?_
    refine rs [1, 1, 0, 1, 0, 0, 0, 0] [.p 3, .l 0, .p 1] [(20, .bool (decide ((xj1_s5 : Int) > x0.f0.f0)))] [] ?_
    refine gi [1, 1, 0, 1, 0, 0, 0, 1] hm (fun hm => ?_) fun hm => ?_
    · obtain ⟨ej1_1, bj1_2, fj1_3, kj1_4, Wj1_5, hm, haej1_1, hbej1_1, hmej1_1, hwej1_1, hrej1_1⟩ := ixo hm hj1_0_0_l3
      obtain ⟨Ahrej1_1_2, chrej1_1_2, hcej1_1, hrej1_1_2⟩ := kS80_open hrej1_1
      replace hwej1_1 := hwej1_1.trans hcej1_1
      refine rg [1, 1, 0, 1, 0, 0, 1, 0, 0, 0] ?_
      refine seg [.p 1, .l 0, .p 3, .l 0, .p 2] [(24, .slice Ahx0_3 x0.f1.length chx0_3), (30, .int .i64 (IntKind.i64.wrap ((IntKind.i64.wrap (xj1_s5 - x0.f0.f0)) - 1)))] [] ?_
      refine g_ix 31 3 haej1_1 hbej1_1 ?_
      refine g_lw 32 0 (.agg (cS80 ej1_1 Ahrej1_1_2 chrej1_1_2).toArray) hmej1_1 hwej1_1 ?_
      refine g_al 6 81 (cS80 (S80.mk 0 0 []) none 0) fun bj1_6 => ?_
      refine seg [.s 1] [] [(1, .blk bj1_6 (cS80 ej1_1 Ahrej1_1_2 chrej1_1_2) 81)] ?_
      refine fin ?_
      refine rs [1, 1, 0, 1, 0, 0, 1, 0, 0, 1, 0] [.p 1, .l 1, .p 1] [(35, .bool ((ej1_1.f1 : Int) == 2))] [] ?_
      refine gi [1, 1, 0, 1, 0, 0, 1, 0, 0, 1, 1] hm (fun hm => ?_) fun hm => ?_
      · obtain ⟨tj1_7, htj1_7, hm⟩ := bind_some hm
        refine rg [1, 1, 0, 1, 0, 0, 1, 0, 0, 1, 1, 0, 0] ?_
        refine seg [.p 1, .l 1] [(38, .slice Ahrej1_1_2 ej1_1.f2.length chrej1_1_2)] [] ?_
        refine g_call0 39 (f95_ok _ _ htj1_7 hrej1_1_2) ?_
        rintro _ Mj1_10 _ ⟨Aj1_8, cj1_9, rfl, rfl, hj1_10⟩ hMj1_10
        refine seg [.p 5] [(7, .slice Aj1_8 tj1_7.1.length cj1_9), (8, errV 39 tj1_7.2)] [] ?_
        refine fin ?_
        refine rs [1, 1, 0, 1, 0, 0, 1, 0, 0, 1, 1, 0, 1, 0] [.p 1, .e 39 tj1_7.2] [(43, .bool ((tj1_7.2 : Int) == 0))] [] ?_
        refine gi [1, 1, 0, 1, 0, 0, 1, 0, 0, 1, 1, 0, 1, 1] hm (fun hm => ?_) fun hm => ?_
        · refine rs [1, 1, 0, 1, 0, 0, 1, 0, 0, 1, 1, 0, 1, 1, 0, 0] [.p 2] [(4, .slice Aj1_8 tj1_7.1.length cj1_9)] [] ?_
          obtain rfl := Option.some.inj hm
          exact rt (v := .slice Aj1_8 tj1_7.1.length cj1_9) [] ⟨Aj1_8, cj1_9, rfl, rfl, hj1_10⟩
        · replace hj1_0_0_l2 := (hj1_0_0_l2.mono hMj1_10)
          replace hj1_0_0_l3 := (hj1_0_0_l3.mono hMj1_10)
          exact to [0] (@f75_j2 _ _ _ _ ihj1 Mj1_10 b0_1 chx0_2 chx0_3 Ahx0_2 Ahx0_3 _ _ hm hj1_0_0_l2 hj1_0_0_l3)
      · exact to [0] (@f75_j2 _ _ _ _ ihj1 M b0_1 chx0_2 chx0_3 Ahx0_2 Ahx0_3 _ _ hm hj1_0_0_l2 hj1_0_0_l3)
    · obtain ⟨tj1_11, htj1_11, hm⟩ := bind_some hm
      refine rg [1, 1, 1, 0] ?_
      refine seg [.p 2, .l 0] [(47, .slice Ahx0_2 x0.f0.f2.length chx0_2)] [] ?_
      refine g_call0 48 (f61_ok _ _ htj1_11 hj1_0_0_l2) ?_
      rintro _ Mj1_15 _ ⟨Aj1_12, cj1_13, csj1_14, rfl, rfl, hj1_15⟩ hMj1_15
      refine seg [.p 1] [(4, (.slice Aj1_12 tj1_11.length cj1_13))] [] ?_
      refine fin ?_
      refine fzA 1 3 Aj1_12 cj1_13 hj1_15 fun Mhj1_16 lhj1_16 hj1_16 => ?_
      obtain rfl := Option.some.inj hm
      exact rt (v := .slice Aj1_12 tj1_11.length cj1_13) [] ⟨Aj1_12, cj1_13, rfl, rfl, hj1_16⟩
theorem f75_ok {M : Mem} {csx0 : List Value} (x0 : S26) (x1 : Int) (r : List Int) (hm : m75 x0 x1 = some r) (hx0 : kS26.rep M csx0 x0) : FnOk Try.prog 75 [.agg csx0.toArray, .int .i64 x1] M [] (R75 M r) := by
  obtain ⟨Ahx0_2, chx0_2, Ahx0_3, chx0_3, rfl, hx0_2, hx0_3⟩ := kS26_open hx0
  refine intro_ (c := c75) 49 Try.func75 fun w => ?_
  unfold m75 at hm
  refine rg [0] ?_
  refine g_bx 2 27 (.agg (cS26 x0 Ahx0_2 chx0_2 Ahx0_3 chx0_3).toArray) fun b0_1 => ?_
  refine seg [.p 1] [] [] ?_
  refine fin ?_
  obtain ⟨t0_2, ht0_2, hm⟩ := bind_some hm
  refine rg [1, 0, 0] ?_
  refine seg [.l 0] [(9, .agg (cS26 x0 Ahx0_2 chx0_2 Ahx0_3 chx0_3).toArray)] [] ?_
  refine g_call0 10 (f40_ok _ _ ht0_2 (kS26_mk (cs := (cS26 x0 Ahx0_2 chx0_2 Ahx0_3 chx0_3)) x0 rfl hx0_2 hx0_3)) ?_
  rintro _ _ _ ⟨rfl, rfl, rfl⟩ -
  refine seg [.e 39 t0_2] [(11, .bool ((t0_2 : Int) != 0))] [] ?_
  refine fin ?_
  refine gi [1, 0, 1] hm (fun hm => ?_) fun hm => ?_
  · refine rs [1, 0, 1, 0, 0] [.p 1] [(4, .slice none 0 0)] [] ?_
    obtain rfl := Option.some.inj hm
    exact rt (v := .slice none 0 0) [] ⟨none, 0, rfl, rfl, slNil⟩
  · obtain ⟨t0_3, ht0_3, hm⟩ := bind_some hm
    refine rg [1, 1, 0, 0] ?_
    refine seg [.p 1, .l 0] [(12, .int .i64 x1), (13, .agg (cS26 x0 Ahx0_2 chx0_2 Ahx0_3 chx0_3).toArray)] [] ?_
    refine g_call0 14 (f80_ok _ _ ht0_3 (kS26_mk (cs := (cS26 x0 Ahx0_2 chx0_2 Ahx0_3 chx0_3)) x0 rfl hx0_2 hx0_3)) ?_
    rintro _ _ _ ⟨rfl, rfl, rfl⟩ -
    refine seg [.p 2] [(5, .int .i64 (if t0_3 < x1 then t0_3 else x1))] [] ?_
    refine fin ?_
    exact to [0] (@f75_j1 _ _ _ FUEL M b0_1 chx0_2 chx0_3 Ahx0_2 Ahx0_3 _ _ hm hx0_2 hx0_3)

/-! ## (heartwood/raft.stepper).members -/
/-- (heartwood/raft.stepper).members: what is left behind a call. -/
abbrev R57 (M : Mem) (bx0 : Nat) (csx0 : List Value) (Ax0_15 : Option Addr) (x0 : S85) (cx0_15 : Nat) (rcx0_15 : List Value) (r : List Int) : Value → Mem → List Res → Prop := fun v M' H' => ∃ (q0 : Option Addr) (u0 : Nat), .slice q0 r.length u0 = v ∧ H' = [.blk bx0 csx0 86, .row (.slice Ax0_15 x0.f1.length cx0_15) 47 17 x0.f1.length rcx0_15] ∧ SlAt (kint .i64) M' q0 u0 r
noncomputable def c57 : Code := match Try.f57.body with | some c => c | none => .skip
theorem f57_ok {M : Mem} {bx0 : Nat} {csx0 : List Value} {Ax0_15 : Option Addr} {cx0_15 : Nat} {rcx0_15 : List Value} (x0 : S85) (r : List Int) (hm : m57 x0 = some r) (hx0 : (oS85 Ax0_15 cx0_15).rep M csx0 x0) (ex0_15 : Elems kS46 M rcx0_15 x0.f1) : FnOk Try.prog 57 [.pointer (some ⟨bx0, 0, none⟩)] M [.blk bx0 csx0 86, .row (.slice Ax0_15 x0.f1.length cx0_15) 47 17 x0.f1.length rcx0_15] (R57 M bx0 csx0 Ax0_15 x0 cx0_15 rcx0_15 r) := by
  obtain ⟨Ahx0_7, chx0_7, Ahx0_8, chx0_8, Ahx0_10, chx0_10, rfl, hx0_7, hx0_8, hx0_10, hx0_11, hx0_12⟩ := oS85_open hx0
  refine intro_ (c := c57) 11 Try.func57 fun w => ?_
  unfold m57 at hm
  refine rs [0] [.p 1] [] [] ?_
  obtain ⟨t0_1, ht0_1, hm⟩ := bind_some hm
  refine rgD [1, 0] (PT.of [0, 4, 8, 12, 17, 20, 27, 31, 32] .dn) [(4, 0)] [0] mixed plain_done ?_
  refine seg [.p 4, .l 0, .p 1] [(7, .agg (cS26 x0.f0.f5 Ahx0_7 chx0_7 Ahx0_8 chx0_8).toArray), (8, .pointer (some ⟨bx0, 0, none⟩))] [] ?_
  refine g_callK 9 [0, 1] (f36_ok (bx0 := bx0) (Ax0_15 := Ax0_15) (cx0_15 := cx0_15) _ _ ht0_1 (oS85_mk (cs := (cS85 x0 Ahx0_7 chx0_7 Ahx0_8 chx0_8 Ahx0_10 chx0_10 Ax0_15 cx0_15)) x0 rfl hx0_7 hx0_8 hx0_10 hx0_11 hx0_12) ex0_15) (by rintro _ _ _ ⟨rfl, rfl, rfl⟩; rfl) ?_
  rintro _ _ _ ⟨rfl, rfl, rfl⟩ -
  obtain ⟨t0_2, ht0_2, hm⟩ := bind_some hm
  refine g_call0 10 (f75_ok _ _ _ ht0_2 (kS26_mk (cs := (cS26 x0.f0.f5 Ahx0_7 chx0_7 Ahx0_8 chx0_8)) x0.f0.f5 rfl hx0_7 hx0_8)) ?_
  rintro _ M0_5 _ ⟨A0_3, c0_4, rfl, rfl, h0_5⟩ hM0_5
  refine seg [.p 1] [(2, .slice A0_3 t0_2.length c0_4)] [] ?_
  refine fin ?_
  obtain rfl := Option.some.inj hm
  exact rt (v := .slice A0_3 t0_2.length c0_4) [0, 1] ⟨A0_3, c0_4, rfl, rfl, h0_5⟩

/-! ## (heartwood/raft.stepper).send -/
/-- (heartwood/raft.stepper).send: what is left behind a call. -/
abbrev R59 (M : Mem) (bx0 : Nat) (csx0 : List Value) (Ax0_15 : Option Addr) (x0 : S85) (cx0_15 : Nat) (rcx0_15 : List Value) (r : S85) : Value → Mem → List Res → Prop := fun v M' H' => ∃ (q0 : List Value) (w0_15 : Option Addr) (y0_15 : Nat) (z0_15 : List Value), .tuple #[] = v ∧ H' = [.blk bx0 q0 86, .row (.slice w0_15 r.f1.length y0_15) 47 17 r.f1.length z0_15] ∧ (oS85 w0_15 y0_15).rep M' q0 r ∧ Elems kS46 M' z0_15 r.f1
noncomputable def c59 : Code := match Try.f59.body with | some c => c | none => .skip
theorem f59_ok {M : Mem} {bx0 : Nat} {csx0 : List Value} {Ax0_15 : Option Addr} {cx0_15 : Nat} {rcx0_15 : List Value} {csx2 : List Value} (x0 : S85) (x1 : Int) (x2 : S46) (r : S85) (hm : m59 x0 x1 x2 = some r) (hx0 : (oS85 Ax0_15 cx0_15).rep M csx0 x0) (ex0_15 : Elems kS46 M rcx0_15 x0.f1) (hx2 : kS46.rep M csx2 x2) : FnOk Try.prog 59 [.pointer (some ⟨bx0, 0, none⟩), .int .i64 x1, .agg csx2.toArray] M [.blk bx0 csx0 86, .row (.slice Ax0_15 x0.f1.length cx0_15) 47 17 x0.f1.length rcx0_15] (R59 M bx0 csx0 Ax0_15 x0 cx0_15 rcx0_15 r) := by
  obtain ⟨Ahx0_7, chx0_7, Ahx0_8, chx0_8, Ahx0_10, chx0_10, rfl, hx0_7, hx0_8, hx0_10, hx0_11, hx0_12⟩ := oS85_open hx0
  obtain ⟨Ahx2_8, chx2_8, Ahx2_9, chx2_9, Ahx2_11, chx2_11, Ahx2_13, chx2_13, Ahx2_14, chx2_14, Ahx2_15, chx2_15, rfl, hx2_8, hx2_9, hx2_11, hx2_13, hx2_14, hx2_15, hx2_16⟩ := kS46_open hx2
  refine intro_ (c := c59) 30 Try.func59 fun w => ?_
  unfold m59 at hm
  refine rg [0] ?_
  refine g_bx 5 47 (.agg (cS46 x2 Ahx2_8 chx2_8 Ahx2_9 chx2_9 Ahx2_11 chx2_11 Ahx2_13 chx2_13 Ahx2_14 chx2_14 Ahx2_15 chx2_15).toArray) fun b0_1 => ?_
  refine fin ?_
  refine rgD [1, 0] (PT.of [0, 4, 8, 12, 17, 20, 24, 28, 32, 36, 41, 44, 51, 52, 59, 60, 67] .dn) [(4, 0), (10, 0)] [0] mixed plain_done ?_
  refine seg [.p 4, .l 0, .p 5, .l 0, .p 1, .s 2, .p 1, .s 2, .p 1, .s 2] [] [(2, .blk b0_1 (cS46 ({ x2 with f1 := x0.f0.f0, f2 := x1, f3 := x0.f0.f1 }) Ahx2_8 chx2_8 Ahx2_9 chx2_9 Ahx2_11 chx2_11 Ahx2_13 chx2_13 Ahx2_14 chx2_14 Ahx2_15 chx2_15) 47)] ?_
  refine fin ?_
  refine rgD [1, 1] (PT.of [0, 4, 8, 12, 17, 21, 27, 31, 32, 36, 43] .dn) [(4, 0), (5, 2)] [0, 4] mixed plain_done ?_
  refine seg [.p 4, .l 0, .l 2] [(20, .pointer (some ⟨bx0, 0, none⟩)), (24, (.slice Ax0_15 x0.f1.length cx0_15)), (25, .agg (cS46 ({ x2 with f1 := x0.f0.f0, f2 := x1, f3 := x0.f0.f1 }) Ahx2_8 chx2_8 Ahx2_9 chx2_9 Ahx2_11 chx2_11 Ahx2_13 chx2_13 Ahx2_14 chx2_14 Ahx2_15 chx2_15).toArray)] [] ?_
  have e0_2 : Elems kS46 M (cS46 ({ x2 with f1 := x0.f0.f0, f2 := x1, f3 := x0.f0.f1 }) Ahx2_8 chx2_8 Ahx2_9 chx2_9 Ahx2_11 chx2_11 Ahx2_13 chx2_13 Ahx2_14 chx2_14 Ahx2_15 chx2_15) ([{ x2 with f1 := x0.f0.f0, f2 := x1, f3 := x0.f0.f1 }] : List S46) := (elCons (d := kS46) (M := M) (a := (cS46 ({ x2 with f1 := x0.f0.f0, f2 := x1, f3 := x0.f0.f1 }) Ahx2_8 chx2_8 Ahx2_9 chx2_9 Ahx2_11 chx2_11 Ahx2_13 chx2_13 Ahx2_14 chx2_14 Ahx2_15 chx2_15)) (x := { x2 with f1 := x0.f0.f0, f2 := x1, f3 := x0.f0.f1 }) (kS46_mk (cs := (cS46 ({ x2 with f1 := x0.f0.f0, f2 := x1, f3 := x0.f0.f1 }) Ahx2_8 chx2_8 Ahx2_9 chx2_9 Ahx2_11 chx2_11 Ahx2_13 chx2_13 Ahx2_14 chx2_14 Ahx2_15 chx2_15)) ({ x2 with f1 := x0.f0.f0, f2 := x1, f3 := x0.f0.f1 }) rfl hx2_8 hx2_9 hx2_11 hx2_13 hx2_14 hx2_15 hx2_16) elNil)
  refine g_bs 26 47 17 1 (cS46 ({ x2 with f1 := x0.f0.f0, f2 := x1, f3 := x0.f0.f1 }) Ahx2_8 chx2_8 Ahx2_9 chx2_9 Ahx2_11 chx2_11 Ahx2_13 chx2_13 Ahx2_14 chx2_14 Ahx2_15 chx2_15) fun b0_3 => ?_
  obtain ⟨hb0_4, hm⟩ := gd2 hm
  refine g_apR 27 1 47 248 3 Ax0_15 cx0_15 (some ⟨b0_3, 0, none⟩) 1 ex0_15 e0_2 hb0_4 fun A0_5 c0_6 cs0_7 e0_4 => ?_
  refine seg [.p 2, .s 0] [] [(0, .blk bx0 (cS85 ({ x0 with f1 := (x0.f1 ++ ([{ x2 with f1 := x0.f0.f0, f2 := x1, f3 := x0.f0.f1 }] : List S46)) }) Ahx0_7 chx0_7 Ahx0_8 chx0_8 Ahx0_10 chx0_10 A0_5 c0_6) 86)] ?_
  refine finE ?_
  obtain rfl := Option.some.inj hm
  exact re (v := .tuple #[]) [0, 1] ⟨(cS85 ({ x0 with f1 := (x0.f1 ++ ([{ x2 with f1 := x0.f0.f0, f2 := x1, f3 := x0.f0.f1 }] : List S46)) }) Ahx0_7 chx0_7 Ahx0_8 chx0_8 Ahx0_10 chx0_10 A0_5 c0_6), A0_5, c0_6, cs0_7, rfl, rfl, (oS85_mk (cs := (cS85 ({ x0 with f1 := (x0.f1 ++ ([{ x2 with f1 := x0.f0.f0, f2 := x1, f3 := x0.f0.f1 }] : List S46)) }) Ahx0_7 chx0_7 Ahx0_8 chx0_8 Ahx0_10 chx0_10 A0_5 c0_6)) ({ x0 with f1 := (x0.f1 ++ ([{ x2 with f1 := x0.f0.f0, f2 := x1, f3 := x0.f0.f1 }] : List S46)) }) rfl hx0_7 hx0_8 hx0_10 hx0_11 hx0_12), e0_4⟩

/-! ## heartwood/log.has -/
/-- heartwood/log.has: what is left behind a call. -/
abbrev R94 (M : Mem) (r : Bool) : Value → Mem → List Res → Prop := fun v M' H' => .bool r = v ∧ M = M' ∧ H' = []
noncomputable def c94 : Code := match Try.f94.body with | some c => c | none => .skip
abbrev C94 (w0 : World) (M0 : Mem) : Ctx := ⟨16, w0, M0, []⟩
abbrev D94 (w0 : World) (M0 : Mem) (r : Bool) : Post := Done Try.prog Try.f94 (C94 w0 M0) (R94 M0 r)
theorem f94_j1 {w0 : World} {M0 : Mem} {r : Bool} : ∀ {M : Mem} (xj1_s4 : Bool) (_ : m94_j1 xj1_s4 = some r), AG Try.prog c94 [1, 1] (D94 w0 M0 r) (C94 w0 M0) (env [(4, .bool xj1_s4)]) M [] := by
  intro M xj1_s4 hm; unfold m94_j1 at hm
  obtain rfl := Option.some.inj hm
  exact rtp (v := .bool xj1_s4) [] ⟨rfl, rfl, rfl⟩
theorem f94_ok {M : Mem} {csx0 : List Value} (x0 : S26) (x1 : Int) (r : Bool) (hm : m94 x0 x1 = some r) (hx0 : kS26.rep M csx0 x0) : FnOk Try.prog 94 [.agg csx0.toArray, .int .i64 x1] M [] (R94 M r) := by
  obtain ⟨Ahx0_2, chx0_2, Ahx0_3, chx0_3, rfl, hx0_2, hx0_3⟩ := kS26_open hx0
  refine intro_ (c := c94) 16 Try.func94 fun w => ?_
  unfold m94 at hm
  refine rg [0] ?_
  refine g_bx 2 27 (.agg (cS26 x0 Ahx0_2 chx0_2 Ahx0_3 chx0_3).toArray) fun b0_1 => ?_
  refine seg [.p 1] [] [] ?_
  refine fin ?_
  refine rg [1, 0] ?_
  refine seg [.p 3, .l 0, .p 2] [(10, .bool (decide ((x1 : Int) ≥ x0.f0.f0)))] [] ?_
  refine gs 10 hm (fun hm => ?_) fun hm => ?_
  · obtain ⟨t0_2, ht0_2, hm⟩ := bind_some hm
    refine seg [.p 1, .l 0] [(11, .int .i64 x1), (12, .agg (cS26 x0 Ahx0_2 chx0_2 Ahx0_3 chx0_3).toArray)] [] ?_
    refine g_call0 13 (f80_ok _ _ ht0_2 (kS26_mk (cs := (cS26 x0 Ahx0_2 chx0_2 Ahx0_3 chx0_3)) x0 rfl hx0_2 hx0_3)) ?_
    rintro _ _ _ ⟨rfl, rfl, rfl⟩ -
    refine seg [.p 3] [(4, .bool (decide ((x1 : Int) ≤ t0_2)))] [] ?_
    refine fin ?_
    exact to [] (@f94_j1 _ _ _ M _ hm)
  · refine seg [.p 6] [(4, .bool false)] [] ?_
    refine fin ?_
    exact to [] (@f94_j1 _ _ _ M _ hm)

/-! ## heartwood/log.asked -/
/-- heartwood/log.asked: what is left behind a call. -/
abbrev R73 (M : Mem) (r : Int) : Value → Mem → List Res → Prop := fun v M' H' => errV 39 r = v ∧ M = M' ∧ H' = []
noncomputable def c73 : Code := match Try.f73.body with | some c => c | none => .skip
theorem f73_ok {M : Mem} {csx0 : List Value} (x0 : S26) (x1 : Int) (r : Int) (hm : m73 x0 x1 = some r) (hx0 : kS26.rep M csx0 x0) : FnOk Try.prog 73 [.agg csx0.toArray, .int .i64 x1] M [] (R73 M r) := by
  obtain ⟨Ahx0_2, chx0_2, Ahx0_3, chx0_3, rfl, hx0_2, hx0_3⟩ := kS26_open hx0
  refine intro_ (c := c73) 16 Try.func73 fun w => ?_
  unfold m73 at hm
  refine rg [0] ?_
  refine g_bx 2 27 (.agg (cS26 x0 Ahx0_2 chx0_2 Ahx0_3 chx0_3).toArray) fun b0_1 => ?_
  refine seg [.p 1] [] [] ?_
  refine fin ?_
  obtain ⟨t0_2, ht0_2, hm⟩ := bind_some hm
  refine rg [1, 0, 0] ?_
  refine seg [.l 0] [(6, .agg (cS26 x0 Ahx0_2 chx0_2 Ahx0_3 chx0_3).toArray)] [] ?_
  refine g_call0 7 (f40_ok _ _ ht0_2 (kS26_mk (cs := (cS26 x0 Ahx0_2 chx0_2 Ahx0_3 chx0_3)) x0 rfl hx0_2 hx0_3)) ?_
  rintro _ _ _ ⟨rfl, rfl, rfl⟩ -
  refine seg [.p 1] [(5, errV 39 t0_2)] [] ?_
  refine fin ?_
  refine rs [1, 0, 1, 0] [.p 1, .e 39 t0_2] [(9, .bool ((t0_2 : Int) != 0))] [] ?_
  refine gi [1, 0, 1, 1] hm (fun hm => ?_) fun hm => ?_
  · refine rs [1, 0, 1, 1, 0, 0] [.p 2] [(4, errV 39 t0_2)] [] ?_
    obtain rfl := Option.some.inj hm
    exact rtp (v := errV 39 t0_2) [] ⟨rfl, rfl, rfl⟩
  · obtain ⟨t0_3, ht0_3, hm⟩ := bind_some hm
    refine rg [1, 1, 0, 0] ?_
    refine seg [.l 0, .p 1] [(11, .agg (cS26 x0 Ahx0_2 chx0_2 Ahx0_3 chx0_3).toArray), (12, .int .i64 x1)] [] ?_
    refine g_call0 13 (f94_ok _ _ _ ht0_3 (kS26_mk (cs := (cS26 x0 Ahx0_2 chx0_2 Ahx0_3 chx0_3)) x0 rfl hx0_2 hx0_3)) ?_
    rintro _ _ _ ⟨rfl, rfl, rfl⟩ -
    refine seg [.p 1] [(14, .bool (!t0_3))] [] ?_
    refine fin ?_
    refine gi [1, 1, 0, 1] hm (fun hm => ?_) fun hm => ?_
    · refine rs [1, 1, 0, 1, 0, 0] [.p 2] [(4, errV 39 9)] [] ?_
      obtain rfl := Option.some.inj hm
      exact rtp (v := errV 39 9) [] ⟨rfl, rfl, rfl⟩
    · refine rs [1, 1, 1, 0] [.p 1] [(4, .nilIface)] [] ?_
      obtain rfl := Option.some.inj hm
      exact rtp (v := .nilIface) [] ⟨rfl, rfl, rfl⟩

/-! ## heartwood/log.Term -/
/-- heartwood/log.Term: what is left behind a call. -/
abbrev R69 (M : Mem) (r : (Int × Int)) : Value → Mem → List Res → Prop := fun v M' H' => .tuple #[.int .i64 r.1, errV 39 r.2] = v ∧ M = M' ∧ H' = []
noncomputable def c69 : Code := match Try.f69.body with | some c => c | none => .skip
theorem f69_ok {M : Mem} {csx0 : List Value} (x0 : S26) (x1 : Int) (r : (Int × Int)) (hm : m69 x0 x1 = some r) (hx0 : kS26.rep M csx0 x0) : FnOk Try.prog 69 [.agg csx0.toArray, .int .i64 x1] M [] (R69 M r) := by
  obtain ⟨Ahx0_2, chx0_2, Ahx0_3, chx0_3, rfl, hx0_2, hx0_3⟩ := kS26_open hx0
  refine intro_ (c := c69) 16 Try.func69 fun w => ?_
  unfold m69 at hm
  refine rg [0] ?_
  refine g_bx 2 27 (.agg (cS26 x0 Ahx0_2 chx0_2 Ahx0_3 chx0_3).toArray) fun b0_1 => ?_
  refine seg [.p 2] [] [] ?_
  refine fin ?_
  obtain ⟨t0_2, ht0_2, hm⟩ := bind_some hm
  refine rg [1, 0, 0] ?_
  refine seg [.l 0, .p 1] [(7, .agg (cS26 x0 Ahx0_2 chx0_2 Ahx0_3 chx0_3).toArray), (8, .int .i64 x1)] [] ?_
  refine g_call0 9 (f73_ok _ _ _ ht0_2 (kS26_mk (cs := (cS26 x0 Ahx0_2 chx0_2 Ahx0_3 chx0_3)) x0 rfl hx0_2 hx0_3)) ?_
  rintro _ _ _ ⟨rfl, rfl, rfl⟩ -
  refine seg [.p 1] [(6, errV 39 t0_2)] [] ?_
  refine fin ?_
  refine rs [1, 0, 1, 0] [.p 1, .e 39 t0_2] [(11, .bool ((t0_2 : Int) != 0))] [] ?_
  refine gi [1, 0, 1, 1] hm (fun hm => ?_) fun hm => ?_
  · refine rs [1, 0, 1, 1, 0, 0] [.p 3] [(4, .int .i64 0), (5, errV 39 t0_2)] [] ?_
    obtain rfl := Option.some.inj hm
    exact rtp (v := .tuple #[.int .i64 0, errV 39 t0_2]) [] ⟨rfl, rfl, rfl⟩
  · obtain ⟨t0_3, ht0_3, hm⟩ := bind_some hm
    refine rg [1, 1, 0] ?_
    refine seg [.l 0, .p 1] [(13, .agg (cS26 x0 Ahx0_2 chx0_2 Ahx0_3 chx0_3).toArray), (14, .int .i64 x1)] [] ?_
    refine g_call0 15 (f74_ok _ _ _ ht0_3 (kS26_mk (cs := (cS26 x0 Ahx0_2 chx0_2 Ahx0_3 chx0_3)) x0 rfl hx0_2 hx0_3)) ?_
    rintro _ _ _ ⟨rfl, rfl, rfl⟩ -
    refine seg [.p 2] [(4, .int .i64 t0_3), (5, .nilIface)] [] ?_
    refine fin ?_
    obtain rfl := Option.some.inj hm
    exact rtp (v := .tuple #[.int .i64 t0_3, .nilIface]) [] ⟨rfl, rfl, rfl⟩

/-! ## slices.Clone[[]heartwood/api.Entry,heartwood/api.Entry] -/
/-- slices.Clone[[]heartwood/api.Entry,heartwood/api.Entry]: what is left behind a call. -/
abbrev R76 (M : Mem) (r : List S80) : Value → Mem → List Res → Prop := fun v M' H' => ∃ (q0 : Option Addr) (y0 : Nat) (u0 : List Value), .slice q0 r.length y0 = v ∧ H' = [.row (.slice q0 r.length y0) 81 3 r.length u0] ∧ Elems kS80 M' u0 r
noncomputable def c76 : Code := match Try.f76.body with | some c => c | none => .skip
theorem f76_ok {M : Mem} {Ax0 : Option Addr} {cx0 : Nat} (x0 : List S80) (r : List S80) (hm : m76 x0 = some r) (hx0 : SlAt kS80 M Ax0 cx0 x0) : FnOk Try.prog 76 [.slice Ax0 x0.length cx0] M [] (R76 M r) := by
  refine intro_ (c := c76) 8 Try.func76 fun w => ?_
  unfold m76 at hm
  refine rs [0] [.p 1] [] [] ?_
  refine rg [1, 0, 0] ?_
  refine seg [.p 1] [(3, .slice Ax0 x0.length cx0)] [] ?_
  rcases slnil_or hx0 with ⟨rfl, rfl⟩ | ⟨ax0_1, rfl⟩
  · refine seg [.p 1] [(4, .bool true)] [] ?_
    refine fin ?_
    refine gib [1, 0, 1] true ?_
    refine rs [1, 0, 1, 0, 0] [.p 1] [(2, .slice none 0 0)] [] ?_
    refine nlA 81 3 ?_
    obtain rfl := Option.some.inj hm
    exact rt (v := (.slice none (([] : List S80).length) 0)) [0] ⟨none, 0, [], rfl, rfl, (elNil (d := kS80) (M := M))⟩
  · refine seg [.p 1] [(4, .bool false)] [] ?_
    refine fin ?_
    refine gib [1, 0, 1] false ?_
    refine rg [1, 1, 0] ?_
    have e0_2 : Elems kS80 M [] ([] : List S80) := elNil
    refine g_bs 5 81 3 0 [] fun b0_3 => ?_
    obtain ⟨hb0_4, hm⟩ := gd2 hm
    refine seg [.p 1] [(6, .slice (some ax0_1) x0.length cx0)] [] ?_
    refine g_apD 7 0 81 40 (some ⟨b0_3, 0, none⟩) 0 e0_2 hx0 hb0_4 fun A0_5 c0_6 cs0_7 e0_4 => ?_
    refine seg [.p 1] [(2, (.slice A0_5 ((([] : List S80) ++ x0).length) c0_6))] [] ?_
    refine fin ?_
    obtain rfl := Option.some.inj hm
    exact rt (v := (.slice A0_5 ((([] : List S80) ++ x0).length) c0_6)) [0] ⟨A0_5, c0_6, cs0_7, rfl, rfl, e0_4⟩

/-! ## heartwood/log.Slice -/
/-- heartwood/log.Slice: what is left behind a call. -/
abbrev R84 (M : Mem) (r : List S80) : Value → Mem → List Res → Prop := fun v M' H' => ∃ (q0 : Option Addr) (u0 : Nat), .slice q0 r.length u0 = v ∧ H' = [] ∧ SlAt kS80 M' q0 u0 r
noncomputable def c84 : Code := match Try.f84.body with | some c => c | none => .skip
abbrev C84 (w0 : World) (M0 : Mem) : Ctx := ⟨39, w0, M0, []⟩
abbrev D84 (w0 : World) (M0 : Mem) (r : List S80) : Post := Done Try.prog Try.f84 (C84 w0 M0) (R84 M0 r)
theorem f84_j1 {w0 : World} {M0 : Mem} {r : List S80} : ∀ {M : Mem} {b0_1 chx0_2 chx0_3 : Nat} {Ahx0_2 Ahx0_3 : Option Addr} (xj1_s22 : Bool) (x1 x2 : Int) (x0 : S26) (_ : m84_j1 xj1_s22 x1 x2 x0 = some r) (_ : SlAt (kint .i64) M Ahx0_2 chx0_2 x0.f0.f2) (_ : SlAt kS80 M Ahx0_3 chx0_3 x0.f1), AG Try.prog c84 [1, 0, 1] (D84 w0 M0 r) (C84 w0 M0) (env [(1, .int .i64 x1), (2, .int .i64 x2), (3, .pointer (some ⟨b0_1, 0, none⟩)), (22, .bool xj1_s22)]) M [.blk b0_1 (cS26 x0 Ahx0_2 chx0_2 Ahx0_3 chx0_3) 27] := by
  intro M b0_1 chx0_2 chx0_3 Ahx0_2 Ahx0_3 xj1_s22 x1 x2 x0 hm hj1_0_0_l2 hj1_0_0_l3; unfold m84_j1 at hm
  refine gi [1, 0, 1] hm (fun hm => ?_) fun hm => ?_
  · refine rs [1, 0, 1, 0, 0] [.p 1] [(6, .slice none 0 0)] [] ?_
    obtain rfl := Option.some.inj hm
    exact rt (v := .slice none 0 0) [] ⟨none, 0, rfl, rfl, slNil⟩
  · obtain ⟨hbj1_1, hm⟩ := gd3 hm
    refine rg [1, 1, 0] ?_
    refine seg [.p 1, .l 0, .p 3, .l 0, .p 2] [(24, .slice Ahx0_3 x0.f1.length chx0_3), (30, .int .i64 (IntKind.i64.wrap ((IntKind.i64.wrap (x1 - x0.f0.f0)) - 1)))] [] ?_
    refine g_sl 31 hj1_0_0_l3 hbj1_1 fun Aj1_2 cj1_3 lj1_3 => ?_
    refine seg [.p 1] [(7, .slice Aj1_2 ((x0.f1.drop (IntKind.i64.wrap ((IntKind.i64.wrap (x1 - x0.f0.f0)) - 1)).toNat).take ((x0.f1.length : Int).toNat - (IntKind.i64.wrap ((IntKind.i64.wrap (x1 - x0.f0.f0)) - 1)).toNat)).length cj1_3)] [] ?_
    refine fin ?_
    obtain ⟨hbj1_4, hm⟩ := gd3 hm
    refine rg [1, 1, 1, 0] ?_
    refine seg [.p 5] [(32, .slice Aj1_2 ((x0.f1.drop (IntKind.i64.wrap ((IntKind.i64.wrap (x1 - x0.f0.f0)) - 1)).toNat).take ((x0.f1.length : Int).toNat - (IntKind.i64.wrap ((IntKind.i64.wrap (x1 - x0.f0.f0)) - 1)).toNat)).length cj1_3), (36, .int .i64 (if (((x0.f1.drop (IntKind.i64.wrap ((IntKind.i64.wrap (x1 - x0.f0.f0)) - 1)).toNat).take ((x0.f1.length : Int).toNat - (IntKind.i64.wrap ((IntKind.i64.wrap (x1 - x0.f0.f0)) - 1)).toNat)).length : Int) < x2 then (((x0.f1.drop (IntKind.i64.wrap ((IntKind.i64.wrap (x1 - x0.f0.f0)) - 1)).toNat).take ((x0.f1.length : Int).toNat - (IntKind.i64.wrap ((IntKind.i64.wrap (x1 - x0.f0.f0)) - 1)).toNat)).length : Int) else x2))] [] ?_
    refine g_sl 37 lj1_3 hbj1_4 fun Aj1_5 cj1_6 lj1_6 => ?_
    obtain ⟨tj1_7, htj1_7, hm⟩ := bind_some hm
    refine g_call0 38 (f76_ok _ _ htj1_7 lj1_6) ?_
    rintro _ Mj1_11 _ ⟨Aj1_8, cj1_9, csj1_10, rfl, rfl, hj1_11⟩ hMj1_11
    refine seg [.p 1] [(6, (.slice Aj1_8 tj1_7.length cj1_9))] [] ?_
    refine fin ?_
    refine fzA 1 81 Aj1_8 cj1_9 hj1_11 fun Mhj1_12 lhj1_12 hj1_12 => ?_
    obtain rfl := Option.some.inj hm
    exact rt (v := .slice Aj1_8 tj1_7.length cj1_9) [] ⟨Aj1_8, cj1_9, rfl, rfl, hj1_12⟩
theorem f84_ok {M : Mem} {csx0 : List Value} (x0 : S26) (x1 : Int) (x2 : Int) (r : List S80) (hm : m84 x0 x1 x2 = some r) (hx0 : kS26.rep M csx0 x0) : FnOk Try.prog 84 [.agg csx0.toArray, .int .i64 x1, .int .i64 x2] M [] (R84 M r) := by
  obtain ⟨Ahx0_2, chx0_2, Ahx0_3, chx0_3, rfl, hx0_2, hx0_3⟩ := kS26_open hx0
  refine intro_ (c := c84) 39 Try.func84 fun w => ?_
  unfold m84 at hm
  refine rg [0] ?_
  refine g_bx 3 27 (.agg (cS26 x0 Ahx0_2 chx0_2 Ahx0_3 chx0_3).toArray) fun b0_1 => ?_
  refine seg [.p 1] [] [] ?_
  refine fin ?_
  obtain ⟨t0_2, ht0_2, hm⟩ := bind_some hm
  refine rg [1, 0, 0] ?_
  refine seg [.l 0, .p 1] [(8, .agg (cS26 x0 Ahx0_2 chx0_2 Ahx0_3 chx0_3).toArray), (9, .int .i64 x1)] [] ?_
  refine g_call0 10 (f73_ok _ _ _ ht0_2 (kS26_mk (cs := (cS26 x0 Ahx0_2 chx0_2 Ahx0_3 chx0_3)) x0 rfl hx0_2 hx0_3)) ?_
  rintro _ _ _ ⟨rfl, rfl, rfl⟩ -
  refine seg [.e 39 t0_2, .p 1] [(12, .bool ((t0_2 : Int) != 0))] [] ?_
  refine gs 12 hm (fun hm => ?_) fun hm => ?_
  · refine seg [.p 10] [(22, .bool true)] [] ?_
    refine fin ?_
    exact to [0] (@f84_j1 _ _ _ M b0_1 chx0_2 chx0_3 Ahx0_2 Ahx0_3 _ _ _ _ hm hx0_2 hx0_3)
  · refine seg [.p 3, .l 0, .p 3] [(19, .bool ((x1 : Int) == x0.f0.f0))] [] ?_
    refine gs 19 hm (fun hm => ?_) fun hm => ?_
    · refine seg [.p 3] [(22, .bool true)] [] ?_
      refine fin ?_
      exact to [0] (@f84_j1 _ _ _ M b0_1 chx0_2 chx0_3 Ahx0_2 Ahx0_3 _ _ _ _ hm hx0_2 hx0_3)
    · refine seg [.p 3] [(22, .bool (decide ((x2 : Int) < 1)))] [] ?_
      refine fin ?_
      exact to [0] (@f84_j1 _ _ _ M b0_1 chx0_2 chx0_3 Ahx0_2 Ahx0_3 _ _ _ _ hm hx0_2 hx0_3)

/-! ## (heartwood/raft.stepper).bring -/
/-- (heartwood/raft.stepper).bring: what is left behind a call. -/
abbrev R55 (M : Mem) (bx0 : Nat) (csx0 : List Value) (Ax0_15 : Option Addr) (x0 : S85) (cx0_15 : Nat) (rcx0_15 : List Value) (r : S85) : Value → Mem → List Res → Prop := fun v M' H' => ∃ (q0 : List Value) (w0_15 : Option Addr) (y0_15 : Nat) (z0_15 : List Value), .tuple #[] = v ∧ H' = [.blk bx0 q0 86, .row (.slice w0_15 r.f1.length y0_15) 47 17 r.f1.length z0_15] ∧ (oS85 w0_15 y0_15).rep M' q0 r ∧ Elems kS46 M' z0_15 r.f1
noncomputable def c55 : Code := match Try.f55.body with | some c => c | none => .skip
theorem f55_ok {M : Mem} {bx0 : Nat} {csx0 : List Value} {Ax0_15 : Option Addr} {cx0_15 : Nat} {rcx0_15 : List Value} (x0 : S85) (x1 : Int) (r : S85) (hm : m55 x0 x1 = some r) (hx0 : (oS85 Ax0_15 cx0_15).rep M csx0 x0) (ex0_15 : Elems kS46 M rcx0_15 x0.f1) : FnOk Try.prog 55 [.pointer (some ⟨bx0, 0, none⟩), .int .i64 x1] M [.blk bx0 csx0 86, .row (.slice Ax0_15 x0.f1.length cx0_15) 47 17 x0.f1.length rcx0_15] (R55 M bx0 csx0 Ax0_15 x0 cx0_15 rcx0_15 r) := by
  obtain ⟨Ahx0_7, chx0_7, Ahx0_8, chx0_8, Ahx0_10, chx0_10, rfl, hx0_7, hx0_8, hx0_10, hx0_11, hx0_12⟩ := oS85_open hx0
  refine intro_ (c := c55) 73 Try.func55 fun w => ?_
  unfold m55 at hm
  refine rg [0] ?_
  refine seg [.p 5, .l 0] [(14, .agg (cS23 x0.f0.f5.f0 Ahx0_7 chx0_7).toArray)] [] ?_
  refine g_al 4 24 (cS23 (S23.mk 0 0 []) none 0) fun b0_1 => ?_
  refine seg [.s 2] [] [(2, .blk b0_1 (cS23 x0.f0.f5.f0 Ahx0_7 chx0_7) 24)] ?_
  refine fin ?_
  obtain ⟨hb0_2, hm⟩ := gd2 hm
  refine rg [1, 0] ?_
  refine seg [.p 5] [(16, .int .i64 x1), (19, .pointer (some ⟨bx0, 11, none⟩))] [] ?_
  refine g_ixA 20 bx0 11 8 1 hb0_2 ?_
  refine g_la 21 0 11 8 .i64 hx0_11 hb0_2 ?_
  refine seg [.p 1] [(5, .int .i64 (x0.f0.f8.getD x1.toNat 0))] [] ?_
  refine fin ?_
  refine rs [1, 1, 0, 0] [.p 2, .l 2, .p 1] [(25, .bool (decide (((x0.f0.f8.getD x1.toNat 0) : Int) ≤ x0.f0.f5.f0.f0)))] [] ?_
  refine gi [1, 1, 0, 1] hm (fun hm => ?_) fun hm => ?_
  · obtain ⟨t0_3, ht0_3, hm⟩ := bind_some hm
    refine rgD [1, 1, 0, 1, 0, 0] (PT.of [0, 4, 8, 13, 16, 21, 24, 29, 35, 36, 43] .dn) [(3, 2), (5, 2), (7, 2)] [4] mixed plain_done ?_
    refine seg [.p 3, .l 2, .p 1, .l 2, .p 1, .l 2] [(26, .pointer (some ⟨bx0, 0, none⟩)), (27, .int .i64 x1), (29, .int .i64 x0.f0.f5.f0.f0), (31, .int .i64 x0.f0.f5.f0.f1), (33, .slice Ahx0_7 x0.f0.f5.f0.f2.length chx0_7)] [] ?_
    refine g_call0 34 (f61_ok _ _ ht0_3 hx0_7) ?_
    rintro _ M0_7 _ ⟨A0_4, c0_5, cs0_6, rfl, rfl, h0_7⟩ hM0_7
    obtain ⟨t0_9, ht0_9, hm⟩ := bind_some hm
    refine seg [.b] [(35, .agg (cS46 (S46.mk 5 0 0 0 x0.f0.f5.f0.f0 x0.f0.f5.f0.f1 0 false [] t0_3 0 [] (S44.mk 0 [] [] [] (.slice none 0 0))) none 0 A0_4 c0_5 none 0 none 0 none 0 none 0).toArray)] [] ?_
    refine fzI 3 3 A0_4 c0_5 h0_7 fun Mh0_8 lh0_8 h0_8 => ?_
    replace hx0_7 := ((hx0_7.mono hM0_7).mono lh0_8)
    replace hx0_8 := ((hx0_8.mono hM0_7).mono lh0_8)
    replace hx0_10 := ((hx0_10.mono hM0_7).mono lh0_8)
    replace ex0_15 := ((ex0_15.mono hM0_7).mono lh0_8)
    refine g_call 36 [0, 1] (f59_ok (bx0 := bx0) (Ax0_15 := Ax0_15) (cx0_15 := cx0_15) _ _ _ _ ht0_9 (oS85_mk (cs := (cS85 x0 Ahx0_7 chx0_7 Ahx0_8 chx0_8 Ahx0_10 chx0_10 Ax0_15 cx0_15)) x0 rfl hx0_7 hx0_8 hx0_10 hx0_11 hx0_12) ex0_15 (kS46_mk (cs := (cS46 (S46.mk 5 0 0 0 x0.f0.f5.f0.f0 x0.f0.f5.f0.f1 0 false [] t0_3 0 [] (S44.mk 0 [] [] [] (.slice none 0 0))) none 0 A0_4 c0_5 none 0 none 0 none 0 none 0)) (S46.mk 5 0 0 0 x0.f0.f5.f0.f0 x0.f0.f5.f0.f1 0 false [] t0_3 0 [] (S44.mk 0 [] [] [] (.slice none 0 0))) rfl slNil h0_8 slNil slNil slNil slNil rfl)) ?_
    rintro _ M0_15 _ ⟨cs0_10, A0_12, c0_13, rc0_14, rfl, rfl, h0_11, h0_15⟩ hM0_15
    obtain ⟨Ah0_11_7, ch0_11_7, Ah0_11_8, ch0_11_8, Ah0_11_10, ch0_11_10, rfl, h0_11_7, h0_11_8, h0_11_10, h0_11_11, h0_11_12⟩ := oS85_open h0_11
    refine fin ?_
    obtain rfl := Option.some.inj hm
    exact rt (v := .tuple #[]) [0, 1] ⟨(cS85 t0_9 Ah0_11_7 ch0_11_7 Ah0_11_8 ch0_11_8 Ah0_11_10 ch0_11_10 A0_12 c0_13), A0_12, c0_13, rc0_14, rfl, rfl, (oS85_mk (cs := (cS85 t0_9 Ah0_11_7 ch0_11_7 Ah0_11_8 ch0_11_8 Ah0_11_10 ch0_11_10 A0_12 c0_13)) t0_9 rfl h0_11_7 h0_11_8 h0_11_10 h0_11_11 h0_11_12), h0_15⟩
  · obtain ⟨t0_16, ht0_16, hm⟩ := bind_some hm
    refine rg [1, 1, 1, 0] ?_
    refine seg [.p 3] [(38, .int .i64 (IntKind.i64.wrap ((x0.f0.f8.getD x1.toNat 0) - 1))), (39, .pointer (some ⟨bx0, 0, none⟩))] [] ?_
    refine g_call 40 [0, 1] (f36_ok (bx0 := bx0) (Ax0_15 := Ax0_15) (cx0_15 := cx0_15) _ _ ht0_16 (oS85_mk (cs := (cS85 x0 Ahx0_7 chx0_7 Ahx0_8 chx0_8 Ahx0_10 chx0_10 Ax0_15 cx0_15)) x0 rfl hx0_7 hx0_8 hx0_10 hx0_11 hx0_12) ex0_15) ?_
    rintro _ _ _ ⟨rfl, rfl, rfl⟩ -
    refine seg [.p 2] [(6, .int .i64 (if t0_16 < IntKind.i64.wrap ((x0.f0.f8.getD x1.toNat 0) - 1) then t0_16 else IntKind.i64.wrap ((x0.f0.f8.getD x1.toNat 0) - 1)))] [] ?_
    refine fin ?_
    obtain ⟨t0_17, ht0_17, hm⟩ := bind_some hm
    refine rg [1, 1, 1, 1, 0] ?_
    refine seg [.p 4, .l 0, .p 1] [(47, .agg (cS26 x0.f0.f5 Ahx0_7 chx0_7 Ahx0_8 chx0_8).toArray), (48, .int .i64 (if t0_16 < IntKind.i64.wrap ((x0.f0.f8.getD x1.toNat 0) - 1) then t0_16 else IntKind.i64.wrap ((x0.f0.f8.getD x1.toNat 0) - 1)))] [] ?_
    refine g_call0 49 (f69_ok _ _ _ ht0_17 (kS26_mk (cs := (cS26 x0.f0.f5 Ahx0_7 chx0_7 Ahx0_8 chx0_8)) x0.f0.f5 rfl hx0_7 hx0_8)) ?_
    rintro _ _ _ ⟨rfl, rfl, rfl⟩ -
    refine seg [.p 5] [(7, .int .i64 t0_17.1), (8, errV 39 t0_17.2)] [] ?_
    refine fin ?_
    refine rs [1, 1, 1, 1, 1, 0, 0] [.p 1, .e 39 t0_17.2] [(53, .bool ((t0_17.2 : Int) != 0))] [] ?_
    refine gi [1, 1, 1, 1, 1, 0, 1] hm (fun hm => ?_) fun hm => ?_
    · obtain rfl := Option.some.inj hm
      exact rt (v := .tuple #[]) [0, 1] ⟨(cS85 x0 Ahx0_7 chx0_7 Ahx0_8 chx0_8 Ahx0_10 chx0_10 Ax0_15 cx0_15), Ax0_15, cx0_15, rcx0_15, rfl, rfl, (oS85_mk (cs := (cS85 x0 Ahx0_7 chx0_7 Ahx0_8 chx0_8 Ahx0_10 chx0_10 Ax0_15 cx0_15)) x0 rfl hx0_7 hx0_8 hx0_10 hx0_11 hx0_12), ex0_15⟩
    · obtain ⟨t0_18, ht0_18, hm⟩ := bind_some hm
      refine rgD [1, 1, 1, 1, 1, 1] (PT.of [0, 4, 8, 12, 16, 20, 24, 28, 33, 36, 40, 48, 52, 56, 60, 65, 47, 68, 75] .dn) [(8, 0), (16, 0)] [0] mixed plain_done ?_
      refine seg [.p 8, .l 0, .p 6, .l 0] [(54, .pointer (some ⟨bx0, 0, none⟩)), (55, .int .i64 x1), (56, .int .i64 (if t0_16 < IntKind.i64.wrap ((x0.f0.f8.getD x1.toNat 0) - 1) then t0_16 else IntKind.i64.wrap ((x0.f0.f8.getD x1.toNat 0) - 1))), (57, .int .i64 t0_17.1), (62, .agg (cS26 x0.f0.f5 Ahx0_7 chx0_7 Ahx0_8 chx0_8).toArray), (64, .int .i64 (IntKind.i64.wrap ((if t0_16 < IntKind.i64.wrap ((x0.f0.f8.getD x1.toNat 0) - 1) then t0_16 else IntKind.i64.wrap ((x0.f0.f8.getD x1.toNat 0) - 1)) + 1))), (70, .int .i64 x0.f0.f6)] [] ?_
      refine g_call0 65 (f84_ok _ _ _ _ ht0_18 (kS26_mk (cs := (cS26 x0.f0.f5 Ahx0_7 chx0_7 Ahx0_8 chx0_8)) x0.f0.f5 rfl hx0_7 hx0_8)) ?_
      rintro _ M0_21 _ ⟨A0_19, c0_20, rfl, rfl, h0_21⟩ hM0_21
      obtain ⟨t0_22, ht0_22, hm⟩ := bind_some hm
      refine seg [.b] [(71, .agg (cS46 (S46.mk 3 0 0 0 (if t0_16 < IntKind.i64.wrap ((x0.f0.f8.getD x1.toNat 0) - 1) then t0_16 else IntKind.i64.wrap ((x0.f0.f8.getD x1.toNat 0) - 1)) t0_17.1 x0.f0.f6 false t0_18 [] 0 [] (S44.mk 0 [] [] [] (.slice none 0 0))) A0_19 c0_20 none 0 none 0 none 0 none 0 none 0).toArray)] [] ?_
      replace hx0_7 := (hx0_7.mono hM0_21)
      replace hx0_8 := (hx0_8.mono hM0_21)
      replace hx0_10 := (hx0_10.mono hM0_21)
      replace ex0_15 := (ex0_15.mono hM0_21)
      refine g_call 72 [0, 1] (f59_ok (bx0 := bx0) (Ax0_15 := Ax0_15) (cx0_15 := cx0_15) _ _ _ _ ht0_22 (oS85_mk (cs := (cS85 x0 Ahx0_7 chx0_7 Ahx0_8 chx0_8 Ahx0_10 chx0_10 Ax0_15 cx0_15)) x0 rfl hx0_7 hx0_8 hx0_10 hx0_11 hx0_12) ex0_15 (kS46_mk (cs := (cS46 (S46.mk 3 0 0 0 (if t0_16 < IntKind.i64.wrap ((x0.f0.f8.getD x1.toNat 0) - 1) then t0_16 else IntKind.i64.wrap ((x0.f0.f8.getD x1.toNat 0) - 1)) t0_17.1 x0.f0.f6 false t0_18 [] 0 [] (S44.mk 0 [] [] [] (.slice none 0 0))) A0_19 c0_20 none 0 none 0 none 0 none 0 none 0)) (S46.mk 3 0 0 0 (if t0_16 < IntKind.i64.wrap ((x0.f0.f8.getD x1.toNat 0) - 1) then t0_16 else IntKind.i64.wrap ((x0.f0.f8.getD x1.toNat 0) - 1)) t0_17.1 x0.f0.f6 false t0_18 [] 0 [] (S44.mk 0 [] [] [] (.slice none 0 0))) rfl h0_21 slNil slNil slNil slNil slNil rfl)) ?_
      rintro _ M0_28 _ ⟨cs0_23, A0_25, c0_26, rc0_27, rfl, rfl, h0_24, h0_28⟩ hM0_28
      obtain ⟨Ah0_24_7, ch0_24_7, Ah0_24_8, ch0_24_8, Ah0_24_10, ch0_24_10, rfl, h0_24_7, h0_24_8, h0_24_10, h0_24_11, h0_24_12⟩ := oS85_open h0_24
      refine finE ?_
      obtain rfl := Option.some.inj hm
      exact re (v := .tuple #[]) [0, 1] ⟨(cS85 t0_22 Ah0_24_7 ch0_24_7 Ah0_24_8 ch0_24_8 Ah0_24_10 ch0_24_10 A0_25 c0_26), A0_25, c0_26, rc0_27, rfl, rfl, (oS85_mk (cs := (cS85 t0_22 Ah0_24_7 ch0_24_7 Ah0_24_8 ch0_24_8 Ah0_24_10 ch0_24_10 A0_25 c0_26)) t0_22 rfl h0_24_7 h0_24_8 h0_24_10 h0_24_11 h0_24_12), h0_28⟩

/-! ## (heartwood/raft.stepper).others -/
/-- (heartwood/raft.stepper).others: what is left behind a call. -/
abbrev R54 (M : Mem) (bx0 : Nat) (csx0 : List Value) (Ax0_15 : Option Addr) (x0 : S85) (cx0_15 : Nat) (rcx0_15 : List Value) (r : S85) : Value → Mem → List Res → Prop := fun v M' H' => ∃ (q0 : List Value) (w0_15 : Option Addr) (y0_15 : Nat) (z0_15 : List Value), .tuple #[] = v ∧ H' = [.blk bx0 q0 86, .row (.slice w0_15 r.f1.length y0_15) 47 17 r.f1.length z0_15] ∧ (oS85 w0_15 y0_15).rep M' q0 r ∧ Elems kS46 M' z0_15 r.f1
noncomputable def c54 : Code := match Try.f54.body with | some c => c | none => .skip
abbrev C54 (w0 : World) (M0 : Mem) (bx0 : Nat) (x0 : S85) (Ahx0_7 : Option Addr) (chx0_7 : Nat) (Ahx0_8 : Option Addr) (chx0_8 : Nat) (Ahx0_10 : Option Addr) (chx0_10 : Nat) (Ax0_15 : Option Addr) (cx0_15 : Nat) (rcx0_15 : List Value) : Ctx := ⟨24, w0, M0, [.blk bx0 (cS85 x0 Ahx0_7 chx0_7 Ahx0_8 chx0_8 Ahx0_10 chx0_10 Ax0_15 cx0_15) 86, .row (.slice Ax0_15 x0.f1.length cx0_15) 47 17 x0.f1.length rcx0_15]⟩
abbrev D54 (w0 : World) (M0 : Mem) (r : S85) (bx0 : Nat) (x0 : S85) (Ahx0_7 : Option Addr) (chx0_7 : Nat) (Ahx0_8 : Option Addr) (chx0_8 : Nat) (Ahx0_10 : Option Addr) (chx0_10 : Nat) (Ax0_15 : Option Addr) (cx0_15 : Nat) (rcx0_15 : List Value) : Post := Done Try.prog Try.f54 (C54 w0 M0 bx0 x0 Ahx0_7 chx0_7 Ahx0_8 chx0_8 Ahx0_10 chx0_10 Ax0_15 cx0_15 rcx0_15) (R54 M0 bx0 (cS85 x0 Ahx0_7 chx0_7 Ahx0_8 chx0_8 Ahx0_10 chx0_10 Ax0_15 cx0_15) Ax0_15 x0 cx0_15 rcx0_15 r)
abbrev H54_j1 (w0 : World) (M0 : Mem) (r : S85) (Lj1 : Int → Int → Int → Int → Int → Int → Int → Int → Int → Int → Int → Int → (List Int) → (List Int) → (List Int) → (List Int) → (List Int) → (List S46) → (List S80) → S85 → Option S85) : Prop := ∀ {M : Mem} {csj1_p0_15 rcx0_15 : List Value} {bx0 c0_3 chx0_10 chx0_7 chx0_8 cj1_p0_15 cj1_p0_l10 cj1_p0_l7 cj1_p0_l8 cx0_15 : Nat} {A0_2 Ahx0_10 Ahx0_7 Ahx0_8 Aj1_p0_15 Aj1_p0_l10 Aj1_p0_l7 Aj1_p0_l8 Ax0_15 : Option Addr} (xj1_p0_l0 xj1_p0_l1 xj1_p0_l13 xj1_p0_l14 xj1_p0_l16 xj1_p0_l2 xj1_p0_l3 xj1_p0_l4 xj1_p0_l5 xj1_p0_l6 xj1_p0_l9 xj1_s9 : Int) (t0_1 xj1_p0_l10 xj1_p0_l11 xj1_p0_l12 xj1_p0_l7 : List Int) (xj1_p0_15 : List S46) (xj1_p0_l8 : List S80) (x0 : S85) (_ : Lj1 xj1_p0_l0 xj1_p0_l1 xj1_p0_l13 xj1_p0_l14 xj1_p0_l16 xj1_p0_l2 xj1_p0_l3 xj1_p0_l4 xj1_p0_l5 xj1_p0_l6 xj1_p0_l9 xj1_s9 t0_1 xj1_p0_l10 xj1_p0_l11 xj1_p0_l12 xj1_p0_l7 xj1_p0_15 xj1_p0_l8 x0 = some r) (_ : SlAt (kint .i64) M A0_2 c0_3 t0_1) (_ : SlAt (kint .i64) M Aj1_p0_l7 cj1_p0_l7 xj1_p0_l7) (_ : SlAt kS80 M Aj1_p0_l8 cj1_p0_l8 xj1_p0_l8) (_ : SlAt (kint .i64) M Aj1_p0_l10 cj1_p0_l10 xj1_p0_l10) (_ : xj1_p0_l11.length = 8) (_ : xj1_p0_l12.length = 8) (_ : Elems kS46 M csj1_p0_15 xj1_p0_15), AG Try.prog c54 [1, 0] (D54 w0 M0 r bx0 x0 Ahx0_7 chx0_7 Ahx0_8 chx0_8 Ahx0_10 chx0_10 Ax0_15 cx0_15 rcx0_15) (C54 w0 M0 bx0 x0 Ahx0_7 chx0_7 Ahx0_8 chx0_8 Ahx0_10 chx0_10 Ax0_15 cx0_15 rcx0_15) (env [(0, .pointer (some ⟨bx0, 0, none⟩)), (1, .func (.func 55) #[.pointer (some ⟨bx0, 0, none⟩)] #[]), (7, .slice A0_2 t0_1.length c0_3), (8, .int .i64 (t0_1.length : Int)), (9, .int .i64 xj1_s9)]) M [.blk bx0 (cS85 (S85.mk (S31.mk xj1_p0_l0 xj1_p0_l1 xj1_p0_l2 xj1_p0_l3 xj1_p0_l4 (S26.mk (S23.mk xj1_p0_l5 xj1_p0_l6 xj1_p0_l7) xj1_p0_l8) xj1_p0_l9 xj1_p0_l10 xj1_p0_l11 xj1_p0_l12 xj1_p0_l13 xj1_p0_l14) xj1_p0_15 xj1_p0_l16) Aj1_p0_l7 cj1_p0_l7 Aj1_p0_l8 cj1_p0_l8 Aj1_p0_l10 cj1_p0_l10 Aj1_p0_15 cj1_p0_15) 86, .row (.slice Aj1_p0_15 xj1_p0_15.length cj1_p0_15) 47 17 xj1_p0_15.length csj1_p0_15]
theorem f54_j2 {w0 : World} {M0 : Mem} {r : S85} {Lj1 : Int → Int → Int → Int → Int → Int → Int → Int → Int → Int → Int → Int → (List Int) → (List Int) → (List Int) → (List Int) → (List Int) → (List S46) → (List S80) → S85 → Option S85} (ihj1 : H54_j1 w0 M0 r Lj1) : ∀ {M : Mem} {csj2_p0_15 rcx0_15 : List Value} {bx0 c0_3 chx0_10 chx0_7 chx0_8 cj2_p0_15 cj2_p0_l10 cj2_p0_l7 cj2_p0_l8 cx0_15 : Nat} {A0_2 Ahx0_10 Ahx0_7 Ahx0_8 Aj2_p0_15 Aj2_p0_l10 Aj2_p0_l7 Aj2_p0_l8 Ax0_15 : Option Addr} (xj2_p0_l0 xj2_p0_l1 xj2_p0_l13 xj2_p0_l14 xj2_p0_l16 xj2_p0_l2 xj2_p0_l3 xj2_p0_l4 xj2_p0_l5 xj2_p0_l6 xj2_p0_l9 xj2_s9 : Int) (t0_1 xj2_p0_l10 xj2_p0_l11 xj2_p0_l12 xj2_p0_l7 : List Int) (xj2_p0_15 : List S46) (xj2_p0_l8 : List S80) (x0 : S85) (_ : m54_j2 Lj1 xj2_p0_l0 xj2_p0_l1 xj2_p0_l13 xj2_p0_l14 xj2_p0_l16 xj2_p0_l2 xj2_p0_l3 xj2_p0_l4 xj2_p0_l5 xj2_p0_l6 xj2_p0_l9 xj2_s9 t0_1 xj2_p0_l10 xj2_p0_l11 xj2_p0_l12 xj2_p0_l7 xj2_p0_15 xj2_p0_l8 x0 = some r) (_ : SlAt (kint .i64) M A0_2 c0_3 t0_1) (_ : SlAt (kint .i64) M Aj2_p0_l7 cj2_p0_l7 xj2_p0_l7) (_ : SlAt kS80 M Aj2_p0_l8 cj2_p0_l8 xj2_p0_l8) (_ : SlAt (kint .i64) M Aj2_p0_l10 cj2_p0_l10 xj2_p0_l10) (_ : xj2_p0_l11.length = 8) (_ : xj2_p0_l12.length = 8) (_ : Elems kS46 M csj2_p0_15 xj2_p0_15), AG Try.prog c54 [1, 0, 0, 1, 1, 1] (D54 w0 M0 r bx0 x0 Ahx0_7 chx0_7 Ahx0_8 chx0_8 Ahx0_10 chx0_10 Ax0_15 cx0_15 rcx0_15) (C54 w0 M0 bx0 x0 Ahx0_7 chx0_7 Ahx0_8 chx0_8 Ahx0_10 chx0_10 Ax0_15 cx0_15 rcx0_15) (env [(0, .pointer (some ⟨bx0, 0, none⟩)), (1, .func (.func 55) #[.pointer (some ⟨bx0, 0, none⟩)] #[]), (7, .slice A0_2 t0_1.length c0_3), (8, .int .i64 (t0_1.length : Int)), (9, .int .i64 xj2_s9)]) M [.blk bx0 (cS85 (S85.mk (S31.mk xj2_p0_l0 xj2_p0_l1 xj2_p0_l2 xj2_p0_l3 xj2_p0_l4 (S26.mk (S23.mk xj2_p0_l5 xj2_p0_l6 xj2_p0_l7) xj2_p0_l8) xj2_p0_l9 xj2_p0_l10 xj2_p0_l11 xj2_p0_l12 xj2_p0_l13 xj2_p0_l14) xj2_p0_15 xj2_p0_l16) Aj2_p0_l7 cj2_p0_l7 Aj2_p0_l8 cj2_p0_l8 Aj2_p0_l10 cj2_p0_l10 Aj2_p0_15 cj2_p0_15) 86, .row (.slice Aj2_p0_15 xj2_p0_15.length cj2_p0_15) 47 17 xj2_p0_15.length csj2_p0_15] := by
  intro M csj2_p0_15 rcx0_15 bx0 c0_3 chx0_10 chx0_7 chx0_8 cj2_p0_15 cj2_p0_l10 cj2_p0_l7 cj2_p0_l8 cx0_15 A0_2 Ahx0_10 Ahx0_7 Ahx0_8 Aj2_p0_15 Aj2_p0_l10 Aj2_p0_l7 Aj2_p0_l8 Ax0_15 xj2_p0_l0 xj2_p0_l1 xj2_p0_l13 xj2_p0_l14 xj2_p0_l16 xj2_p0_l2 xj2_p0_l3 xj2_p0_l4 xj2_p0_l5 xj2_p0_l6 xj2_p0_l9 xj2_s9 t0_1 xj2_p0_l10 xj2_p0_l11 xj2_p0_l12 xj2_p0_l7 xj2_p0_15 xj2_p0_l8 x0 hm hj2_s7 hj2_p0_l7 hj2_p0_l8 hj2_p0_l10 lj2_p0_l11 lj2_p0_l12 ej2_p0_15; unfold m54_j2 at hm
  refine rs [1, 0, 0, 1, 1, 1] [.p 2] [(9, .int .i64 (IntKind.i64.wrap (xj2_s9 + 1)))] [] ?_
  exact to [0, 1] (@ihj1 M csj2_p0_15 rcx0_15 bx0 c0_3 chx0_10 chx0_7 chx0_8 cj2_p0_15 cj2_p0_l10 cj2_p0_l7 cj2_p0_l8 cx0_15 A0_2 Ahx0_10 Ahx0_7 Ahx0_8 Aj2_p0_15 Aj2_p0_l10 Aj2_p0_l7 Aj2_p0_l8 Ax0_15 _ _ _ _ _ _ _ _ _ _ _ _ _ _ _ _ _ _ _ _ hm hj2_s7 hj2_p0_l7 hj2_p0_l8 hj2_p0_l10 lj2_p0_l11 lj2_p0_l12 ej2_p0_15)
theorem f54_j1 {w0 : World} {M0 : Mem} {r : S85} : ∀ k, H54_j1 w0 M0 r (m54_j1 k) := by
  intro k; induction k with
  | zero => intro M csj1_p0_15 rcx0_15 bx0 c0_3 chx0_10 chx0_7 chx0_8 cj1_p0_15 cj1_p0_l10 cj1_p0_l7 cj1_p0_l8 cx0_15 A0_2 Ahx0_10 Ahx0_7 Ahx0_8 Aj1_p0_15 Aj1_p0_l10 Aj1_p0_l7 Aj1_p0_l8 Ax0_15 xj1_p0_l0 xj1_p0_l1 xj1_p0_l13 xj1_p0_l14 xj1_p0_l16 xj1_p0_l2 xj1_p0_l3 xj1_p0_l4 xj1_p0_l5 xj1_p0_l6 xj1_p0_l9 xj1_s9 t0_1 xj1_p0_l10 xj1_p0_l11 xj1_p0_l12 xj1_p0_l7 xj1_p0_15 xj1_p0_l8 x0 hm; exact absurd hm (by simp [m54_j1])
  | succ k ihj1 =>
    intro M csj1_p0_15 rcx0_15 bx0 c0_3 chx0_10 chx0_7 chx0_8 cj1_p0_15 cj1_p0_l10 cj1_p0_l7 cj1_p0_l8 cx0_15 A0_2 Ahx0_10 Ahx0_7 Ahx0_8 Aj1_p0_15 Aj1_p0_l10 Aj1_p0_l7 Aj1_p0_l8 Ax0_15 xj1_p0_l0 xj1_p0_l1 xj1_p0_l13 xj1_p0_l14 xj1_p0_l16 xj1_p0_l2 xj1_p0_l3 xj1_p0_l4 xj1_p0_l5 xj1_p0_l6 xj1_p0_l9 xj1_s9 t0_1 xj1_p0_l10 xj1_p0_l11 xj1_p0_l12 xj1_p0_l7 xj1_p0_15 xj1_p0_l8 x0 hm hj1_s7 hj1_p0_l7 hj1_p0_l8 hj1_p0_l10 lj1_p0_l11 lj1_p0_l12 ej1_p0_15
    rw [m54_j1.eq_2] at hm
    refine gl [1, 0] plain_done ?_
    refine rs [1, 0, 0, 0] [.p 1] [(10, .bool (decide ((xj1_s9 : Int) < (t0_1.length : Int))))] [] ?_
    refine gi [1, 0, 0, 1, 0] hm (fun hm => ?_) fun hm => ?_
    · obtain ⟨ej1_1, bj1_2, fj1_3, kj1_4, Wj1_5, hm, haej1_1, hbej1_1, hmej1_1, hwej1_1, hrej1_1⟩ := ixo hm hj1_s7
      replace hwej1_1 := hwej1_1.trans hrej1_1
      refine rg [1, 0, 0, 1, 1, 0, 0, 0] ?_
      refine g_ix 11 1 haej1_1 hbej1_1 ?_
      refine g_lw 12 0 (.int .i64 ej1_1) hmej1_1 hwej1_1 ?_
      refine seg [.p 1] [(5, .int .i64 ej1_1)] [] ?_
      refine fin ?_
      refine rs [1, 0, 0, 1, 1, 0, 0, 1, 0] [.p 5, .l 0, .p 1] [(19, .bool ((ej1_1 : Int) != xj1_p0_l0))] [] ?_
      refine gi [1, 0, 0, 1, 1, 0, 0, 1, 1] hm (fun hm => ?_) fun hm => ?_
      · obtain ⟨tj1_6, htj1_6, hm⟩ := bind_some hm
        refine rg [1, 0, 0, 1, 1, 0, 0, 1, 1, 0] ?_
        refine seg [.p 2] [(20, .func (.func 55) #[.pointer (some ⟨bx0, 0, none⟩)] #[]), (21, .int .i64 ej1_1)] [] ?_
        refine g_call 22 [0, 1] (f55_ok (bx0 := bx0) (Ax0_15 := Aj1_p0_15) (cx0_15 := cj1_p0_15) _ _ _ htj1_6 (oS85_mk (cs := (cS85 (S85.mk (S31.mk xj1_p0_l0 xj1_p0_l1 xj1_p0_l2 xj1_p0_l3 xj1_p0_l4 (S26.mk (S23.mk xj1_p0_l5 xj1_p0_l6 xj1_p0_l7) xj1_p0_l8) xj1_p0_l9 xj1_p0_l10 xj1_p0_l11 xj1_p0_l12 xj1_p0_l13 xj1_p0_l14) xj1_p0_15 xj1_p0_l16) Aj1_p0_l7 cj1_p0_l7 Aj1_p0_l8 cj1_p0_l8 Aj1_p0_l10 cj1_p0_l10 Aj1_p0_15 cj1_p0_15)) (S85.mk (S31.mk xj1_p0_l0 xj1_p0_l1 xj1_p0_l2 xj1_p0_l3 xj1_p0_l4 (S26.mk (S23.mk xj1_p0_l5 xj1_p0_l6 xj1_p0_l7) xj1_p0_l8) xj1_p0_l9 xj1_p0_l10 xj1_p0_l11 xj1_p0_l12 xj1_p0_l13 xj1_p0_l14) xj1_p0_15 xj1_p0_l16) rfl hj1_p0_l7 hj1_p0_l8 hj1_p0_l10 lj1_p0_l11 lj1_p0_l12) ej1_p0_15) ?_
        rintro _ Mj1_12 _ ⟨csj1_7, Aj1_9, cj1_10, rcj1_11, rfl, rfl, hj1_8, hj1_12⟩ hMj1_12
        obtain ⟨Ahj1_8_7, chj1_8_7, Ahj1_8_8, chj1_8_8, Ahj1_8_10, chj1_8_10, rfl, hj1_8_7, hj1_8_8, hj1_8_10, hj1_8_11, hj1_8_12⟩ := oS85_open hj1_8
        refine fin ?_
        replace hj1_s7 := (hj1_s7.mono hMj1_12)
        exact to [0, 1] (@f54_j2 _ _ _ _ ihj1 Mj1_12 rcj1_11 rcx0_15 bx0 c0_3 chx0_10 chx0_7 chx0_8 cj1_10 chj1_8_10 chj1_8_7 chj1_8_8 cx0_15 A0_2 Ahx0_10 Ahx0_7 Ahx0_8 Aj1_9 Ahj1_8_10 Ahj1_8_7 Ahj1_8_8 Ax0_15 _ _ _ _ _ _ _ _ _ _ _ _ _ _ _ _ _ _ _ _ hm hj1_s7 hj1_8_7 hj1_8_8 hj1_8_10 hj1_8_11 hj1_8_12 hj1_12)
      · exact to [0, 1] (@f54_j2 _ _ _ _ ihj1 M csj1_p0_15 rcx0_15 bx0 c0_3 chx0_10 chx0_7 chx0_8 cj1_p0_15 cj1_p0_l10 cj1_p0_l7 cj1_p0_l8 cx0_15 A0_2 Ahx0_10 Ahx0_7 Ahx0_8 Aj1_p0_15 Aj1_p0_l10 Aj1_p0_l7 Aj1_p0_l8 Ax0_15 _ _ _ _ _ _ _ _ _ _ _ _ _ _ _ _ _ _ _ _ hm hj1_s7 hj1_p0_l7 hj1_p0_l8 hj1_p0_l10 lj1_p0_l11 lj1_p0_l12 ej1_p0_15)
    · refine en ?_
      obtain rfl := Option.some.inj hm
      exact re (v := .tuple #[]) [0, 1] ⟨(cS85 (S85.mk (S31.mk xj1_p0_l0 xj1_p0_l1 xj1_p0_l2 xj1_p0_l3 xj1_p0_l4 (S26.mk (S23.mk xj1_p0_l5 xj1_p0_l6 xj1_p0_l7) xj1_p0_l8) xj1_p0_l9 xj1_p0_l10 xj1_p0_l11 xj1_p0_l12 xj1_p0_l13 xj1_p0_l14) xj1_p0_15 xj1_p0_l16) Aj1_p0_l7 cj1_p0_l7 Aj1_p0_l8 cj1_p0_l8 Aj1_p0_l10 cj1_p0_l10 Aj1_p0_15 cj1_p0_15), Aj1_p0_15, cj1_p0_15, csj1_p0_15, rfl, rfl, (oS85_mk (cs := (cS85 (S85.mk (S31.mk xj1_p0_l0 xj1_p0_l1 xj1_p0_l2 xj1_p0_l3 xj1_p0_l4 (S26.mk (S23.mk xj1_p0_l5 xj1_p0_l6 xj1_p0_l7) xj1_p0_l8) xj1_p0_l9 xj1_p0_l10 xj1_p0_l11 xj1_p0_l12 xj1_p0_l13 xj1_p0_l14) xj1_p0_15 xj1_p0_l16) Aj1_p0_l7 cj1_p0_l7 Aj1_p0_l8 cj1_p0_l8 Aj1_p0_l10 cj1_p0_l10 Aj1_p0_15 cj1_p0_15)) (S85.mk (S31.mk xj1_p0_l0 xj1_p0_l1 xj1_p0_l2 xj1_p0_l3 xj1_p0_l4 (S26.mk (S23.mk xj1_p0_l5 xj1_p0_l6 xj1_p0_l7) xj1_p0_l8) xj1_p0_l9 xj1_p0_l10 xj1_p0_l11 xj1_p0_l12 xj1_p0_l13 xj1_p0_l14) xj1_p0_15 xj1_p0_l16) rfl hj1_p0_l7 hj1_p0_l8 hj1_p0_l10 lj1_p0_l11 lj1_p0_l12), ej1_p0_15⟩
theorem f54_ok {M : Mem} {bx0 : Nat} {csx0 : List Value} {Ax0_15 : Option Addr} {cx0_15 : Nat} {rcx0_15 : List Value} (x0 : S85) (r : S85) (hm : m54 x0 = some r) (hx0 : (oS85 Ax0_15 cx0_15).rep M csx0 x0) (ex0_15 : Elems kS46 M rcx0_15 x0.f1) : FnOk Try.prog 54 [.pointer (some ⟨bx0, 0, none⟩), .func (.func 55) #[.pointer (some ⟨bx0, 0, none⟩)] #[]] M [.blk bx0 csx0 86, .row (.slice Ax0_15 x0.f1.length cx0_15) 47 17 x0.f1.length rcx0_15] (R54 M bx0 csx0 Ax0_15 x0 cx0_15 rcx0_15 r) := by
  obtain ⟨Ahx0_7, chx0_7, Ahx0_8, chx0_8, Ahx0_10, chx0_10, rfl, hx0_7, hx0_8, hx0_10, hx0_11, hx0_12⟩ := oS85_open hx0
  refine intro_ (c := c54) 24 Try.func54 fun w => ?_
  unfold m54 at hm
  obtain ⟨t0_1, ht0_1, hm⟩ := bind_some hm
  refine rg [0] ?_
  refine seg [.p 1] [(6, .pointer (some ⟨bx0, 0, none⟩))] [] ?_
  refine g_call 7 [0, 1] (f57_ok (bx0 := bx0) (Ax0_15 := Ax0_15) (cx0_15 := cx0_15) _ _ ht0_1 (oS85_mk (cs := (cS85 x0 Ahx0_7 chx0_7 Ahx0_8 chx0_8 Ahx0_10 chx0_10 Ax0_15 cx0_15)) x0 rfl hx0_7 hx0_8 hx0_10 hx0_11 hx0_12) ex0_15) ?_
  rintro _ M0_4 _ ⟨A0_2, c0_3, rfl, rfl, h0_4⟩ hM0_4
  refine seg [.p 2] [(8, .int .i64 (t0_1.length : Int)), (9, .int .i64 0)] [] ?_
  refine fin ?_
  replace hx0_7 := (hx0_7.mono hM0_4)
  replace hx0_8 := (hx0_8.mono hM0_4)
  replace hx0_10 := (hx0_10.mono hM0_4)
  replace ex0_15 := (ex0_15.mono hM0_4)
  exact to [0, 1] (@f54_j1 _ _ _ FUEL M0_4 rcx0_15 rcx0_15 bx0 c0_3 chx0_10 chx0_7 chx0_8 cx0_15 chx0_10 chx0_7 chx0_8 cx0_15 A0_2 Ahx0_10 Ahx0_7 Ahx0_8 Ax0_15 Ahx0_10 Ahx0_7 Ahx0_8 Ax0_15 _ _ _ _ _ _ _ _ _ _ _ _ _ _ _ _ _ _ _ _ hm h0_4 hx0_7 hx0_8 hx0_10 hx0_11 hx0_12 ex0_15)

/-! ## heartwood/conf.Has -/
/-- heartwood/conf.Has: what is left behind a call. -/
abbrev R56 (M : Mem) (r : Bool) : Value → Mem → List Res → Prop := fun v M' H' => .bool r = v ∧ M = M' ∧ H' = []
noncomputable def c56 : Code := match Try.f56.body with | some c => c | none => .skip
theorem f56_ok {M : Mem} {Ax0 : Option Addr} {cx0 : Nat} (x0 : List Int) (x1 : Int) (r : Bool) (hm : m56 x0 x1 = some r) (hx0 : SlAt (kint .i64) M Ax0 cx0 x0) : FnOk Try.prog 56 [.slice Ax0 x0.length cx0, .int .i64 x1] M [] (R56 M r) := by
  refine intro_ (c := c56) 8 Try.func56 fun w => ?_
  unfold m56 at hm
  refine rs [0] [.p 1] [] [] ?_
  obtain ⟨t0_1, ht0_1, hm⟩ := bind_some hm
  refine rg [1, 0] ?_
  refine seg [.p 2] [(5, .slice Ax0 x0.length cx0), (6, .int .i64 x1)] [] ?_
  refine g_call0 7 (f43_ok _ _ _ ht0_1 hx0) ?_
  rintro _ _ _ ⟨rfl, rfl, rfl⟩ -
  refine seg [.p 1] [(4, .bool t0_1)] [] ?_
  refine fin ?_
  obtain rfl := Option.some.inj hm
  exact rtp (v := .bool t0_1) [] ⟨rfl, rfl, rfl⟩

/-! ## heartwood/conf.Most -/
/-- heartwood/conf.Most: what is left behind a call. -/
abbrev R62 (M : Mem) (r : Bool) : Value → Mem → List Res → Prop := fun v M' H' => .bool r = v ∧ M = M' ∧ H' = []
noncomputable def c62 : Code := match Try.f62.body with | some c => c | none => .skip
abbrev C62 (w0 : World) (M0 : Mem) : Ctx := ⟨29, w0, M0, []⟩
abbrev D62 (w0 : World) (M0 : Mem) (r : Bool) : Post := Done Try.prog Try.f62 (C62 w0 M0) (R62 M0 r)
abbrev H62_j1 (w0 : World) (M0 : Mem) (r : Bool) (Lj1 : Int → Int → (List Int) → (List Int) → Option Bool) : Prop := ∀ {M : Mem} {cx0 cx1 : Nat} {Ax0 Ax1 : Option Addr} (xj1_s10 xj1_s5 : Int) (x0 x1 : List Int) (_ : Lj1 xj1_s10 xj1_s5 x0 x1 = some r) (_ : SlAt (kint .i64) M Ax0 cx0 x0) (_ : SlAt (kint .i64) M Ax1 cx1 x1) (_ : SlAt (kint .i64) M Ax0 cx0 x0), AG Try.prog c62 [1, 1, 0, 1, 0] (D62 w0 M0 r) (C62 w0 M0) (env [(0, .slice Ax0 x0.length cx0), (1, .slice Ax1 x1.length cx1), (5, .int .i64 xj1_s5), (8, .slice Ax0 x0.length cx0), (9, .int .i64 (x0.length : Int)), (10, .int .i64 xj1_s10)]) M []
theorem f62_j3 {w0 : World} {M0 : Mem} {r : Bool} : ∀ {M : Mem} (xj3_s4 : Bool) (_ : m62_j3 xj3_s4 = some r), AG Try.prog c62 [1, 1, 1, 1] (D62 w0 M0 r) (C62 w0 M0) (env [(4, .bool xj3_s4)]) M [] := by
  intro M xj3_s4 hm; unfold m62_j3 at hm
  obtain rfl := Option.some.inj hm
  exact rtp (v := .bool xj3_s4) [] ⟨rfl, rfl, rfl⟩
theorem f62_j2 {w0 : World} {M0 : Mem} {r : Bool} {Lj1 : Int → Int → (List Int) → (List Int) → Option Bool} (ihj1 : H62_j1 w0 M0 r Lj1) : ∀ {M : Mem} {cx0 cx1 : Nat} {Ax0 Ax1 : Option Addr} (xj2_s10 xj2_s5 : Int) (x0 x1 : List Int) (_ : m62_j2 Lj1 xj2_s10 xj2_s5 x0 x1 = some r) (_ : SlAt (kint .i64) M Ax0 cx0 x0) (_ : SlAt (kint .i64) M Ax1 cx1 x1) (_ : SlAt (kint .i64) M Ax0 cx0 x0), AG Try.prog c62 [1, 1, 0, 1, 0, 0, 1, 1, 1] (D62 w0 M0 r) (C62 w0 M0) (env [(0, .slice Ax0 x0.length cx0), (1, .slice Ax1 x1.length cx1), (5, .int .i64 xj2_s5), (8, .slice Ax0 x0.length cx0), (9, .int .i64 (x0.length : Int)), (10, .int .i64 xj2_s10)]) M [] := by
  intro M cx0 cx1 Ax0 Ax1 xj2_s10 xj2_s5 x0 x1 hm hj2_s0 hj2_s1 hj2_s8; unfold m62_j2 at hm
  refine rs [1, 1, 0, 1, 0, 0, 1, 1, 1] [.p 2] [(10, .int .i64 (IntKind.i64.wrap (xj2_s10 + 1)))] [] ?_
  exact to [] (@ihj1 M cx0 cx1 Ax0 Ax1 _ _ _ _ hm hj2_s0 hj2_s1 hj2_s8)
theorem f62_j1 {w0 : World} {M0 : Mem} {r : Bool} : ∀ k, H62_j1 w0 M0 r (m62_j1 k) := by
  intro k; induction k with
  | zero => intro M cx0 cx1 Ax0 Ax1 xj1_s10 xj1_s5 x0 x1 hm; exact absurd hm (by simp [m62_j1])
  | succ k ihj1 =>
    intro M cx0 cx1 Ax0 Ax1 xj1_s10 xj1_s5 x0 x1 hm hj1_s0 hj1_s1 hj1_s8
    rw [m62_j1.eq_2] at hm
    refine gl [1, 1, 0, 1, 0] plain_done ?_
    refine rs [1, 1, 0, 1, 0, 0, 0] [.p 1] [(11, .bool (decide ((xj1_s10 : Int) < (x0.length : Int))))] [] ?_
    refine gi [1, 1, 0, 1, 0, 0, 1, 0] hm (fun hm => ?_) fun hm => ?_
    · obtain ⟨ej1_1, bj1_2, fj1_3, kj1_4, Wj1_5, hm, haej1_1, hbej1_1, hmej1_1, hwej1_1, hrej1_1⟩ := ixo hm hj1_s8
      replace hwej1_1 := hwej1_1.trans hrej1_1
      refine rg [1, 1, 0, 1, 0, 0, 1, 1, 0, 0, 0] ?_
      refine g_ix 12 1 haej1_1 hbej1_1 ?_
      refine g_lw 13 0 (.int .i64 ej1_1) hmej1_1 hwej1_1 ?_
      refine seg [.p 1] [(7, .int .i64 ej1_1)] [] ?_
      refine fin ?_
      obtain ⟨tj1_6, htj1_6, hm⟩ := bind_some hm
      refine rg [1, 1, 0, 1, 0, 0, 1, 1, 0, 0, 1, 0] ?_
      refine seg [.p 2] [(14, .slice Ax1 x1.length cx1), (15, .int .i64 ej1_1)] [] ?_
      refine g_call0 16 (f56_ok _ _ _ htj1_6 hj1_s1) ?_
      rintro _ _ _ ⟨rfl, rfl, rfl⟩ -
      refine fin ?_
      refine gi [1, 1, 0, 1, 0, 0, 1, 1, 0, 0, 1, 1] hm (fun hm => ?_) fun hm => ?_
      · refine rs [1, 1, 0, 1, 0, 0, 1, 1, 0, 0, 1, 1, 0] [.p 3] [(5, .int .i64 (IntKind.i64.wrap (xj1_s5 + 1)))] [] ?_
        exact to [] (@f62_j2 _ _ _ _ ihj1 M cx0 cx1 Ax0 Ax1 _ _ _ _ hm hj1_s0 hj1_s1 hj1_s8)
      · exact to [] (@f62_j2 _ _ _ _ ihj1 M cx0 cx1 Ax0 Ax1 _ _ _ _ hm hj1_s0 hj1_s1 hj1_s8)
    · obtain ⟨tj1_7, htj1_7, hm⟩ := bind_some hm
      refine rg [1, 1, 1, 0] ?_
      refine seg [.p 1] [(20, .slice Ax0 x0.length cx0)] [] ?_
      refine g_call0 21 (f78_ok _ _ htj1_7 hj1_s0) ?_
      rintro _ _ _ ⟨rfl, rfl, rfl⟩ -
      refine seg [.p 1] [(22, .bool tj1_7)] [] ?_
      refine gs 22 hm (fun hm => ?_) fun hm => ?_
      · refine seg [.p 7] [(4, .bool (decide (((IntKind.i64.wrap (2 * xj1_s5)) : Int) > (x0.length : Int))))] [] ?_
        refine fin ?_
        exact to [] (@f62_j3 _ _ _ M _ hm)
      · refine seg [.p 7] [(4, .bool false)] [] ?_
        refine fin ?_
        exact to [] (@f62_j3 _ _ _ M _ hm)
theorem f62_ok {M : Mem} {Ax0 : Option Addr} {cx0 : Nat} {Ax1 : Option Addr} {cx1 : Nat} (x0 : List Int) (x1 : List Int) (r : Bool) (hm : m62 x0 x1 = some r) (hx0 : SlAt (kint .i64) M Ax0 cx0 x0) (hx1 : SlAt (kint .i64) M Ax1 cx1 x1) : FnOk Try.prog 62 [.slice Ax0 x0.length cx0, .slice Ax1 x1.length cx1] M [] (R62 M r) := by
  refine intro_ (c := c62) 29 Try.func62 fun w => ?_
  unfold m62 at hm
  refine rs [0] [.p 1] [] [] ?_
  refine rs [1, 0] [.p 1] [(5, .int .i64 0)] [] ?_
  refine rs [1, 1, 0, 0] [.p 3] [(8, .slice Ax0 x0.length cx0), (9, .int .i64 (x0.length : Int)), (10, .int .i64 0)] [] ?_
  exact to [] (@f62_j1 _ _ _ FUEL M cx0 cx1 Ax0 Ax1 _ _ _ _ hm hx0 hx1 hx0)

/-! ## slices.Clone[[]byte,byte] -/
/-- slices.Clone[[]byte,byte]: what is left behind a call. -/
abbrev R90 (M : Mem) (r : List Int) : Value → Mem → List Res → Prop := fun v M' H' => ∃ (q0 : Option Addr) (y0 : Nat) (u0 : List Value), .slice q0 r.length y0 = v ∧ H' = [.row (.slice q0 r.length y0) 5 1 r.length u0] ∧ Elems (kint .u8) M' u0 r
noncomputable def c90 : Code := match Try.f90.body with | some c => c | none => .skip
theorem f90_ok {M : Mem} {Ax0 : Option Addr} {cx0 : Nat} (x0 : List Int) (r : List Int) (hm : m90 x0 = some r) (hx0 : SlAt (kint .u8) M Ax0 cx0 x0) : FnOk Try.prog 90 [.slice Ax0 x0.length cx0] M [] (R90 M r) := by
  refine intro_ (c := c90) 8 Try.func90 fun w => ?_
  unfold m90 at hm
  refine rs [0] [.p 1] [] [] ?_
  refine rg [1, 0, 0] ?_
  refine seg [.p 1] [(3, .slice Ax0 x0.length cx0)] [] ?_
  rcases slnil_or hx0 with ⟨rfl, rfl⟩ | ⟨ax0_1, rfl⟩
  · refine seg [.p 1] [(4, .bool true)] [] ?_
    refine fin ?_
    refine gib [1, 0, 1] true ?_
    refine rs [1, 0, 1, 0, 0] [.p 1] [(2, .slice none 0 0)] [] ?_
    refine nlA 5 1 ?_
    obtain rfl := Option.some.inj hm
    exact rt (v := (.slice none (([] : List Int).length) 0)) [0] ⟨none, 0, [], rfl, rfl, (elNil (d := (kint .u8)) (M := M))⟩
  · refine seg [.p 1] [(4, .bool false)] [] ?_
    refine fin ?_
    refine gib [1, 0, 1] false ?_
    refine rg [1, 1, 0] ?_
    have e0_2 : Elems (kint .u8) M [] ([] : List Int) := elNil
    refine g_bs 5 5 1 0 [] fun b0_3 => ?_
    obtain ⟨hb0_4, hm⟩ := gd2 hm
    refine seg [.p 1] [(6, .slice (some ax0_1) x0.length cx0)] [] ?_
    refine g_apD 7 0 5 1 (some ⟨b0_3, 0, none⟩) 0 e0_2 hx0 hb0_4 fun A0_5 c0_6 cs0_7 e0_4 => ?_
    refine seg [.p 1] [(2, (.slice A0_5 ((([] : List Int) ++ x0).length) c0_6))] [] ?_
    refine fin ?_
    obtain rfl := Option.some.inj hm
    exact rt (v := (.slice A0_5 ((([] : List Int) ++ x0).length) c0_6)) [0] ⟨A0_5, c0_6, cs0_7, rfl, rfl, e0_4⟩

/-! ## (heartwood/raft.stepper).add -/
/-- (heartwood/raft.stepper).add: what is left behind a call. -/
abbrev R67 (M : Mem) (bx0 : Nat) (csx0 : List Value) (Ax0_15 : Option Addr) (x0 : S85) (cx0_15 : Nat) (rcx0_15 : List Value) (r : S85) : Value → Mem → List Res → Prop := fun v M' H' => ∃ (q0 : List Value) (w0_15 : Option Addr) (y0_15 : Nat) (z0_15 : List Value), .tuple #[] = v ∧ H' = [.blk bx0 q0 86, .row (.slice w0_15 r.f1.length y0_15) 47 17 r.f1.length z0_15] ∧ (oS85 w0_15 y0_15).rep M' q0 r ∧ Elems kS46 M' z0_15 r.f1
noncomputable def c67 : Code := match Try.f67.body with | some c => c | none => .skip
theorem f67_ok {M : Mem} {bx0 : Nat} {csx0 : List Value} {Ax0_15 : Option Addr} {cx0_15 : Nat} {rcx0_15 : List Value} {Ax2 : Option Addr} {cx2 : Nat} (x0 : S85) (x1 : Int) (x2 : List Int) (r : S85) (hm : m67 x0 x1 x2 = some r) (hx0 : (oS85 Ax0_15 cx0_15).rep M csx0 x0) (ex0_15 : Elems kS46 M rcx0_15 x0.f1) (hx2 : SlAt (kint .u8) M Ax2 cx2 x2) : FnOk Try.prog 67 [.pointer (some ⟨bx0, 0, none⟩), .int .i64 x1, .slice Ax2 x2.length cx2] M [.blk bx0 csx0 86, .row (.slice Ax0_15 x0.f1.length cx0_15) 47 17 x0.f1.length rcx0_15] (R67 M bx0 csx0 Ax0_15 x0 cx0_15 rcx0_15 r) := by
  obtain ⟨Ahx0_7, chx0_7, Ahx0_8, chx0_8, Ahx0_10, chx0_10, rfl, hx0_7, hx0_8, hx0_10, hx0_11, hx0_12⟩ := oS85_open hx0
  refine intro_ (c := c67) 32 Try.func67 fun w => ?_
  unfold m67 at hm
  obtain ⟨t0_1, ht0_1, hm⟩ := bind_some hm
  refine rg [0, 0] ?_
  refine seg [.p 1] [(6, .pointer (some ⟨bx0, 0, none⟩))] [] ?_
  refine g_call 7 [0, 1] (f36_ok (bx0 := bx0) (Ax0_15 := Ax0_15) (cx0_15 := cx0_15) _ _ ht0_1 (oS85_mk (cs := (cS85 x0 Ahx0_7 chx0_7 Ahx0_8 chx0_8 Ahx0_10 chx0_10 Ax0_15 cx0_15)) x0 rfl hx0_7 hx0_8 hx0_10 hx0_11 hx0_12) ex0_15) ?_
  rintro _ _ _ ⟨rfl, rfl, rfl⟩ -
  refine seg [.p 1] [(8, .bool (decide ((t0_1 : Int) ≥ 1152921504606846976)))] [] ?_
  refine fin ?_
  refine gi [0, 1] hm (fun hm => ?_) fun hm => ?_
  · obtain rfl := Option.some.inj hm
    exact rt (v := .tuple #[]) [0, 1] ⟨(cS85 x0 Ahx0_7 chx0_7 Ahx0_8 chx0_8 Ahx0_10 chx0_10 Ax0_15 cx0_15), Ax0_15, cx0_15, rcx0_15, rfl, rfl, (oS85_mk (cs := (cS85 x0 Ahx0_7 chx0_7 Ahx0_8 chx0_8 Ahx0_10 chx0_10 Ax0_15 cx0_15)) x0 rfl hx0_7 hx0_8 hx0_10 hx0_11 hx0_12), ex0_15⟩
  · obtain ⟨t0_2, ht0_2, hm⟩ := bind_some hm
    refine rgD [1] (PT.of [0, 4, 8, 12, 16, 20, 25, 32, 36, 40, 44, 49, 52, 56, 31, 63, 64, 71, 75, 76, 80, 84, 88, 95] .dn) [(6, 0), (12, 0)] [0] mixed plain_done ?_
    refine seg [.p 6, .l 0, .p 4, .l 0, .p 2] [(9, .pointer (some ⟨bx0, 0, none⟩)), (15, .slice Ahx0_8 x0.f0.f5.f1.length chx0_8), (21, .int .i64 x0.f0.f1), (22, .int .i64 x1), (23, .slice Ax2 x2.length cx2)] [] ?_
    refine g_call0 16 (f76_ok _ _ ht0_2 hx0_8) ?_
    rintro _ M0_6 _ ⟨A0_3, c0_4, cs0_5, rfl, rfl, h0_6⟩ hM0_6
    obtain ⟨t0_7, ht0_7, hm⟩ := bind_some hm
    replace hx2 := (hx2.mono hM0_6)
    refine g_call0 24 (f90_ok _ _ ht0_7 hx2) ?_
    rintro _ M0_11 _ ⟨A0_8, c0_9, cs0_10, rfl, rfl, h0_11⟩ hM0_11
    refine seg [.b] [(25, .agg (cS80 (S80.mk x0.f0.f1 x1 t0_7) A0_8 c0_9).toArray)] [] ?_
    refine fzI 3 5 A0_8 c0_9 h0_11 fun Mh0_12 lh0_12 h0_12 => ?_
    have e0_13 : Elems kS80 Mh0_12 (cS80 (S80.mk x0.f0.f1 x1 t0_7) A0_8 c0_9) ([(S80.mk x0.f0.f1 x1 t0_7)] : List S80) := (elCons (d := kS80) (M := Mh0_12) (a := (cS80 (S80.mk x0.f0.f1 x1 t0_7) A0_8 c0_9)) (x := (S80.mk x0.f0.f1 x1 t0_7)) (kS80_mk (cs := (cS80 (S80.mk x0.f0.f1 x1 t0_7) A0_8 c0_9)) (S80.mk x0.f0.f1 x1 t0_7) rfl h0_12) elNil)
    refine g_bs 26 81 3 1 (cS80 (S80.mk x0.f0.f1 x1 t0_7) A0_8 c0_9) fun b0_14 => ?_
    obtain ⟨hb0_15, hm⟩ := gd2 hm
    replace h0_6 := ((h0_6.mono hM0_11).mono lh0_12)
    refine g_apR 27 2 81 40 4 A0_3 c0_4 (some ⟨b0_14, 0, none⟩) 1 h0_6 e0_13 hb0_15 fun A0_16 c0_17 cs0_18 e0_15 => ?_
    refine seg [.p 4, .s 0] [] [(0, .blk bx0 (cS85 ({ x0 with f0 := { x0.f0 with f5 := (S26.mk x0.f0.f5.f0 (t0_2 ++ ([(S80.mk x0.f0.f1 x1 t0_7)] : List S80))) } }) Ahx0_7 chx0_7 A0_16 c0_17 Ahx0_10 chx0_10 Ax0_15 cx0_15) 86)] ?_
    refine finE ?_
    refine fzA 2 81 A0_16 c0_17 e0_15 fun Mh0_19 lh0_19 h0_19 => ?_
    obtain rfl := Option.some.inj hm
    replace hx0_7 := ((((hx0_7.mono hM0_6).mono hM0_11).mono lh0_12).mono lh0_19)
    replace hx0_10 := ((((hx0_10.mono hM0_6).mono hM0_11).mono lh0_12).mono lh0_19)
    replace ex0_15 := ((((ex0_15.mono hM0_6).mono hM0_11).mono lh0_12).mono lh0_19)
    exact re (v := .tuple #[]) [0, 1] ⟨(cS85 ({ x0 with f0 := { x0.f0 with f5 := (S26.mk x0.f0.f5.f0 (t0_2 ++ ([(S80.mk x0.f0.f1 x1 t0_7)] : List S80))) } }) Ahx0_7 chx0_7 A0_16 c0_17 Ahx0_10 chx0_10 Ax0_15 cx0_15), Ax0_15, cx0_15, rcx0_15, rfl, rfl, (oS85_mk (cs := (cS85 ({ x0 with f0 := { x0.f0 with f5 := (S26.mk x0.f0.f5.f0 (t0_2 ++ ([(S80.mk x0.f0.f1 x1 t0_7)] : List S80))) } }) Ahx0_7 chx0_7 A0_16 c0_17 Ahx0_10 chx0_10 Ax0_15 cx0_15)) ({ x0 with f0 := { x0.f0 with f5 := (S26.mk x0.f0.f5.f0 (t0_2 ++ ([(S80.mk x0.f0.f1 x1 t0_7)] : List S80))) } }) rfl hx0_7 h0_19 hx0_10 hx0_11 hx0_12), ex0_15⟩

/-! ## (heartwood/raft.stepper).pending$1 -/
/-- (heartwood/raft.stepper).pending$1: what is left behind a call. -/
abbrev R93 (M : Mem) (r : Bool) : Value → Mem → List Res → Prop := fun v M' H' => .bool r = v ∧ M = M' ∧ H' = []
noncomputable def c93 : Code := match Try.f93.body with | some c => c | none => .skip
theorem f93_ok {M : Mem} {csx0 : List Value} (x0 : S80) (r : Bool) (hm : m93 x0 = some r) (hx0 : kS80.rep M csx0 x0) : FnOk Try.prog 93 [.agg csx0.toArray] M [] (R93 M r) := by
  obtain ⟨Ahx0_2, chx0_2, rfl, hx0_2⟩ := kS80_open hx0
  refine intro_ (c := c93) 6 Try.func93 fun w => ?_
  unfold m93 at hm
  refine rg [0] ?_
  refine g_bx 1 81 (.agg (cS80 x0 Ahx0_2 chx0_2).toArray) fun b0_1 => ?_
  refine seg [.p 1] [] [] ?_
  refine fin ?_
  refine rs [1, 0] [.p 1, .l 0, .p 2] [(2, .bool ((x0.f1 : Int) == 2))] [] ?_
  obtain rfl := Option.some.inj hm
  exact rtp (v := .bool ((x0.f1 : Int) == 2)) [] ⟨rfl, rfl, rfl⟩

/-! ## slices.IndexFunc[[]heartwood/api.Entry,heartwood/api.Entry] -/
/-- slices.IndexFunc[[]heartwood/api.Entry,heartwood/api.Entry]: what is left behind a call. -/
abbrev R97 (M : Mem) (r : Int) : Value → Mem → List Res → Prop := fun v M' H' => .int .i64 r = v ∧ M = M' ∧ H' = []
noncomputable def c97 : Code := match Try.f97.body with | some c => c | none => .skip
abbrev C97 (w0 : World) (M0 : Mem) : Ctx := ⟨19, w0, M0, []⟩
abbrev D97 (w0 : World) (M0 : Mem) (r : Int) : Post := Done Try.prog Try.f97 (C97 w0 M0) (R97 M0 r)
abbrev H97_j1 (w0 : World) (M0 : Mem) (r : Int) (Lj1 : Int → (List S80) → Option Int) : Prop := ∀ {M : Mem} {cx0 : Nat} {Ax0 : Option Addr} (xj1_s8 : Int) (x0 : List S80) (_ : Lj1 xj1_s8 x0 = some r) (_ : SlAt kS80 M Ax0 cx0 x0), AG Try.prog c97 [1, 0, 1, 0] (D97 w0 M0 r) (C97 w0 M0) (env [(0, .slice Ax0 x0.length cx0), (1, .func (.func 93) #[] #[]), (7, .int .i64 (x0.length : Int)), (8, .int .i64 xj1_s8)]) M []
theorem f97_j1 {w0 : World} {M0 : Mem} {r : Int} : ∀ k, H97_j1 w0 M0 r (m97_j1 k) := by
  intro k; induction k with
  | zero => intro M cx0 Ax0 xj1_s8 x0 hm; exact absurd hm (by simp [m97_j1])
  | succ k ihj1 =>
    intro M cx0 Ax0 xj1_s8 x0 hm hj1_s0
    rw [m97_j1.eq_2] at hm
    refine gl [1, 0, 1, 0] plain_done ?_
    refine rs [1, 0, 1, 0, 0, 0] [.p 1] [(9, .bool (decide ((xj1_s8 : Int) < (x0.length : Int))))] [] ?_
    refine gi [1, 0, 1, 0, 0, 1, 0] hm (fun hm => ?_) fun hm => ?_
    · refine rs [1, 0, 1, 0, 0, 1, 1, 0, 0, 0] [.p 2] [(5, .int .i64 xj1_s8)] [] ?_
      obtain ⟨ej1_1, bj1_2, fj1_3, kj1_4, Wj1_5, hm, haej1_1, hbej1_1, hmej1_1, hwej1_1, hrej1_1⟩ := ixo hm hj1_s0
      obtain ⟨Ahrej1_1_2, chrej1_1_2, hcej1_1, hrej1_1_2⟩ := kS80_open hrej1_1
      replace hwej1_1 := hwej1_1.trans hcej1_1
      refine rg [1, 0, 1, 0, 0, 1, 1, 0, 0, 1, 0] ?_
      refine seg [.p 3] [(11, .func (.func 93) #[] #[]), (12, .slice Ax0 x0.length cx0), (13, .int .i64 xj1_s8)] [] ?_
      refine g_ix 14 3 haej1_1 hbej1_1 ?_
      refine g_lw 15 0 (.agg (cS80 ej1_1 Ahrej1_1_2 chrej1_1_2).toArray) hmej1_1 hwej1_1 ?_
      obtain ⟨tj1_6, htj1_6, hm⟩ := bind_some hm
      refine g_call0 16 (f93_ok _ _ htj1_6 (kS80_mk (cs := (cS80 ej1_1 Ahrej1_1_2 chrej1_1_2)) ej1_1 rfl hrej1_1_2)) ?_
      rintro _ _ _ ⟨rfl, rfl, rfl⟩ -
      refine fin ?_
      refine gi [1, 0, 1, 0, 0, 1, 1, 0, 0, 1, 1] hm (fun hm => ?_) fun hm => ?_
      · refine rs [1, 0, 1, 0, 0, 1, 1, 0, 0, 1, 1, 0, 0] [.p 2] [(4, .int .i64 xj1_s8)] [] ?_
        obtain rfl := Option.some.inj hm
        exact rtp (v := .int .i64 xj1_s8) [] ⟨rfl, rfl, rfl⟩
      · refine rs [1, 0, 1, 0, 0, 1, 1, 1] [.p 2] [(8, .int .i64 (IntKind.i64.wrap (xj1_s8 + 1)))] [] ?_
        exact to [] (@ihj1 M cx0 Ax0 _ _ hm hj1_s0)
    · refine rs [1, 1, 0] [.p 1] [(4, .int .i64 (-1))] [] ?_
      obtain rfl := Option.some.inj hm
      exact rtp (v := .int .i64 (-1)) [] ⟨rfl, rfl, rfl⟩
theorem f97_ok {M : Mem} {Ax0 : Option Addr} {cx0 : Nat} (x0 : List S80) (r : Int) (hm : m97 x0 = some r) (hx0 : SlAt kS80 M Ax0 cx0 x0) : FnOk Try.prog 97 [.slice Ax0 x0.length cx0, .func (.func 93) #[] #[]] M [] (R97 M r) := by
  refine intro_ (c := c97) 19 Try.func97 fun w => ?_
  unfold m97 at hm
  refine rs [0] [.p 1] [] [] ?_
  refine rs [1, 0, 0] [.p 3] [(7, .int .i64 (x0.length : Int)), (8, .int .i64 0)] [] ?_
  exact to [] (@f97_j1 _ _ _ FUEL M cx0 Ax0 _ _ hm hx0)

/-! ## slices.ContainsFunc[[]heartwood/api.Entry,heartwood/api.Entry] -/
/-- slices.ContainsFunc[[]heartwood/api.Entry,heartwood/api.Entry]: what is left behind a call. -/
abbrev R88 (M : Mem) (r : Bool) : Value → Mem → List Res → Prop := fun v M' H' => .bool r = v ∧ M = M' ∧ H' = []
noncomputable def c88 : Code := match Try.f88.body with | some c => c | none => .skip
theorem f88_ok {M : Mem} {Ax0 : Option Addr} {cx0 : Nat} (x0 : List S80) (r : Bool) (hm : m88 x0 = some r) (hx0 : SlAt kS80 M Ax0 cx0 x0) : FnOk Try.prog 88 [.slice Ax0 x0.length cx0, .func (.func 93) #[] #[]] M [] (R88 M r) := by
  refine intro_ (c := c88) 9 Try.func88 fun w => ?_
  unfold m88 at hm
  refine rs [0] [.p 1] [] [] ?_
  obtain ⟨t0_1, ht0_1, hm⟩ := bind_some hm
  refine rg [1, 0] ?_
  refine seg [.p 2] [(5, .slice Ax0 x0.length cx0), (6, .func (.func 93) #[] #[])] [] ?_
  refine g_call0 7 (f97_ok _ _ ht0_1 hx0) ?_
  rintro _ _ _ ⟨rfl, rfl, rfl⟩ -
  refine seg [.p 2] [(4, .bool (decide ((t0_1 : Int) ≥ 0)))] [] ?_
  refine fin ?_
  obtain rfl := Option.some.inj hm
  exact rtp (v := .bool (decide ((t0_1 : Int) ≥ 0))) [] ⟨rfl, rfl, rfl⟩

/-! ## (heartwood/raft.stepper).pending -/
/-- (heartwood/raft.stepper).pending: what is left behind a call. -/
abbrev R71 (M : Mem) (bx0 : Nat) (csx0 : List Value) (Ax0_15 : Option Addr) (x0 : S85) (cx0_15 : Nat) (rcx0_15 : List Value) (r : Bool) : Value → Mem → List Res → Prop := fun v M' H' => .bool r = v ∧ M = M' ∧ H' = [.blk bx0 csx0 86, .row (.slice Ax0_15 x0.f1.length cx0_15) 47 17 x0.f1.length rcx0_15]
noncomputable def c71 : Code := match Try.f71.body with | some c => c | none => .skip
theorem f71_ok {M : Mem} {bx0 : Nat} {csx0 : List Value} {Ax0_15 : Option Addr} {cx0_15 : Nat} {rcx0_15 : List Value} (x0 : S85) (r : Bool) (hm : m71 x0 = some r) (hx0 : (oS85 Ax0_15 cx0_15).rep M csx0 x0) (ex0_15 : Elems kS46 M rcx0_15 x0.f1) : FnOk Try.prog 71 [.pointer (some ⟨bx0, 0, none⟩)] M [.blk bx0 csx0 86, .row (.slice Ax0_15 x0.f1.length cx0_15) 47 17 x0.f1.length rcx0_15] (R71 M bx0 csx0 Ax0_15 x0 cx0_15 rcx0_15 r) := by
  obtain ⟨Ahx0_7, chx0_7, Ahx0_8, chx0_8, Ahx0_10, chx0_10, rfl, hx0_7, hx0_8, hx0_10, hx0_11, hx0_12⟩ := oS85_open hx0
  refine intro_ (c := c71) 20 Try.func71 fun w => ?_
  unfold m71 at hm
  refine rs [0] [.p 1] [] [] ?_
  obtain ⟨t0_1, ht0_1, hm⟩ := bind_some hm
  refine rgD [1, 0] (PT.of [0, 4, 8, 12, 17, 20, 24, 28, 32, 37, 40, 44, 51, 55, 56] .dn) [(4, 0), (9, 0)] [0] mixed plain_done ?_
  refine seg [.p 4, .l 0, .p 4, .l 0, .p 2] [(8, .agg (cS26 x0.f0.f5 Ahx0_7 chx0_7 Ahx0_8 chx0_8).toArray), (14, .int .i64 (IntKind.i64.wrap (x0.f0.f6 + 1))), (15, .pointer (some ⟨bx0, 0, none⟩))] [] ?_
  refine g_callK 16 [0, 1] (f36_ok (bx0 := bx0) (Ax0_15 := Ax0_15) (cx0_15 := cx0_15) _ _ ht0_1 (oS85_mk (cs := (cS85 x0 Ahx0_7 chx0_7 Ahx0_8 chx0_8 Ahx0_10 chx0_10 Ax0_15 cx0_15)) x0 rfl hx0_7 hx0_8 hx0_10 hx0_11 hx0_12) ex0_15) (by rintro _ _ _ ⟨rfl, rfl, rfl⟩; rfl) ?_
  rintro _ _ _ ⟨rfl, rfl, rfl⟩ -
  obtain ⟨t0_2, ht0_2, hm⟩ := bind_some hm
  refine g_call0 17 (f84_ok _ _ _ _ ht0_2 (kS26_mk (cs := (cS26 x0.f0.f5 Ahx0_7 chx0_7 Ahx0_8 chx0_8)) x0.f0.f5 rfl hx0_7 hx0_8)) ?_
  rintro _ M0_5 _ ⟨A0_3, c0_4, rfl, rfl, h0_5⟩ hM0_5
  refine seg [.p 1] [(3, .slice A0_3 t0_2.length c0_4)] [] ?_
  refine fin ?_
  obtain ⟨t0_6, ht0_6, hm⟩ := bind_some hm
  refine rg [1, 1, 0] ?_
  refine seg [.p 1] [(18, .slice A0_3 t0_2.length c0_4)] [] ?_
  refine g_call0 19 (f88_ok _ _ ht0_6 h0_5) ?_
  rintro _ _ _ ⟨rfl, rfl, rfl⟩ -
  refine seg [.p 1] [(2, .bool t0_6)] [] ?_
  refine fin ?_
  obtain rfl := Option.some.inj hm
  exact rtp (v := .bool t0_6) [0, 1] ⟨rfl, rfl, rfl⟩

/-! ## (heartwood/raft.stepper).counts -/
/-- (heartwood/raft.stepper).counts: what is left behind a call. -/
abbrev R68 (M : Mem) (bx0 : Nat) (csx0 : List Value) (Ax0_15 : Option Addr) (x0 : S85) (cx0_15 : Nat) (rcx0_15 : List Value) (r : S85) : Value → Mem → List Res → Prop := fun v M' H' => ∃ (q0 : List Value) (w0_15 : Option Addr) (y0_15 : Nat) (z0_15 : List Value), .tuple #[] = v ∧ H' = [.blk bx0 q0 86, .row (.slice w0_15 r.f1.length y0_15) 47 17 r.f1.length z0_15] ∧ (oS85 w0_15 y0_15).rep M' q0 r ∧ Elems kS46 M' z0_15 r.f1
noncomputable def c68 : Code := match Try.f68.body with | some c => c | none => .skip
abbrev C68 (w0 : World) (M0 : Mem) (bx0 : Nat) (x0 : S85) (Ahx0_7 : Option Addr) (chx0_7 : Nat) (Ahx0_8 : Option Addr) (chx0_8 : Nat) (Ahx0_10 : Option Addr) (chx0_10 : Nat) (Ax0_15 : Option Addr) (cx0_15 : Nat) (rcx0_15 : List Value) : Ctx := ⟨95, w0, M0, [.blk bx0 (cS85 x0 Ahx0_7 chx0_7 Ahx0_8 chx0_8 Ahx0_10 chx0_10 Ax0_15 cx0_15) 86, .row (.slice Ax0_15 x0.f1.length cx0_15) 47 17 x0.f1.length rcx0_15]⟩
abbrev D68 (w0 : World) (M0 : Mem) (r : S85) (bx0 : Nat) (x0 : S85) (Ahx0_7 : Option Addr) (chx0_7 : Nat) (Ahx0_8 : Option Addr) (chx0_8 : Nat) (Ahx0_10 : Option Addr) (chx0_10 : Nat) (Ax0_15 : Option Addr) (cx0_15 : Nat) (rcx0_15 : List Value) : Post := Done Try.prog Try.f68 (C68 w0 M0 bx0 x0 Ahx0_7 chx0_7 Ahx0_8 chx0_8 Ahx0_10 chx0_10 Ax0_15 cx0_15 rcx0_15) (R68 M0 bx0 (cS85 x0 Ahx0_7 chx0_7 Ahx0_8 chx0_8 Ahx0_10 chx0_10 Ax0_15 cx0_15) Ax0_15 x0 cx0_15 rcx0_15 r)
abbrev H68_j3 (w0 : World) (M0 : Mem) (r : S85) (Lj3 : Int → Int → Int → (List Int) → (List Int) → S85 → Option S85) : Prop := ∀ {M : Mem} {csj3_1_1_1_0_1_0_0_1_0_0_1_1_1_0_1_0_0_1_1_0_0_1_1_0_3 rcx0_15 : List Value} {bx0 c0_6 chx0_10 chx0_7 chx0_8 cj3_1_1_1_0_1_0_0_1_0_0_1_1_1_0_1_0_0_1_1_0_0_1_1_0_3 cx0_15 : Nat} {A0_5 Ahx0_10 Ahx0_7 Ahx0_8 Aj3_1_1_1_0_1_0_0_1_0_0_1_1_1_0_1_0_0_1_1_0_0_1_1_0_3 Ax0_15 : Option Addr} (t0_1 xj3_s4 xj3_s58 : Int) (t0_4 xj3_1_1_1_0_1_0_0_1_0_0_1_1_1_0_1_0_0_1_1_0_0_1_1_0_3 : List Int) (x0 : S85) (_ : Lj3 t0_1 xj3_s4 xj3_s58 t0_4 xj3_1_1_1_0_1_0_0_1_0_0_1_1_1_0_1_0_0_1_1_0_0_1_1_0_3 x0 = some r) (_ : SlAt (kint .i64) M A0_5 c0_6 t0_4) (_ : (x0.f0.f9.set x0.f0.f0.toNat t0_1).length = 8) (_ : SlAt (kint .i64) M Ahx0_7 chx0_7 x0.f0.f5.f0.f2) (_ : SlAt kS80 M Ahx0_8 chx0_8 x0.f0.f5.f1) (_ : SlAt (kint .i64) M Ahx0_10 chx0_10 x0.f0.f7) (_ : x0.f0.f8.length = 8) (_ : (x0.f0.f9.set x0.f0.f0.toNat t0_1).length = 8) (_ : Elems kS46 M rcx0_15 x0.f1) (_ : Elems (kint .i64) M csj3_1_1_1_0_1_0_0_1_0_0_1_1_1_0_1_0_0_1_1_0_0_1_1_0_3 xj3_1_1_1_0_1_0_0_1_0_0_1_1_1_0_1_0_0_1_1_0_0_1_1_0_3), AG Try.prog c68 [1, 1, 1, 0, 1, 0, 0, 1, 0, 0, 1, 1, 1, 0, 1, 0] (D68 w0 M0 r bx0 x0 Ahx0_7 chx0_7 Ahx0_8 chx0_8 Ahx0_10 chx0_10 Ax0_15 cx0_15 rcx0_15) (C68 w0 M0 bx0 x0 Ahx0_7 chx0_7 Ahx0_8 chx0_8 Ahx0_10 chx0_10 Ax0_15 cx0_15 rcx0_15) (env [(0, .pointer (some ⟨bx0, 0, none⟩)), (2, .pointer (some ⟨bx0, 0, none⟩)), (3, .slice A0_5 t0_4.length c0_6), (4, .int .i64 xj3_s4), (7, (.slice Aj3_1_1_1_0_1_0_0_1_0_0_1_1_1_0_1_0_0_1_1_0_0_1_1_0_3 xj3_1_1_1_0_1_0_0_1_0_0_1_1_1_0_1_0_0_1_1_0_0_1_1_0_3.length cj3_1_1_1_0_1_0_0_1_0_0_1_1_1_0_1_0_0_1_1_0_0_1_1_0_3)), (57, .agg #[.int .i64 ((x0.f0.f9.set x0.f0.f0.toNat t0_1).getD 0 0), .int .i64 ((x0.f0.f9.set x0.f0.f0.toNat t0_1).getD 1 0), .int .i64 ((x0.f0.f9.set x0.f0.f0.toNat t0_1).getD 2 0), .int .i64 ((x0.f0.f9.set x0.f0.f0.toNat t0_1).getD 3 0), .int .i64 ((x0.f0.f9.set x0.f0.f0.toNat t0_1).getD 4 0), .int .i64 ((x0.f0.f9.set x0.f0.f0.toNat t0_1).getD 5 0), .int .i64 ((x0.f0.f9.set x0.f0.f0.toNat t0_1).getD 6 0), .int .i64 ((x0.f0.f9.set x0.f0.f0.toNat t0_1).getD 7 0)]), (58, .int .i64 xj3_s58)]) M [.blk bx0 (cS85 ({ x0 with f0 := { x0.f0 with f9 := (x0.f0.f9.set x0.f0.f0.toNat t0_1) } }) Ahx0_7 chx0_7 Ahx0_8 chx0_8 Ahx0_10 chx0_10 Ax0_15 cx0_15) 86, .row (.slice Ax0_15 x0.f1.length cx0_15) 47 17 x0.f1.length rcx0_15, .row (.slice Aj3_1_1_1_0_1_0_0_1_0_0_1_1_1_0_1_0_0_1_1_0_0_1_1_0_3 xj3_1_1_1_0_1_0_0_1_0_0_1_1_1_0_1_0_0_1_1_0_0_1_1_0_3.length cj3_1_1_1_0_1_0_0_1_0_0_1_1_1_0_1_0_0_1_1_0_0_1_1_0_3) 3 1 xj3_1_1_1_0_1_0_0_1_0_0_1_1_1_0_1_0_0_1_1_0_0_1_1_0_3.length csj3_1_1_1_0_1_0_0_1_0_0_1_1_1_0_1_0_0_1_1_0_0_1_1_0_3]
abbrev H68_j1 (w0 : World) (M0 : Mem) (r : S85) (Lj1 : Int → Int → (List Int) → S85 → Option S85) : Prop := ∀ {M : Mem} {rcx0_15 : List Value} {bx0 c0_6 chx0_10 chx0_7 chx0_8 cx0_15 : Nat} {A0_5 Ahx0_10 Ahx0_7 Ahx0_8 Ax0_15 : Option Addr} (t0_1 xj1_s4 : Int) (t0_4 : List Int) (x0 : S85) (_ : Lj1 t0_1 xj1_s4 t0_4 x0 = some r) (_ : SlAt (kint .i64) M A0_5 c0_6 t0_4) (_ : SlAt (kint .i64) M Ahx0_7 chx0_7 x0.f0.f5.f0.f2) (_ : SlAt kS80 M Ahx0_8 chx0_8 x0.f0.f5.f1) (_ : SlAt (kint .i64) M Ahx0_10 chx0_10 x0.f0.f7) (_ : x0.f0.f8.length = 8) (_ : (x0.f0.f9.set x0.f0.f0.toNat t0_1).length = 8) (_ : Elems kS46 M rcx0_15 x0.f1), AG Try.prog c68 [1, 1, 1, 0, 1, 0] (D68 w0 M0 r bx0 x0 Ahx0_7 chx0_7 Ahx0_8 chx0_8 Ahx0_10 chx0_10 Ax0_15 cx0_15 rcx0_15) (C68 w0 M0 bx0 x0 Ahx0_7 chx0_7 Ahx0_8 chx0_8 Ahx0_10 chx0_10 Ax0_15 cx0_15 rcx0_15) (env [(0, .pointer (some ⟨bx0, 0, none⟩)), (2, .pointer (some ⟨bx0, 0, none⟩)), (3, .slice A0_5 t0_4.length c0_6), (4, .int .i64 xj1_s4)]) M [.blk bx0 (cS85 ({ x0 with f0 := { x0.f0 with f9 := (x0.f0.f9.set x0.f0.f0.toNat t0_1) } }) Ahx0_7 chx0_7 Ahx0_8 chx0_8 Ahx0_10 chx0_10 Ax0_15 cx0_15) 86, .row (.slice Ax0_15 x0.f1.length cx0_15) 47 17 x0.f1.length rcx0_15]
theorem f68_j6 {w0 : World} {M0 : Mem} {r : S85} : ∀ {M : Mem} {rcx0_15 : List Value} {bx0 chx0_10 chx0_7 chx0_8 cx0_15 : Nat} {Ahx0_10 Ahx0_7 Ahx0_8 Ax0_15 : Option Addr} (xj6_s88 : Bool) (t0_1 xj6_p0_l9 : Int) (x0 : S85) (_ : m68_j6 xj6_s88 t0_1 xj6_p0_l9 x0 = some r) (_ : SlAt (kint .i64) M Ahx0_7 chx0_7 x0.f0.f5.f0.f2) (_ : SlAt kS80 M Ahx0_8 chx0_8 x0.f0.f5.f1) (_ : SlAt (kint .i64) M Ahx0_10 chx0_10 x0.f0.f7) (_ : x0.f0.f8.length = 8) (_ : (x0.f0.f9.set x0.f0.f0.toNat t0_1).length = 8) (_ : Elems kS46 M rcx0_15 x0.f1), AG Try.prog c68 [1, 1, 1, 1, 1] (D68 w0 M0 r bx0 x0 Ahx0_7 chx0_7 Ahx0_8 chx0_8 Ahx0_10 chx0_10 Ax0_15 cx0_15 rcx0_15) (C68 w0 M0 bx0 x0 Ahx0_7 chx0_7 Ahx0_8 chx0_8 Ahx0_10 chx0_10 Ax0_15 cx0_15 rcx0_15) (env [(2, .pointer (some ⟨bx0, 0, none⟩)), (88, .bool xj6_s88)]) M [.blk bx0 (cS85 ({ x0 with f0 := { x0.f0 with f6 := xj6_p0_l9, f9 := (x0.f0.f9.set x0.f0.f0.toNat t0_1) } }) Ahx0_7 chx0_7 Ahx0_8 chx0_8 Ahx0_10 chx0_10 Ax0_15 cx0_15) 86, .row (.slice Ax0_15 x0.f1.length cx0_15) 47 17 x0.f1.length rcx0_15] := by
  intro M rcx0_15 bx0 chx0_10 chx0_7 chx0_8 cx0_15 Ahx0_10 Ahx0_7 Ahx0_8 Ax0_15 xj6_s88 t0_1 xj6_p0_l9 x0 hm hj6_p0_l7 hj6_p0_l8 hj6_p0_l10 lj6_p0_l11 lj6_p0_l12 ej6_p0_15; unfold m68_j6 at hm
  refine gi [1, 1, 1, 1, 1] hm (fun hm => ?_) fun hm => ?_
  · refine rg [1, 1, 1, 1, 1, 0] ?_
    refine seg [.p 4, .s 0, .p 2, .s 0] [] [(0, .blk bx0 (cS85 ({ x0 with f0 := { x0.f0 with f3 := 0, f4 := 0, f6 := xj6_p0_l9, f9 := (x0.f0.f9.set x0.f0.f0.toNat t0_1) } }) Ahx0_7 chx0_7 Ahx0_8 chx0_8 Ahx0_10 chx0_10 Ax0_15 cx0_15) 86)] ?_
    refine finE ?_
    obtain rfl := Option.some.inj hm
    exact re (v := .tuple #[]) [0, 1] ⟨(cS85 ({ x0 with f0 := { x0.f0 with f3 := 0, f4 := 0, f6 := xj6_p0_l9, f9 := (x0.f0.f9.set x0.f0.f0.toNat t0_1) } }) Ahx0_7 chx0_7 Ahx0_8 chx0_8 Ahx0_10 chx0_10 Ax0_15 cx0_15), Ax0_15, cx0_15, rcx0_15, rfl, rfl, (oS85_mk (cs := (cS85 ({ x0 with f0 := { x0.f0 with f3 := 0, f4 := 0, f6 := xj6_p0_l9, f9 := (x0.f0.f9.set x0.f0.f0.toNat t0_1) } }) Ahx0_7 chx0_7 Ahx0_8 chx0_8 Ahx0_10 chx0_10 Ax0_15 cx0_15)) ({ x0 with f0 := { x0.f0 with f3 := 0, f4 := 0, f6 := xj6_p0_l9, f9 := (x0.f0.f9.set x0.f0.f0.toNat t0_1) } }) rfl hj6_p0_l7 hj6_p0_l8 hj6_p0_l10 lj6_p0_l11 lj6_p0_l12), ej6_p0_15⟩
  · refine en ?_
    obtain rfl := Option.some.inj hm
    exact re (v := .tuple #[]) [0, 1] ⟨(cS85 ({ x0 with f0 := { x0.f0 with f6 := xj6_p0_l9, f9 := (x0.f0.f9.set x0.f0.f0.toNat t0_1) } }) Ahx0_7 chx0_7 Ahx0_8 chx0_8 Ahx0_10 chx0_10 Ax0_15 cx0_15), Ax0_15, cx0_15, rcx0_15, rfl, rfl, (oS85_mk (cs := (cS85 ({ x0 with f0 := { x0.f0 with f6 := xj6_p0_l9, f9 := (x0.f0.f9.set x0.f0.f0.toNat t0_1) } }) Ahx0_7 chx0_7 Ahx0_8 chx0_8 Ahx0_10 chx0_10 Ax0_15 cx0_15)) ({ x0 with f0 := { x0.f0 with f6 := xj6_p0_l9, f9 := (x0.f0.f9.set x0.f0.f0.toNat t0_1) } }) rfl hj6_p0_l7 hj6_p0_l8 hj6_p0_l10 lj6_p0_l11 lj6_p0_l12), ej6_p0_15⟩
theorem f68_j5 {w0 : World} {M0 : Mem} {r : S85} : ∀ {M : Mem} {rcx0_15 : List Value} {bx0 c0_6 chx0_10 chx0_7 chx0_8 cx0_15 : Nat} {A0_5 Ahx0_10 Ahx0_7 Ahx0_8 Ax0_15 : Option Addr} (t0_1 xj5_p0_l9 : Int) (t0_4 : List Int) (x0 : S85) (_ : m68_j5 t0_1 xj5_p0_l9 t0_4 x0 = some r) (_ : SlAt (kint .i64) M A0_5 c0_6 t0_4) (_ : SlAt (kint .i64) M Ahx0_7 chx0_7 x0.f0.f5.f0.f2) (_ : SlAt kS80 M Ahx0_8 chx0_8 x0.f0.f5.f1) (_ : SlAt (kint .i64) M Ahx0_10 chx0_10 x0.f0.f7) (_ : x0.f0.f8.length = 8) (_ : (x0.f0.f9.set x0.f0.f0.toNat t0_1).length = 8) (_ : Elems kS46 M rcx0_15 x0.f1), AG Try.prog c68 [1, 1, 1, 1] (D68 w0 M0 r bx0 x0 Ahx0_7 chx0_7 Ahx0_8 chx0_8 Ahx0_10 chx0_10 Ax0_15 cx0_15 rcx0_15) (C68 w0 M0 bx0 x0 Ahx0_7 chx0_7 Ahx0_8 chx0_8 Ahx0_10 chx0_10 Ax0_15 cx0_15 rcx0_15) (env [(0, .pointer (some ⟨bx0, 0, none⟩)), (2, .pointer (some ⟨bx0, 0, none⟩)), (3, .slice A0_5 t0_4.length c0_6)]) M [.blk bx0 (cS85 ({ x0 with f0 := { x0.f0 with f6 := xj5_p0_l9, f9 := (x0.f0.f9.set x0.f0.f0.toNat t0_1) } }) Ahx0_7 chx0_7 Ahx0_8 chx0_8 Ahx0_10 chx0_10 Ax0_15 cx0_15) 86, .row (.slice Ax0_15 x0.f1.length cx0_15) 47 17 x0.f1.length rcx0_15] := by
  intro M rcx0_15 bx0 c0_6 chx0_10 chx0_7 chx0_8 cx0_15 A0_5 Ahx0_10 Ahx0_7 Ahx0_8 Ax0_15 t0_1 xj5_p0_l9 t0_4 x0 hm hj5_s3 hj5_p0_l7 hj5_p0_l8 hj5_p0_l10 lj5_p0_l11 lj5_p0_l12 ej5_p0_15; unfold m68_j5 at hm
  obtain ⟨tj5_1, htj5_1, hm⟩ := bind_some hm
  refine rg [1, 1, 1, 1, 0] ?_
  refine seg [.p 4, .l 0] [(77, .slice A0_5 t0_4.length c0_6), (81, .int .i64 x0.f0.f0)] [] ?_
  refine g_call0 82 (f56_ok _ _ _ htj5_1 hj5_s3) ?_
  rintro _ _ _ ⟨rfl, rfl, rfl⟩ -
  refine seg [.p 2] [(84, .bool (!tj5_1))] [] ?_
  refine gs 84 hm (fun hm => ?_) fun hm => ?_
  · obtain ⟨tj5_2, htj5_2, hm⟩ := bind_some hm
    refine seg [.p 1] [(85, .pointer (some ⟨bx0, 0, none⟩))] [] ?_
    refine g_call 86 [0, 1] (f71_ok (bx0 := bx0) (Ax0_15 := Ax0_15) (cx0_15 := cx0_15) _ _ htj5_2 (oS85_mk (cs := (cS85 ({ x0 with f0 := { x0.f0 with f6 := xj5_p0_l9, f9 := (x0.f0.f9.set x0.f0.f0.toNat t0_1) } }) Ahx0_7 chx0_7 Ahx0_8 chx0_8 Ahx0_10 chx0_10 Ax0_15 cx0_15)) ({ x0 with f0 := { x0.f0 with f6 := xj5_p0_l9, f9 := (x0.f0.f9.set x0.f0.f0.toNat t0_1) } }) rfl hj5_p0_l7 hj5_p0_l8 hj5_p0_l10 lj5_p0_l11 lj5_p0_l12) ej5_p0_15) ?_
    rintro _ _ _ ⟨rfl, rfl, rfl⟩ -
    refine seg [.p 2] [(88, .bool (!tj5_2))] [] ?_
    refine fin ?_
    exact to [0, 1] (@f68_j6 _ _ _ M rcx0_15 bx0 chx0_10 chx0_7 chx0_8 cx0_15 Ahx0_10 Ahx0_7 Ahx0_8 Ax0_15 _ _ _ _ hm hj5_p0_l7 hj5_p0_l8 hj5_p0_l10 lj5_p0_l11 lj5_p0_l12 ej5_p0_15)
  · refine seg [.p 4] [(88, .bool false)] [] ?_
    refine fin ?_
    exact to [0, 1] (@f68_j6 _ _ _ M rcx0_15 bx0 chx0_10 chx0_7 chx0_8 cx0_15 Ahx0_10 Ahx0_7 Ahx0_8 Ax0_15 _ _ _ _ hm hj5_p0_l7 hj5_p0_l8 hj5_p0_l10 lj5_p0_l11 lj5_p0_l12 ej5_p0_15)
theorem f68_j4 {w0 : World} {M0 : Mem} {r : S85} {Lj1 : Int → Int → (List Int) → S85 → Option S85} {Lj3 : Int → Int → Int → (List Int) → (List Int) → S85 → Option S85} (ihj1 : H68_j1 w0 M0 r Lj1) (ihj3 : H68_j3 w0 M0 r Lj3) : ∀ {M : Mem} {csj4_1_1_1_0_1_0_0_1_0_0_1_1_1_0_1_0_0_1_1_0_0_1_1_0_3 rcx0_15 : List Value} {bx0 c0_6 chx0_10 chx0_7 chx0_8 cj4_1_1_1_0_1_0_0_1_0_0_1_1_1_0_1_0_0_1_1_0_0_1_1_0_3 cx0_15 : Nat} {A0_5 Ahx0_10 Ahx0_7 Ahx0_8 Aj4_1_1_1_0_1_0_0_1_0_0_1_1_1_0_1_0_0_1_1_0_0_1_1_0_3 Ax0_15 : Option Addr} (t0_1 xj4_s4 xj4_s58 : Int) (t0_4 xj4_1_1_1_0_1_0_0_1_0_0_1_1_1_0_1_0_0_1_1_0_0_1_1_0_3 : List Int) (x0 : S85) (_ : m68_j4 Lj1 Lj3 t0_1 xj4_s4 xj4_s58 t0_4 xj4_1_1_1_0_1_0_0_1_0_0_1_1_1_0_1_0_0_1_1_0_0_1_1_0_3 x0 = some r) (_ : SlAt (kint .i64) M A0_5 c0_6 t0_4) (_ : (x0.f0.f9.set x0.f0.f0.toNat t0_1).length = 8) (_ : SlAt (kint .i64) M Ahx0_7 chx0_7 x0.f0.f5.f0.f2) (_ : SlAt kS80 M Ahx0_8 chx0_8 x0.f0.f5.f1) (_ : SlAt (kint .i64) M Ahx0_10 chx0_10 x0.f0.f7) (_ : x0.f0.f8.length = 8) (_ : (x0.f0.f9.set x0.f0.f0.toNat t0_1).length = 8) (_ : Elems kS46 M rcx0_15 x0.f1) (_ : Elems (kint .i64) M csj4_1_1_1_0_1_0_0_1_0_0_1_1_1_0_1_0_0_1_1_0_0_1_1_0_3 xj4_1_1_1_0_1_0_0_1_0_0_1_1_1_0_1_0_0_1_1_0_0_1_1_0_3), AG Try.prog c68 [1, 1, 1, 0, 1, 0, 0, 1, 0, 0, 1, 1, 1, 0, 1, 0, 0, 1, 1, 1] (D68 w0 M0 r bx0 x0 Ahx0_7 chx0_7 Ahx0_8 chx0_8 Ahx0_10 chx0_10 Ax0_15 cx0_15 rcx0_15) (C68 w0 M0 bx0 x0 Ahx0_7 chx0_7 Ahx0_8 chx0_8 Ahx0_10 chx0_10 Ax0_15 cx0_15 rcx0_15) (env [(0, .pointer (some ⟨bx0, 0, none⟩)), (2, .pointer (some ⟨bx0, 0, none⟩)), (3, .slice A0_5 t0_4.length c0_6), (4, .int .i64 xj4_s4), (7, (.slice Aj4_1_1_1_0_1_0_0_1_0_0_1_1_1_0_1_0_0_1_1_0_0_1_1_0_3 xj4_1_1_1_0_1_0_0_1_0_0_1_1_1_0_1_0_0_1_1_0_0_1_1_0_3.length cj4_1_1_1_0_1_0_0_1_0_0_1_1_1_0_1_0_0_1_1_0_0_1_1_0_3)), (57, .agg #[.int .i64 ((x0.f0.f9.set x0.f0.f0.toNat t0_1).getD 0 0), .int .i64 ((x0.f0.f9.set x0.f0.f0.toNat t0_1).getD 1 0), .int .i64 ((x0.f0.f9.set x0.f0.f0.toNat t0_1).getD 2 0), .int .i64 ((x0.f0.f9.set x0.f0.f0.toNat t0_1).getD 3 0), .int .i64 ((x0.f0.f9.set x0.f0.f0.toNat t0_1).getD 4 0), .int .i64 ((x0.f0.f9.set x0.f0.f0.toNat t0_1).getD 5 0), .int .i64 ((x0.f0.f9.set x0.f0.f0.toNat t0_1).getD 6 0), .int .i64 ((x0.f0.f9.set x0.f0.f0.toNat t0_1).getD 7 0)]), (58, .int .i64 xj4_s58)]) M [.blk bx0 (cS85 ({ x0 with f0 := { x0.f0 with f9 := (x0.f0.f9.set x0.f0.f0.toNat t0_1) } }) Ahx0_7 chx0_7 Ahx0_8 chx0_8 Ahx0_10 chx0_10 Ax0_15 cx0_15) 86, .row (.slice Ax0_15 x0.f1.length cx0_15) 47 17 x0.f1.length rcx0_15, .row (.slice Aj4_1_1_1_0_1_0_0_1_0_0_1_1_1_0_1_0_0_1_1_0_0_1_1_0_3 xj4_1_1_1_0_1_0_0_1_0_0_1_1_1_0_1_0_0_1_1_0_0_1_1_0_3.length cj4_1_1_1_0_1_0_0_1_0_0_1_1_1_0_1_0_0_1_1_0_0_1_1_0_3) 3 1 xj4_1_1_1_0_1_0_0_1_0_0_1_1_1_0_1_0_0_1_1_0_0_1_1_0_3.length csj4_1_1_1_0_1_0_0_1_0_0_1_1_1_0_1_0_0_1_1_0_0_1_1_0_3] := by
  intro M csj4_1_1_1_0_1_0_0_1_0_0_1_1_1_0_1_0_0_1_1_0_0_1_1_0_3 rcx0_15 bx0 c0_6 chx0_10 chx0_7 chx0_8 cj4_1_1_1_0_1_0_0_1_0_0_1_1_1_0_1_0_0_1_1_0_0_1_1_0_3 cx0_15 A0_5 Ahx0_10 Ahx0_7 Ahx0_8 Aj4_1_1_1_0_1_0_0_1_0_0_1_1_1_0_1_0_0_1_1_0_0_1_1_0_3 Ax0_15 t0_1 xj4_s4 xj4_s58 t0_4 xj4_1_1_1_0_1_0_0_1_0_0_1_1_1_0_1_0_0_1_1_0_0_1_1_0_3 x0 hm hj4_s3 lj4_s57 hj4_p0_l7 hj4_p0_l8 hj4_p0_l10 lj4_p0_l11 lj4_p0_l12 ej4_p0_15 ej4_1_1_1_0_1_0_0_1_0_0_1_1_1_0_1_0_0_1_1_0_0_1_1_0_3; unfold m68_j4 at hm
  refine rs [1, 1, 1, 0, 1, 0, 0, 1, 0, 0, 1, 1, 1, 0, 1, 0, 0, 1, 1, 1] [.p 2] [(58, .int .i64 (IntKind.i64.wrap (xj4_s58 + 1)))] [] ?_
  exact to [0, 1, 2] (@ihj3 M csj4_1_1_1_0_1_0_0_1_0_0_1_1_1_0_1_0_0_1_1_0_0_1_1_0_3 rcx0_15 bx0 c0_6 chx0_10 chx0_7 chx0_8 cj4_1_1_1_0_1_0_0_1_0_0_1_1_1_0_1_0_0_1_1_0_0_1_1_0_3 cx0_15 A0_5 Ahx0_10 Ahx0_7 Ahx0_8 Aj4_1_1_1_0_1_0_0_1_0_0_1_1_1_0_1_0_0_1_1_0_0_1_1_0_3 Ax0_15 _ _ _ _ _ _ hm hj4_s3 lj4_s57 hj4_p0_l7 hj4_p0_l8 hj4_p0_l10 lj4_p0_l11 lj4_p0_l12 ej4_p0_15 ej4_1_1_1_0_1_0_0_1_0_0_1_1_1_0_1_0_0_1_1_0_0_1_1_0_3)
theorem f68_j3 {w0 : World} {M0 : Mem} {r : S85} {Lj1 : Int → Int → (List Int) → S85 → Option S85} (ihj1 : H68_j1 w0 M0 r Lj1) : ∀ k, H68_j3 w0 M0 r (m68_j3 Lj1 k) := by
  intro k; induction k with
  | zero => intro M csj3_1_1_1_0_1_0_0_1_0_0_1_1_1_0_1_0_0_1_1_0_0_1_1_0_3 rcx0_15 bx0 c0_6 chx0_10 chx0_7 chx0_8 cj3_1_1_1_0_1_0_0_1_0_0_1_1_1_0_1_0_0_1_1_0_0_1_1_0_3 cx0_15 A0_5 Ahx0_10 Ahx0_7 Ahx0_8 Aj3_1_1_1_0_1_0_0_1_0_0_1_1_1_0_1_0_0_1_1_0_0_1_1_0_3 Ax0_15 t0_1 xj3_s4 xj3_s58 t0_4 xj3_1_1_1_0_1_0_0_1_0_0_1_1_1_0_1_0_0_1_1_0_0_1_1_0_3 x0 hm; exact absurd hm (by simp [m68_j3])
  | succ k ihj3 =>
    intro M csj3_1_1_1_0_1_0_0_1_0_0_1_1_1_0_1_0_0_1_1_0_0_1_1_0_3 rcx0_15 bx0 c0_6 chx0_10 chx0_7 chx0_8 cj3_1_1_1_0_1_0_0_1_0_0_1_1_1_0_1_0_0_1_1_0_0_1_1_0_3 cx0_15 A0_5 Ahx0_10 Ahx0_7 Ahx0_8 Aj3_1_1_1_0_1_0_0_1_0_0_1_1_1_0_1_0_0_1_1_0_0_1_1_0_3 Ax0_15 t0_1 xj3_s4 xj3_s58 t0_4 xj3_1_1_1_0_1_0_0_1_0_0_1_1_1_0_1_0_0_1_1_0_0_1_1_0_3 x0 hm hj3_s3 lj3_s57 hj3_p0_l7 hj3_p0_l8 hj3_p0_l10 lj3_p0_l11 lj3_p0_l12 ej3_p0_15 ej3_1_1_1_0_1_0_0_1_0_0_1_1_1_0_1_0_0_1_1_0_0_1_1_0_3
    rw [m68_j3.eq_2] at hm
    refine gl [1, 1, 1, 0, 1, 0, 0, 1, 0, 0, 1, 1, 1, 0, 1, 0] plain_done ?_
    refine rs [1, 1, 1, 0, 1, 0, 0, 1, 0, 0, 1, 1, 1, 0, 1, 0, 0, 0] [.p 1] [(59, .bool (decide ((xj3_s58 : Int) < 8)))] [] ?_
    refine gi [1, 1, 1, 0, 1, 0, 0, 1, 0, 0, 1, 1, 1, 0, 1, 0, 0, 1, 0] hm (fun hm => ?_) fun hm => ?_
    · obtain ⟨hbj3_1, hm⟩ := gd2 hm
      refine rg [1, 1, 1, 0, 1, 0, 0, 1, 0, 0, 1, 1, 1, 0, 1, 0, 0, 1, 1, 0, 0, 0] ?_
      refine seg [.p 1] [(60, .int .i64 xj3_s58)] [] ?_
      refine g_ixV 61 8 .i64 lj3_s57 hbj3_1 ?_
      refine seg [.p 2] [(8, .int .i64 xj3_s58), (9, .int .i64 ((x0.f0.f9.set x0.f0.f0.toNat t0_1).getD xj3_s58.toNat 0))] [] ?_
      refine fin ?_
      refine rs [1, 1, 1, 0, 1, 0, 0, 1, 0, 0, 1, 1, 1, 0, 1, 0, 0, 1, 1, 0, 0, 1, 0] [.p 3] [(64, .bool (decide ((((x0.f0.f9.set x0.f0.f0.toNat t0_1).getD xj3_s58.toNat 0) : Int) ≥ xj3_s4)))] [] ?_
      refine gi [1, 1, 1, 0, 1, 0, 0, 1, 0, 0, 1, 1, 1, 0, 1, 0, 0, 1, 1, 0, 0, 1, 1] hm (fun hm => ?_) fun hm => ?_
      · refine rg [1, 1, 1, 0, 1, 0, 0, 1, 0, 0, 1, 1, 1, 0, 1, 0, 0, 1, 1, 0, 0, 1, 1, 0] ?_
        refine seg [.p 2] [(65, (.slice Aj3_1_1_1_0_1_0_0_1_0_0_1_1_1_0_1_0_0_1_1_0_0_1_1_0_3 xj3_1_1_1_0_1_0_0_1_0_0_1_1_1_0_1_0_0_1_1_0_0_1_1_0_3.length cj3_1_1_1_0_1_0_0_1_0_0_1_1_1_0_1_0_0_1_1_0_0_1_1_0_3)), (66, .int .i64 xj3_s58)] [] ?_
        have ej3_2 : Elems (kint .i64) M [.int .i64 xj3_s58] ([xj3_s58] : List Int) := (elCons (d := (kint .i64)) (M := M) (a := [.int .i64 xj3_s58]) (x := xj3_s58) rfl elNil)
        refine g_bs 67 3 1 1 [.int .i64 xj3_s58] fun bj3_3 => ?_
        obtain ⟨hbj3_4, hm⟩ := gd2 hm
        refine g_apR 68 2 3 8 3 Aj3_1_1_1_0_1_0_0_1_0_0_1_1_1_0_1_0_0_1_1_0_0_1_1_0_3 cj3_1_1_1_0_1_0_0_1_0_0_1_1_1_0_1_0_0_1_1_0_0_1_1_0_3 (some ⟨bj3_3, 0, none⟩) 1 ej3_1_1_1_0_1_0_0_1_0_0_1_1_1_0_1_0_0_1_1_0_0_1_1_0_3 ej3_2 hbj3_4 fun Aj3_5 cj3_6 csj3_7 ej3_4 => ?_
        refine seg [.p 1] [(7, (.slice Aj3_5 ((xj3_1_1_1_0_1_0_0_1_0_0_1_1_1_0_1_0_0_1_1_0_0_1_1_0_3 ++ ([xj3_s58] : List Int)).length) cj3_6))] [] ?_
        refine fin ?_
        exact to [0, 1, 2] (@f68_j4 _ _ _ _ _ ihj1 ihj3 M csj3_7 rcx0_15 bx0 c0_6 chx0_10 chx0_7 chx0_8 cj3_6 cx0_15 A0_5 Ahx0_10 Ahx0_7 Ahx0_8 Aj3_5 Ax0_15 _ _ _ _ _ _ hm hj3_s3 lj3_s57 hj3_p0_l7 hj3_p0_l8 hj3_p0_l10 lj3_p0_l11 lj3_p0_l12 ej3_p0_15 ej3_4)
      · exact to [0, 1, 2] (@f68_j4 _ _ _ _ _ ihj1 ihj3 M csj3_1_1_1_0_1_0_0_1_0_0_1_1_1_0_1_0_0_1_1_0_0_1_1_0_3 rcx0_15 bx0 c0_6 chx0_10 chx0_7 chx0_8 cj3_1_1_1_0_1_0_0_1_0_0_1_1_1_0_1_0_0_1_1_0_0_1_1_0_3 cx0_15 A0_5 Ahx0_10 Ahx0_7 Ahx0_8 Aj3_1_1_1_0_1_0_0_1_0_0_1_1_1_0_1_0_0_1_1_0_0_1_1_0_3 Ax0_15 _ _ _ _ _ _ hm hj3_s3 lj3_s57 hj3_p0_l7 hj3_p0_l8 hj3_p0_l10 lj3_p0_l11 lj3_p0_l12 ej3_p0_15 ej3_1_1_1_0_1_0_0_1_0_0_1_1_1_0_1_0_0_1_1_0_0_1_1_0_3)
    · obtain ⟨tj3_9, htj3_9, hm⟩ := bind_some hm
      refine rg [1, 1, 1, 0, 1, 0, 0, 1, 0, 0, 1, 1, 1, 1, 0] ?_
      refine seg [.p 2] [(70, .slice A0_5 t0_4.length c0_6), (71, (.slice Aj3_1_1_1_0_1_0_0_1_0_0_1_1_1_0_1_0_0_1_1_0_0_1_1_0_3 xj3_1_1_1_0_1_0_0_1_0_0_1_1_1_0_1_0_0_1_1_0_0_1_1_0_3.length cj3_1_1_1_0_1_0_0_1_0_0_1_1_1_0_1_0_0_1_1_0_0_1_1_0_3))] [] ?_
      refine fzI 2 3 Aj3_1_1_1_0_1_0_0_1_0_0_1_1_1_0_1_0_0_1_1_0_0_1_1_0_3 cj3_1_1_1_0_1_0_0_1_0_0_1_1_1_0_1_0_0_1_1_0_0_1_1_0_3 ej3_1_1_1_0_1_0_0_1_0_0_1_1_1_0_1_0_0_1_1_0_0_1_1_0_3 fun Mhj3_8 lhj3_8 hj3_8 => ?_
      replace hj3_s3 := (hj3_s3.mono lhj3_8)
      refine g_call0 72 (f62_ok _ _ _ htj3_9 hj3_s3 hj3_8) ?_
      rintro _ _ _ ⟨rfl, rfl, rfl⟩ -
      refine fin ?_
      refine gi [1, 1, 1, 0, 1, 0, 0, 1, 0, 0, 1, 1, 1, 1, 1] hm (fun hm => ?_) fun hm => ?_
      · refine rs [1, 1, 1, 0, 1, 0, 0, 1, 0, 0, 1, 1, 1, 1, 1, 0, 0] [.p 4, .s 0] [] [(0, .blk bx0 (cS85 ({ x0 with f0 := { x0.f0 with f6 := xj3_s4, f9 := (x0.f0.f9.set x0.f0.f0.toNat t0_1) } }) Ahx0_7 chx0_7 Ahx0_8 chx0_8 Ahx0_10 chx0_10 Ax0_15 cx0_15) 86)] ?_
        replace hj3_p0_l7 := (hj3_p0_l7.mono lhj3_8)
        replace hj3_p0_l8 := (hj3_p0_l8.mono lhj3_8)
        replace hj3_p0_l10 := (hj3_p0_l10.mono lhj3_8)
        replace ej3_p0_15 := (ej3_p0_15.mono lhj3_8)
        exact to [0, 1] (@f68_j5 _ _ _ Mhj3_8 rcx0_15 bx0 c0_6 chx0_10 chx0_7 chx0_8 cx0_15 A0_5 Ahx0_10 Ahx0_7 Ahx0_8 Ax0_15 _ _ _ _ hm hj3_s3 hj3_p0_l7 hj3_p0_l8 hj3_p0_l10 lj3_p0_l11 lj3_p0_l12 ej3_p0_15)
      · refine rs [1, 1, 1, 0, 1, 0, 0, 1, 1] [.p 3] [(4, .int .i64 (IntKind.i64.wrap (xj3_s4 - 1)))] [] ?_
        replace hj3_p0_l7 := (hj3_p0_l7.mono lhj3_8)
        replace hj3_p0_l8 := (hj3_p0_l8.mono lhj3_8)
        replace hj3_p0_l10 := (hj3_p0_l10.mono lhj3_8)
        replace ej3_p0_15 := (ej3_p0_15.mono lhj3_8)
        exact to [0, 1] (@ihj1 Mhj3_8 rcx0_15 bx0 c0_6 chx0_10 chx0_7 chx0_8 cx0_15 A0_5 Ahx0_10 Ahx0_7 Ahx0_8 Ax0_15 _ _ _ _ hm hj3_s3 hj3_p0_l7 hj3_p0_l8 hj3_p0_l10 lj3_p0_l11 lj3_p0_l12 ej3_p0_15)
theorem f68_j2 {w0 : World} {M0 : Mem} {r : S85} {Lj1 : Int → Int → (List Int) → S85 → Option S85} (ihj1 : H68_j1 w0 M0 r Lj1) : ∀ {M : Mem} {rcx0_15 : List Value} {bx0 c0_6 chx0_10 chx0_7 chx0_8 cx0_15 : Nat} {A0_5 Ahx0_10 Ahx0_7 Ahx0_8 Ax0_15 : Option Addr} (xj2_s53 : Bool) (t0_1 xj2_s4 : Int) (t0_4 : List Int) (x0 : S85) (_ : m68_j2 Lj1 xj2_s53 t0_1 xj2_s4 t0_4 x0 = some r) (_ : SlAt (kint .i64) M A0_5 c0_6 t0_4) (_ : SlAt (kint .i64) M Ahx0_7 chx0_7 x0.f0.f5.f0.f2) (_ : SlAt kS80 M Ahx0_8 chx0_8 x0.f0.f5.f1) (_ : SlAt (kint .i64) M Ahx0_10 chx0_10 x0.f0.f7) (_ : x0.f0.f8.length = 8) (_ : (x0.f0.f9.set x0.f0.f0.toNat t0_1).length = 8) (_ : Elems kS46 M rcx0_15 x0.f1), AG Try.prog c68 [1, 1, 1, 0, 1, 0, 0, 1, 0, 0, 1, 0, 1] (D68 w0 M0 r bx0 x0 Ahx0_7 chx0_7 Ahx0_8 chx0_8 Ahx0_10 chx0_10 Ax0_15 cx0_15 rcx0_15) (C68 w0 M0 bx0 x0 Ahx0_7 chx0_7 Ahx0_8 chx0_8 Ahx0_10 chx0_10 Ax0_15 cx0_15 rcx0_15) (env [(0, .pointer (some ⟨bx0, 0, none⟩)), (2, .pointer (some ⟨bx0, 0, none⟩)), (3, .slice A0_5 t0_4.length c0_6), (4, .int .i64 xj2_s4), (53, .bool xj2_s53)]) M [.blk bx0 (cS85 ({ x0 with f0 := { x0.f0 with f9 := (x0.f0.f9.set x0.f0.f0.toNat t0_1) } }) Ahx0_7 chx0_7 Ahx0_8 chx0_8 Ahx0_10 chx0_10 Ax0_15 cx0_15) 86, .row (.slice Ax0_15 x0.f1.length cx0_15) 47 17 x0.f1.length rcx0_15] := by
  intro M rcx0_15 bx0 c0_6 chx0_10 chx0_7 chx0_8 cx0_15 A0_5 Ahx0_10 Ahx0_7 Ahx0_8 Ax0_15 xj2_s53 t0_1 xj2_s4 t0_4 x0 hm hj2_s3 hj2_p0_l7 hj2_p0_l8 hj2_p0_l10 lj2_p0_l11 lj2_p0_l12 ej2_p0_15; unfold m68_j2 at hm
  refine gi [1, 1, 1, 0, 1, 0, 0, 1, 0, 0, 1, 0, 1] hm (fun hm => ?_) fun hm => ?_
  · exact to [0, 1] (@f68_j5 _ _ _ M rcx0_15 bx0 c0_6 chx0_10 chx0_7 chx0_8 cx0_15 A0_5 Ahx0_10 Ahx0_7 Ahx0_8 Ax0_15 _ _ _ _ hm hj2_s3 hj2_p0_l7 hj2_p0_l8 hj2_p0_l10 lj2_p0_l11 lj2_p0_l12 ej2_p0_15)
  · refine rs [1, 1, 1, 0, 1, 0, 0, 1, 0, 0, 1, 1, 0] [.p 1] [(7, .slice none 0 0)] [] ?_
    refine rs [1, 1, 1, 0, 1, 0, 0, 1, 0, 0, 1, 1, 1, 0, 0] [.p 3, .l 0, .p 1] [(57, .agg #[.int .i64 ((x0.f0.f9.set x0.f0.f0.toNat t0_1).getD 0 0), .int .i64 ((x0.f0.f9.set x0.f0.f0.toNat t0_1).getD 1 0), .int .i64 ((x0.f0.f9.set x0.f0.f0.toNat t0_1).getD 2 0), .int .i64 ((x0.f0.f9.set x0.f0.f0.toNat t0_1).getD 3 0), .int .i64 ((x0.f0.f9.set x0.f0.f0.toNat t0_1).getD 4 0), .int .i64 ((x0.f0.f9.set x0.f0.f0.toNat t0_1).getD 5 0), .int .i64 ((x0.f0.f9.set x0.f0.f0.toNat t0_1).getD 6 0), .int .i64 ((x0.f0.f9.set x0.f0.f0.toNat t0_1).getD 7 0)]), (58, .int .i64 0)] [] ?_
    refine nlA 3 1 ?_
    exact to [0, 1, 2] (@f68_j3 _ _ _ _ ihj1 FUEL M [] rcx0_15 bx0 c0_6 chx0_10 chx0_7 chx0_8 0 cx0_15 A0_5 Ahx0_10 Ahx0_7 Ahx0_8 none Ax0_15 _ _ _ _ _ _ hm hj2_s3 lj2_p0_l12 hj2_p0_l7 hj2_p0_l8 hj2_p0_l10 lj2_p0_l11 lj2_p0_l12 ej2_p0_15 (elNil (d := (kint .i64)) (M := M)))
theorem f68_j1 {w0 : World} {M0 : Mem} {r : S85} : ∀ k, H68_j1 w0 M0 r (m68_j1 k) := by
  intro k; induction k with
  | zero => intro M rcx0_15 bx0 c0_6 chx0_10 chx0_7 chx0_8 cx0_15 A0_5 Ahx0_10 Ahx0_7 Ahx0_8 Ax0_15 t0_1 xj1_s4 t0_4 x0 hm; exact absurd hm (by simp [m68_j1])
  | succ k ihj1 =>
    intro M rcx0_15 bx0 c0_6 chx0_10 chx0_7 chx0_8 cx0_15 A0_5 Ahx0_10 Ahx0_7 Ahx0_8 Ax0_15 t0_1 xj1_s4 t0_4 x0 hm hj1_s3 hj1_p0_l7 hj1_p0_l8 hj1_p0_l10 lj1_p0_l11 lj1_p0_l12 ej1_p0_15
    rw [m68_j1.eq_2] at hm
    refine gl [1, 1, 1, 0, 1, 0] plain_done ?_
    refine rs [1, 1, 1, 0, 1, 0, 0, 0, 0] [.p 4, .l 0, .p 1] [(32, .bool (decide ((xj1_s4 : Int) > x0.f0.f6)))] [] ?_
    refine gi [1, 1, 1, 0, 1, 0, 0, 0, 1] hm (fun hm => ?_) fun hm => ?_
    · obtain ⟨tj1_1, htj1_1, hm⟩ := bind_some hm
      refine rg [1, 1, 1, 0, 1, 0, 0, 1, 0, 0, 0] ?_
      refine seg [.p 3, .l 0, .p 1] [(39, .agg (cS26 x0.f0.f5 Ahx0_7 chx0_7 Ahx0_8 chx0_8).toArray), (40, .int .i64 xj1_s4)] [] ?_
      refine g_call0 41 (f69_ok _ _ _ htj1_1 (kS26_mk (cs := (cS26 x0.f0.f5 Ahx0_7 chx0_7 Ahx0_8 chx0_8)) x0.f0.f5 rfl hj1_p0_l7 hj1_p0_l8)) ?_
      rintro _ _ _ ⟨rfl, rfl, rfl⟩ -
      refine seg [.p 5] [(5, .int .i64 tj1_1.1), (6, errV 39 tj1_1.2)] [] ?_
      refine fin ?_
      refine rg [1, 1, 1, 0, 1, 0, 0, 1, 0, 0, 1, 0, 0] ?_
      refine seg [.p 1, .e 39 tj1_1.2, .p 1] [(46, .bool ((tj1_1.2 : Int) != 0))] [] ?_
      refine gs 46 hm (fun hm => ?_) fun hm => ?_
      · refine seg [.p 7] [(53, .bool true)] [] ?_
        refine fin ?_
        exact to [0, 1] (@f68_j2 _ _ _ _ ihj1 M rcx0_15 bx0 c0_6 chx0_10 chx0_7 chx0_8 cx0_15 A0_5 Ahx0_10 Ahx0_7 Ahx0_8 Ax0_15 _ _ _ _ _ hm hj1_s3 hj1_p0_l7 hj1_p0_l8 hj1_p0_l10 lj1_p0_l11 lj1_p0_l12 ej1_p0_15)
      · refine seg [.p 4, .l 0, .p 2] [(53, .bool ((tj1_1.1 : Int) != x0.f0.f1))] [] ?_
        refine fin ?_
        exact to [0, 1] (@f68_j2 _ _ _ _ ihj1 M rcx0_15 bx0 c0_6 chx0_10 chx0_7 chx0_8 cx0_15 A0_5 Ahx0_10 Ahx0_7 Ahx0_8 Ax0_15 _ _ _ _ _ hm hj1_s3 hj1_p0_l7 hj1_p0_l8 hj1_p0_l10 lj1_p0_l11 lj1_p0_l12 ej1_p0_15)
    · exact to [0, 1] (@f68_j5 _ _ _ M rcx0_15 bx0 c0_6 chx0_10 chx0_7 chx0_8 cx0_15 A0_5 Ahx0_10 Ahx0_7 Ahx0_8 Ax0_15 _ _ _ _ hm hj1_s3 hj1_p0_l7 hj1_p0_l8 hj1_p0_l10 lj1_p0_l11 lj1_p0_l12 ej1_p0_15)
theorem f68_ok {M : Mem} {bx0 : Nat} {csx0 : List Value} {Ax0_15 : Option Addr} {cx0_15 : Nat} {rcx0_15 : List Value} (x0 : S85) (r : S85) (hm : m68 x0 = some r) (hx0 : (oS85 Ax0_15 cx0_15).rep M csx0 x0) (ex0_15 : Elems kS46 M rcx0_15 x0.f1) : FnOk Try.prog 68 [.pointer (some ⟨bx0, 0, none⟩)] M [.blk bx0 csx0 86, .row (.slice Ax0_15 x0.f1.length cx0_15) 47 17 x0.f1.length rcx0_15] (R68 M bx0 csx0 Ax0_15 x0 cx0_15 rcx0_15 r) := by
  obtain ⟨Ahx0_7, chx0_7, Ahx0_8, chx0_8, Ahx0_10, chx0_10, rfl, hx0_7, hx0_8, hx0_10, hx0_11, hx0_12⟩ := oS85_open hx0
  refine intro_ (c := c68) 95 Try.func68 fun w => ?_
  unfold m68 at hm
  refine rs [0] [.p 4] [(2, .pointer (some ⟨bx0, 0, none⟩))] [] ?_
  obtain ⟨t0_1, ht0_1, hm⟩ := bind_some hm
  refine rgD [1, 0] (PT.of [0, 4, 8, 12, 17, 20, 28, 32, 27, 36, 43] .dn) [(4, 0)] [0] mixed plain_done ?_
  refine seg [.p 4, .l 0, .p 3] [(17, .int .i64 x0.f0.f0), (18, .pointer (some ⟨bx0, 0, none⟩)), (21, .pointer (some ⟨bx0, 19, none⟩))] [] ?_
  refine g_callK 19 [0, 1] (f36_ok (bx0 := bx0) (Ax0_15 := Ax0_15) (cx0_15 := cx0_15) _ _ ht0_1 (oS85_mk (cs := (cS85 x0 Ahx0_7 chx0_7 Ahx0_8 chx0_8 Ahx0_10 chx0_10 Ax0_15 cx0_15)) x0 rfl hx0_7 hx0_8 hx0_10 hx0_11 hx0_12) ex0_15) (by rintro _ _ _ ⟨rfl, rfl, rfl⟩; rfl) ?_
  rintro _ _ _ ⟨rfl, rfl, rfl⟩ -
  obtain ⟨hb0_2, hm⟩ := gd2 hm
  refine g_ixA 22 bx0 19 8 1 hb0_2 ?_
  have n0_3 : (x0.f0.f9.set x0.f0.f0.toNat t0_1).length = 8 := len_set hx0_12
  refine g_sA 0 19 8 .i64 t0_1 (.blk bx0 (cS85 ({ x0 with f0 := { x0.f0 with f9 := (x0.f0.f9.set x0.f0.f0.toNat t0_1) } }) Ahx0_7 chx0_7 Ahx0_8 chx0_8 Ahx0_10 chx0_10 Ax0_15 cx0_15) 86) hx0_12 hb0_2 ?_
  refine fin ?_
  obtain ⟨t0_4, ht0_4, hm⟩ := bind_some hm
  refine rg [1, 1, 0] ?_
  refine seg [.p 1] [(23, .pointer (some ⟨bx0, 0, none⟩))] [] ?_
  refine g_call 24 [0, 1] (f57_ok (bx0 := bx0) (Ax0_15 := Ax0_15) (cx0_15 := cx0_15) _ _ ht0_4 (oS85_mk (cs := (cS85 ({ x0 with f0 := { x0.f0 with f9 := (x0.f0.f9.set x0.f0.f0.toNat t0_1) } }) Ahx0_7 chx0_7 Ahx0_8 chx0_8 Ahx0_10 chx0_10 Ax0_15 cx0_15)) ({ x0 with f0 := { x0.f0 with f9 := (x0.f0.f9.set x0.f0.f0.toNat t0_1) } }) rfl hx0_7 hx0_8 hx0_10 hx0_11 n0_3) ex0_15) ?_
  rintro _ M0_7 _ ⟨A0_5, c0_6, rfl, rfl, h0_7⟩ hM0_7
  refine seg [.p 1] [(3, .slice A0_5 t0_4.length c0_6)] [] ?_
  refine fin ?_
  obtain ⟨t0_8, ht0_8, hm⟩ := bind_some hm
  refine rg [1, 1, 1, 0, 0] ?_
  refine seg [.p 1] [(25, .pointer (some ⟨bx0, 0, none⟩))] [] ?_
  replace hx0_7 := (hx0_7.mono hM0_7)
  replace hx0_8 := (hx0_8.mono hM0_7)
  replace hx0_10 := (hx0_10.mono hM0_7)
  replace ex0_15 := (ex0_15.mono hM0_7)
  refine g_call 26 [0, 1] (f36_ok (bx0 := bx0) (Ax0_15 := Ax0_15) (cx0_15 := cx0_15) _ _ ht0_8 (oS85_mk (cs := (cS85 ({ x0 with f0 := { x0.f0 with f9 := (x0.f0.f9.set x0.f0.f0.toNat t0_1) } }) Ahx0_7 chx0_7 Ahx0_8 chx0_8 Ahx0_10 chx0_10 Ax0_15 cx0_15)) ({ x0 with f0 := { x0.f0 with f9 := (x0.f0.f9.set x0.f0.f0.toNat t0_1) } }) rfl hx0_7 hx0_8 hx0_10 hx0_11 n0_3) ex0_15) ?_
  rintro _ _ _ ⟨rfl, rfl, rfl⟩ -
  refine seg [.p 1] [(4, .int .i64 t0_8)] [] ?_
  refine fin ?_
  exact to [0, 1] (@f68_j1 _ _ _ FUEL M0_7 rcx0_15 bx0 c0_6 chx0_10 chx0_7 chx0_8 cx0_15 A0_5 Ahx0_10 Ahx0_7 Ahx0_8 Ax0_15 _ _ _ _ hm h0_7 hx0_7 hx0_8 hx0_10 hx0_11 n0_3 ex0_15)

/-! ## (heartwood/raft.stepper).leads -/
/-- (heartwood/raft.stepper).leads: what is left behind a call. -/
abbrev R63 (M : Mem) (bx0 : Nat) (csx0 : List Value) (Ax0_15 : Option Addr) (x0 : S85) (cx0_15 : Nat) (rcx0_15 : List Value) (r : S85) : Value → Mem → List Res → Prop := fun v M' H' => ∃ (q0 : List Value) (w0_15 : Option Addr) (y0_15 : Nat) (z0_15 : List Value), .tuple #[] = v ∧ H' = [.blk bx0 q0 86, .row (.slice w0_15 r.f1.length y0_15) 47 17 r.f1.length z0_15] ∧ (oS85 w0_15 y0_15).rep M' q0 r ∧ Elems kS46 M' z0_15 r.f1
noncomputable def c63 : Code := match Try.f63.body with | some c => c | none => .skip
abbrev C63 (w0 : World) (M0 : Mem) (bx0 : Nat) (x0 : S85) (Ahx0_7 : Option Addr) (chx0_7 : Nat) (Ahx0_8 : Option Addr) (chx0_8 : Nat) (Ahx0_10 : Option Addr) (chx0_10 : Nat) (Ax0_15 : Option Addr) (cx0_15 : Nat) (rcx0_15 : List Value) : Ctx := ⟨49, w0, M0, [.blk bx0 (cS85 x0 Ahx0_7 chx0_7 Ahx0_8 chx0_8 Ahx0_10 chx0_10 Ax0_15 cx0_15) 86, .row (.slice Ax0_15 x0.f1.length cx0_15) 47 17 x0.f1.length rcx0_15]⟩
abbrev D63 (w0 : World) (M0 : Mem) (r : S85) (bx0 : Nat) (x0 : S85) (Ahx0_7 : Option Addr) (chx0_7 : Nat) (Ahx0_8 : Option Addr) (chx0_8 : Nat) (Ahx0_10 : Option Addr) (chx0_10 : Nat) (Ax0_15 : Option Addr) (cx0_15 : Nat) (rcx0_15 : List Value) : Post := Done Try.prog Try.f63 (C63 w0 M0 bx0 x0 Ahx0_7 chx0_7 Ahx0_8 chx0_8 Ahx0_10 chx0_10 Ax0_15 cx0_15 rcx0_15) (R63 M0 bx0 (cS85 x0 Ahx0_7 chx0_7 Ahx0_8 chx0_8 Ahx0_10 chx0_10 Ax0_15 cx0_15) Ax0_15 x0 cx0_15 rcx0_15 r)
abbrev H63_j1 (w0 : World) (M0 : Mem) (r : S85) (Lj1 : Int → (List Int) → (List Int) → S85 → Option S85) : Prop := ∀ {M : Mem} {rcx0_15 : List Value} {bx0 chx0_10 chx0_7 chx0_8 cx0_15 : Nat} {Ahx0_10 Ahx0_7 Ahx0_8 Ax0_15 : Option Addr} (xj1_s23 : Int) (xj1_p0_l11 xj1_p0_l12 : List Int) (x0 : S85) (_ : Lj1 xj1_s23 xj1_p0_l11 xj1_p0_l12 x0 = some r) (_ : SlAt (kint .i64) M Ahx0_7 chx0_7 x0.f0.f5.f0.f2) (_ : SlAt kS80 M Ahx0_8 chx0_8 x0.f0.f5.f1) (_ : xj1_p0_l11.length = 8) (_ : xj1_p0_l12.length = 8) (_ : Elems kS46 M rcx0_15 x0.f1), AG Try.prog c63 [1, 1, 0, 1, 0] (D63 w0 M0 r bx0 x0 Ahx0_7 chx0_7 Ahx0_8 chx0_8 Ahx0_10 chx0_10 Ax0_15 cx0_15 rcx0_15) (C63 w0 M0 bx0 x0 Ahx0_7 chx0_7 Ahx0_8 chx0_8 Ahx0_10 chx0_10 Ax0_15 cx0_15 rcx0_15) (env [(0, .pointer (some ⟨bx0, 0, none⟩)), (2, .pointer (some ⟨bx0, 0, none⟩)), (23, .int .i64 xj1_s23)]) M [.blk bx0 (cS85 ({ x0 with f0 := { x0.f0 with f3 := 2, f4 := x0.f0.f0, f7 := [], f8 := xj1_p0_l11, f9 := xj1_p0_l12, f10 := 0 } }) Ahx0_7 chx0_7 Ahx0_8 chx0_8 none 0 Ax0_15 cx0_15) 86, .row (.slice Ax0_15 x0.f1.length cx0_15) 47 17 x0.f1.length rcx0_15]
theorem f63_j1 {w0 : World} {M0 : Mem} {r : S85} : ∀ k, H63_j1 w0 M0 r (m63_j1 k) := by
  intro k; induction k with
  | zero => intro M rcx0_15 bx0 chx0_10 chx0_7 chx0_8 cx0_15 Ahx0_10 Ahx0_7 Ahx0_8 Ax0_15 xj1_s23 xj1_p0_l11 xj1_p0_l12 x0 hm; exact absurd hm (by simp [m63_j1])
  | succ k ihj1 =>
    intro M rcx0_15 bx0 chx0_10 chx0_7 chx0_8 cx0_15 Ahx0_10 Ahx0_7 Ahx0_8 Ax0_15 xj1_s23 xj1_p0_l11 xj1_p0_l12 x0 hm hj1_p0_l7 hj1_p0_l8 lj1_p0_l11 lj1_p0_l12 ej1_p0_15
    rw [m63_j1.eq_2] at hm
    refine gl [1, 1, 0, 1, 0] plain_done ?_
    refine rs [1, 1, 0, 1, 0, 0, 0] [.p 1] [(24, .bool (decide ((xj1_s23 : Int) < 8)))] [] ?_
    refine gi [1, 1, 0, 1, 0, 0, 1, 0] hm (fun hm => ?_) fun hm => ?_
    · refine rs [1, 1, 0, 1, 0, 0, 1, 1, 0, 0, 0] [.p 2] [(3, .int .i64 xj1_s23)] [] ?_
      obtain ⟨tj1_1, htj1_1, hm⟩ := bind_some hm
      refine rgD [1, 1, 0, 1, 0, 0, 1, 1, 0, 0, 1] (PT.of [0, 4, 8, 12, 16, 32, 36, 48, 52, 23, 24, 28, 40, 47, 56, 63] .dn) [] [] mixed plain_done ?_
      refine seg [.p 9] [(27, .int .i64 xj1_s23), (29, .int .i64 xj1_s23), (30, .pointer (some ⟨bx0, 0, none⟩)), (35, .pointer (some ⟨bx0, 11, none⟩)), (38, .pointer (some ⟨bx0, 19, none⟩))] [] ?_
      refine g_callK 31 [0, 1] (f36_ok (bx0 := bx0) (Ax0_15 := Ax0_15) (cx0_15 := cx0_15) _ _ htj1_1 (oS85_mk (cs := (cS85 ({ x0 with f0 := { x0.f0 with f3 := 2, f4 := x0.f0.f0, f7 := [], f8 := xj1_p0_l11, f9 := xj1_p0_l12, f10 := 0 } }) Ahx0_7 chx0_7 Ahx0_8 chx0_8 none 0 Ax0_15 cx0_15)) ({ x0 with f0 := { x0.f0 with f3 := 2, f4 := x0.f0.f0, f7 := [], f8 := xj1_p0_l11, f9 := xj1_p0_l12, f10 := 0 } }) rfl hj1_p0_l7 hj1_p0_l8 slNil lj1_p0_l11 lj1_p0_l12) ej1_p0_15) (by rintro _ _ _ ⟨rfl, rfl, rfl⟩; rfl) ?_
      rintro _ _ _ ⟨rfl, rfl, rfl⟩ -
      obtain ⟨hbj1_2, hm⟩ := gd2 hm
      refine seg [.p 2] [(33, .int .i64 (if 1152921504606846976 < IntKind.i64.wrap (tj1_1 + 1) then 1152921504606846976 else IntKind.i64.wrap (tj1_1 + 1)))] [] ?_
      refine g_ixA 36 bx0 11 8 1 hbj1_2 ?_
      have nj1_3 : (xj1_p0_l11.set xj1_s23.toNat (if 1152921504606846976 < IntKind.i64.wrap (tj1_1 + 1) then 1152921504606846976 else IntKind.i64.wrap (tj1_1 + 1))).length = 8 := len_set lj1_p0_l11
      refine g_sA 0 11 8 .i64 (if 1152921504606846976 < IntKind.i64.wrap (tj1_1 + 1) then 1152921504606846976 else IntKind.i64.wrap (tj1_1 + 1)) (.blk bx0 (cS85 ({ x0 with f0 := { x0.f0 with f3 := 2, f4 := x0.f0.f0, f7 := [], f8 := (xj1_p0_l11.set xj1_s23.toNat (if 1152921504606846976 < IntKind.i64.wrap (tj1_1 + 1) then 1152921504606846976 else IntKind.i64.wrap (tj1_1 + 1))), f9 := xj1_p0_l12, f10 := 0 } }) Ahx0_7 chx0_7 Ahx0_8 chx0_8 none 0 Ax0_15 cx0_15) 86) lj1_p0_l11 hbj1_2 ?_
      obtain ⟨hbj1_4, hm⟩ := gd2 hm
      refine g_ixA 39 bx0 19 8 1 hbj1_4 ?_
      have nj1_5 : (xj1_p0_l12.set xj1_s23.toNat 0).length = 8 := len_set lj1_p0_l12
      refine g_sA 0 19 8 .i64 0 (.blk bx0 (cS85 ({ x0 with f0 := { x0.f0 with f3 := 2, f4 := x0.f0.f0, f7 := [], f8 := (xj1_p0_l11.set xj1_s23.toNat (if 1152921504606846976 < IntKind.i64.wrap (tj1_1 + 1) then 1152921504606846976 else IntKind.i64.wrap (tj1_1 + 1))), f9 := (xj1_p0_l12.set xj1_s23.toNat 0), f10 := 0 } }) Ahx0_7 chx0_7 Ahx0_8 chx0_8 none 0 Ax0_15 cx0_15) 86) lj1_p0_l12 hbj1_4 ?_
      refine fin ?_
      refine rs [1, 1, 0, 1, 0, 0, 1, 1, 1] [.p 2] [(23, .int .i64 (IntKind.i64.wrap (xj1_s23 + 1)))] [] ?_
      exact to [0, 1] (@ihj1 M rcx0_15 bx0 chx0_10 chx0_7 chx0_8 cx0_15 Ahx0_10 Ahx0_7 Ahx0_8 Ax0_15 _ _ _ _ hm hj1_p0_l7 hj1_p0_l8 nj1_3 nj1_5 ej1_p0_15)
    · obtain ⟨tj1_6, htj1_6, hm⟩ := bind_some hm
      refine rg [1, 1, 1, 0] ?_
      refine seg [.p 1] [(41, .pointer (some ⟨bx0, 0, none⟩))] [] ?_
      refine g_call 42 [0, 1] (f67_ok (bx0 := bx0) (Ax0_15 := Ax0_15) (cx0_15 := cx0_15) _ _ _ _ htj1_6 (oS85_mk (cs := (cS85 ({ x0 with f0 := { x0.f0 with f3 := 2, f4 := x0.f0.f0, f7 := [], f8 := xj1_p0_l11, f9 := xj1_p0_l12, f10 := 0 } }) Ahx0_7 chx0_7 Ahx0_8 chx0_8 none 0 Ax0_15 cx0_15)) ({ x0 with f0 := { x0.f0 with f3 := 2, f4 := x0.f0.f0, f7 := [], f8 := xj1_p0_l11, f9 := xj1_p0_l12, f10 := 0 } }) rfl hj1_p0_l7 hj1_p0_l8 slNil lj1_p0_l11 lj1_p0_l12) ej1_p0_15 slNil) ?_
      rintro _ Mj1_12 _ ⟨csj1_7, Aj1_9, cj1_10, rcj1_11, rfl, rfl, hj1_8, hj1_12⟩ hMj1_12
      obtain ⟨Ahj1_8_7, chj1_8_7, Ahj1_8_8, chj1_8_8, Ahj1_8_10, chj1_8_10, rfl, hj1_8_7, hj1_8_8, hj1_8_10, hj1_8_11, hj1_8_12⟩ := oS85_open hj1_8
      refine fin ?_
      obtain ⟨tj1_13, htj1_13, hm⟩ := bind_some hm
      refine rg [1, 1, 1, 1, 0] ?_
      refine seg [.p 1] [(43, .pointer (some ⟨bx0, 0, none⟩))] [] ?_
      refine g_call 44 [0, 1] (f68_ok (bx0 := bx0) (Ax0_15 := Aj1_9) (cx0_15 := cj1_10) _ _ htj1_13 (oS85_mk (cs := (cS85 tj1_6 Ahj1_8_7 chj1_8_7 Ahj1_8_8 chj1_8_8 Ahj1_8_10 chj1_8_10 Aj1_9 cj1_10)) tj1_6 rfl hj1_8_7 hj1_8_8 hj1_8_10 hj1_8_11 hj1_8_12) hj1_12) ?_
      rintro _ Mj1_19 _ ⟨csj1_14, Aj1_16, cj1_17, rcj1_18, rfl, rfl, hj1_15, hj1_19⟩ hMj1_19
      obtain ⟨Ahj1_15_7, chj1_15_7, Ahj1_15_8, chj1_15_8, Ahj1_15_10, chj1_15_10, rfl, hj1_15_7, hj1_15_8, hj1_15_10, hj1_15_11, hj1_15_12⟩ := oS85_open hj1_15
      refine fin ?_
      obtain ⟨tj1_20, htj1_20, hm⟩ := bind_some hm
      refine rg [1, 1, 1, 1, 1] ?_
      refine seg [.p 3] [(45, .pointer (some ⟨bx0, 0, none⟩)), (47, .func (.func 55) #[.pointer (some ⟨bx0, 0, none⟩)] #[])] [] ?_
      refine g_call 48 [0, 1] (f54_ok (bx0 := bx0) (Ax0_15 := Aj1_16) (cx0_15 := cj1_17) _ _ htj1_20 (oS85_mk (cs := (cS85 tj1_13 Ahj1_15_7 chj1_15_7 Ahj1_15_8 chj1_15_8 Ahj1_15_10 chj1_15_10 Aj1_16 cj1_17)) tj1_13 rfl hj1_15_7 hj1_15_8 hj1_15_10 hj1_15_11 hj1_15_12) hj1_19) ?_
      rintro _ Mj1_26 _ ⟨csj1_21, Aj1_23, cj1_24, rcj1_25, rfl, rfl, hj1_22, hj1_26⟩ hMj1_26
      obtain ⟨Ahj1_22_7, chj1_22_7, Ahj1_22_8, chj1_22_8, Ahj1_22_10, chj1_22_10, rfl, hj1_22_7, hj1_22_8, hj1_22_10, hj1_22_11, hj1_22_12⟩ := oS85_open hj1_22
      refine finE ?_
      obtain rfl := Option.some.inj hm
      exact re (v := .tuple #[]) [0, 1] ⟨(cS85 tj1_20 Ahj1_22_7 chj1_22_7 Ahj1_22_8 chj1_22_8 Ahj1_22_10 chj1_22_10 Aj1_23 cj1_24), Aj1_23, cj1_24, rcj1_25, rfl, rfl, (oS85_mk (cs := (cS85 tj1_20 Ahj1_22_7 chj1_22_7 Ahj1_22_8 chj1_22_8 Ahj1_22_10 chj1_22_10 Aj1_23 cj1_24)) tj1_20 rfl hj1_22_7 hj1_22_8 hj1_22_10 hj1_22_11 hj1_22_12), hj1_26⟩
theorem f63_ok {M : Mem} {bx0 : Nat} {csx0 : List Value} {Ax0_15 : Option Addr} {cx0_15 : Nat} {rcx0_15 : List Value} (x0 : S85) (r : S85) (hm : m63 x0 = some r) (hx0 : (oS85 Ax0_15 cx0_15).rep M csx0 x0) (ex0_15 : Elems kS46 M rcx0_15 x0.f1) : FnOk Try.prog 63 [.pointer (some ⟨bx0, 0, none⟩)] M [.blk bx0 csx0 86, .row (.slice Ax0_15 x0.f1.length cx0_15) 47 17 x0.f1.length rcx0_15] (R63 M bx0 csx0 Ax0_15 x0 cx0_15 rcx0_15 r) := by
  obtain ⟨Ahx0_7, chx0_7, Ahx0_8, chx0_8, Ahx0_10, chx0_10, rfl, hx0_7, hx0_8, hx0_10, hx0_11, hx0_12⟩ := oS85_open hx0
  refine intro_ (c := c63) 49 Try.func63 fun w => ?_
  unfold m63 at hm
  refine rs [0] [.p 4] [(2, .pointer (some ⟨bx0, 0, none⟩))] [] ?_
  refine rs [1, 0] [.p 7, .l 0, .p 2, .s 0, .p 2, .s 0, .p 2, .s 0, .p 2, .s 0] [] [(0, .blk bx0 (cS85 ({ x0 with f0 := { x0.f0 with f3 := 2, f4 := x0.f0.f0, f7 := [], f10 := 0 } }) Ahx0_7 chx0_7 Ahx0_8 chx0_8 none 0 Ax0_15 cx0_15) 86)] ?_
  refine rs [1, 1, 0, 0] [.p 1] [(23, .int .i64 0)] [] ?_
  exact to [0, 1] (@f63_j1 _ _ _ FUEL M rcx0_15 bx0 chx0_10 chx0_7 chx0_8 cx0_15 Ahx0_10 Ahx0_7 Ahx0_8 Ax0_15 _ _ _ _ hm hx0_7 hx0_8 hx0_11 hx0_12 ex0_15)

/-! ## (heartwood/raft.stepper).stands$1 -/
/-- (heartwood/raft.stepper).stands$1: what is left behind a call. -/
abbrev R85 (M : Mem) (bz0 : Nat) (csz0 : List Value) (Az0_15 : Option Addr) (z0 : S85) (cz0_15 : Nat) (rcz0_15 : List Value) (bz1 : Nat) (bz2 : Nat) (z2 : Int) (bz3 : Nat) (z3 : Int) (r : S85) : Value → Mem → List Res → Prop := fun v M' H' => ∃ (q0 : List Value) (w0_15 : Option Addr) (y0_15 : Nat) (z0_15 : List Value), .tuple #[] = v ∧ H' = [.blk bz0 q0 86, .row (.slice w0_15 r.f1.length y0_15) 47 17 r.f1.length z0_15, .blk bz1 [.pointer (some ⟨bz0, 0, none⟩)] 84, .blk bz2 [.int .i64 z2] 3, .blk bz3 [.int .i64 z3] 3] ∧ (oS85 w0_15 y0_15).rep M' q0 r ∧ Elems kS46 M' z0_15 r.f1
noncomputable def c85 : Code := match Try.f85.body with | some c => c | none => .skip
theorem f85_ok {M : Mem} {bz0 : Nat} {csz0 : List Value} {Az0_15 : Option Addr} {cz0_15 : Nat} {rcz0_15 : List Value} {bz1 : Nat} {bz2 : Nat} {bz3 : Nat} (x0 : Int) (z0 : S85) (z2 : Int) (z3 : Int) (r : S85) (hm : m85 x0 z0 z2 z3 = some r) (hz0 : (oS85 Az0_15 cz0_15).rep M csz0 z0) (ez0_15 : Elems kS46 M rcz0_15 z0.f1) : FnOk Try.prog 85 [.int .i64 x0, .pointer (some ⟨bz1, 0, none⟩), .pointer (some ⟨bz2, 0, none⟩), .pointer (some ⟨bz3, 0, none⟩)] M [.blk bz0 csz0 86, .row (.slice Az0_15 z0.f1.length cz0_15) 47 17 z0.f1.length rcz0_15, .blk bz1 [.pointer (some ⟨bz0, 0, none⟩)] 84, .blk bz2 [.int .i64 z2] 3, .blk bz3 [.int .i64 z3] 3] (R85 M bz0 csz0 Az0_15 z0 cz0_15 rcz0_15 bz1 bz2 z2 bz3 z3 r) := by
  obtain ⟨Ahz0_7, chz0_7, Ahz0_8, chz0_8, Ahz0_10, chz0_10, rfl, hz0_7, hz0_8, hz0_10, hz0_11, hz0_12⟩ := oS85_open hz0
  refine intro_ (c := c85) 11 Try.func85 fun w => ?_
  unfold m85 at hm
  obtain ⟨t0_1, ht0_1, hm⟩ := bind_some hm
  refine rg [] ?_
  refine seg [.l 2, .p 1, .l 3, .l 4, .b] [(5, .pointer (some ⟨bz0, 0, none⟩)), (6, .int .i64 x0), (9, .agg (cS46 (S46.mk 1 0 0 0 z2 z3 0 false [] [] 0 [] (S44.mk 0 [] [] [] (.slice none 0 0))) none 0 none 0 none 0 none 0 none 0 none 0).toArray)] [] ?_
  refine g_call 10 [0, 1] (f59_ok (bx0 := bz0) (Ax0_15 := Az0_15) (cx0_15 := cz0_15) _ _ _ _ ht0_1 (oS85_mk (cs := (cS85 z0 Ahz0_7 chz0_7 Ahz0_8 chz0_8 Ahz0_10 chz0_10 Az0_15 cz0_15)) z0 rfl hz0_7 hz0_8 hz0_10 hz0_11 hz0_12) ez0_15 (kS46_mk (cs := (cS46 (S46.mk 1 0 0 0 z2 z3 0 false [] [] 0 [] (S44.mk 0 [] [] [] (.slice none 0 0))) none 0 none 0 none 0 none 0 none 0 none 0)) (S46.mk 1 0 0 0 z2 z3 0 false [] [] 0 [] (S44.mk 0 [] [] [] (.slice none 0 0))) rfl slNil slNil slNil slNil slNil slNil rfl)) ?_
  rintro _ M0_7 _ ⟨cs0_2, A0_4, c0_5, rc0_6, rfl, rfl, h0_3, h0_7⟩ hM0_7
  obtain ⟨Ah0_3_7, ch0_3_7, Ah0_3_8, ch0_3_8, Ah0_3_10, ch0_3_10, rfl, h0_3_7, h0_3_8, h0_3_10, h0_3_11, h0_3_12⟩ := oS85_open h0_3
  refine finE ?_
  obtain rfl := Option.some.inj hm
  exact re (v := .tuple #[]) [0, 1, 2, 3, 4] ⟨(cS85 t0_1 Ah0_3_7 ch0_3_7 Ah0_3_8 ch0_3_8 Ah0_3_10 ch0_3_10 A0_4 c0_5), A0_4, c0_5, rc0_6, rfl, rfl, (oS85_mk (cs := (cS85 t0_1 Ah0_3_7 ch0_3_7 Ah0_3_8 ch0_3_8 Ah0_3_10 ch0_3_10 A0_4 c0_5)) t0_1 rfl h0_3_7 h0_3_8 h0_3_10 h0_3_11 h0_3_12), h0_7⟩

/-! ## (heartwood/raft.stepper).others -/
/-- (heartwood/raft.stepper).others: what is left behind a call. -/
abbrev R54v1 (M : Mem) (bx0 : Nat) (csx0 : List Value) (Ax0_15 : Option Addr) (x0 : S85) (cx0_15 : Nat) (rcx0_15 : List Value) (bz1 : Nat) (bz2 : Nat) (z2 : Int) (bz3 : Nat) (z3 : Int) (r : S85) : Value → Mem → List Res → Prop := fun v M' H' => ∃ (q0 : List Value) (w0_15 : Option Addr) (y0_15 : Nat) (z0_15 : List Value), .tuple #[] = v ∧ H' = [.blk bx0 q0 86, .row (.slice w0_15 r.f1.length y0_15) 47 17 r.f1.length z0_15, .blk bz1 [.pointer (some ⟨bx0, 0, none⟩)] 84, .blk bz2 [.int .i64 z2] 3, .blk bz3 [.int .i64 z3] 3] ∧ (oS85 w0_15 y0_15).rep M' q0 r ∧ Elems kS46 M' z0_15 r.f1
abbrev C54v1 (w0 : World) (M0 : Mem) (bx0 : Nat) (x0 : S85) (Ahx0_7 : Option Addr) (chx0_7 : Nat) (Ahx0_8 : Option Addr) (chx0_8 : Nat) (Ahx0_10 : Option Addr) (chx0_10 : Nat) (Ax0_15 : Option Addr) (cx0_15 : Nat) (rcx0_15 : List Value) (bz1 : Nat) (bz2 : Nat) (z2 : Int) (bz3 : Nat) (z3 : Int) : Ctx := ⟨24, w0, M0, [.blk bx0 (cS85 x0 Ahx0_7 chx0_7 Ahx0_8 chx0_8 Ahx0_10 chx0_10 Ax0_15 cx0_15) 86, .row (.slice Ax0_15 x0.f1.length cx0_15) 47 17 x0.f1.length rcx0_15, .blk bz1 [.pointer (some ⟨bx0, 0, none⟩)] 84, .blk bz2 [.int .i64 z2] 3, .blk bz3 [.int .i64 z3] 3]⟩
abbrev D54v1 (w0 : World) (M0 : Mem) (r : S85) (bx0 : Nat) (x0 : S85) (Ahx0_7 : Option Addr) (chx0_7 : Nat) (Ahx0_8 : Option Addr) (chx0_8 : Nat) (Ahx0_10 : Option Addr) (chx0_10 : Nat) (Ax0_15 : Option Addr) (cx0_15 : Nat) (rcx0_15 : List Value) (bz1 : Nat) (bz2 : Nat) (z2 : Int) (bz3 : Nat) (z3 : Int) : Post := Done Try.prog Try.f54 (C54v1 w0 M0 bx0 x0 Ahx0_7 chx0_7 Ahx0_8 chx0_8 Ahx0_10 chx0_10 Ax0_15 cx0_15 rcx0_15 bz1 bz2 z2 bz3 z3) (R54v1 M0 bx0 (cS85 x0 Ahx0_7 chx0_7 Ahx0_8 chx0_8 Ahx0_10 chx0_10 Ax0_15 cx0_15) Ax0_15 x0 cx0_15 rcx0_15 bz1 bz2 z2 bz3 z3 r)
abbrev H54v1_j1 (w0 : World) (M0 : Mem) (r : S85) (Lj1 : Int → Int → Int → Int → Int → Int → Int → Int → Int → Int → Int → Int → Int → Int → (List Int) → (List Int) → (List Int) → (List Int) → (List Int) → (List S46) → (List S80) → S85 → Option S85) : Prop := ∀ {M : Mem} {csj1_p0_15 rcx0_15 : List Value} {bx0 bz1 bz2 bz3 c0_3 chx0_10 chx0_7 chx0_8 cj1_p0_15 cj1_p0_l10 cj1_p0_l7 cj1_p0_l8 cx0_15 : Nat} {A0_2 Ahx0_10 Ahx0_7 Ahx0_8 Aj1_p0_15 Aj1_p0_l10 Aj1_p0_l7 Aj1_p0_l8 Ax0_15 : Option Addr} (xj1_p0_l0 xj1_p0_l1 xj1_p0_l13 xj1_p0_l14 xj1_p0_l16 xj1_p0_l2 xj1_p0_l3 xj1_p0_l4 xj1_p0_l5 xj1_p0_l6 xj1_p0_l9 xj1_s9 z2 z3 : Int) (t0_1 xj1_p0_l10 xj1_p0_l11 xj1_p0_l12 xj1_p0_l7 : List Int) (xj1_p0_15 : List S46) (xj1_p0_l8 : List S80) (x0 : S85) (_ : Lj1 xj1_p0_l0 xj1_p0_l1 xj1_p0_l13 xj1_p0_l14 xj1_p0_l16 xj1_p0_l2 xj1_p0_l3 xj1_p0_l4 xj1_p0_l5 xj1_p0_l6 xj1_p0_l9 xj1_s9 z2 z3 t0_1 xj1_p0_l10 xj1_p0_l11 xj1_p0_l12 xj1_p0_l7 xj1_p0_15 xj1_p0_l8 x0 = some r) (_ : SlAt (kint .i64) M A0_2 c0_3 t0_1) (_ : SlAt (kint .i64) M Aj1_p0_l7 cj1_p0_l7 xj1_p0_l7) (_ : SlAt kS80 M Aj1_p0_l8 cj1_p0_l8 xj1_p0_l8) (_ : SlAt (kint .i64) M Aj1_p0_l10 cj1_p0_l10 xj1_p0_l10) (_ : xj1_p0_l11.length = 8) (_ : xj1_p0_l12.length = 8) (_ : Elems kS46 M csj1_p0_15 xj1_p0_15), AG Try.prog c54 [1, 0] (D54v1 w0 M0 r bx0 x0 Ahx0_7 chx0_7 Ahx0_8 chx0_8 Ahx0_10 chx0_10 Ax0_15 cx0_15 rcx0_15 bz1 bz2 z2 bz3 z3) (C54v1 w0 M0 bx0 x0 Ahx0_7 chx0_7 Ahx0_8 chx0_8 Ahx0_10 chx0_10 Ax0_15 cx0_15 rcx0_15 bz1 bz2 z2 bz3 z3) (env [(0, .pointer (some ⟨bx0, 0, none⟩)), (1, .func (.func 85) #[] #[.pointer (some ⟨bz1, 0, none⟩), .pointer (some ⟨bz2, 0, none⟩), .pointer (some ⟨bz3, 0, none⟩)]), (7, .slice A0_2 t0_1.length c0_3), (8, .int .i64 (t0_1.length : Int)), (9, .int .i64 xj1_s9)]) M [.blk bx0 (cS85 (S85.mk (S31.mk xj1_p0_l0 xj1_p0_l1 xj1_p0_l2 xj1_p0_l3 xj1_p0_l4 (S26.mk (S23.mk xj1_p0_l5 xj1_p0_l6 xj1_p0_l7) xj1_p0_l8) xj1_p0_l9 xj1_p0_l10 xj1_p0_l11 xj1_p0_l12 xj1_p0_l13 xj1_p0_l14) xj1_p0_15 xj1_p0_l16) Aj1_p0_l7 cj1_p0_l7 Aj1_p0_l8 cj1_p0_l8 Aj1_p0_l10 cj1_p0_l10 Aj1_p0_15 cj1_p0_15) 86, .row (.slice Aj1_p0_15 xj1_p0_15.length cj1_p0_15) 47 17 xj1_p0_15.length csj1_p0_15, .blk bz1 [.pointer (some ⟨bx0, 0, none⟩)] 84, .blk bz2 [.int .i64 z2] 3, .blk bz3 [.int .i64 z3] 3]
theorem f54v1_j2 {w0 : World} {M0 : Mem} {r : S85} {Lj1 : Int → Int → Int → Int → Int → Int → Int → Int → Int → Int → Int → Int → Int → Int → (List Int) → (List Int) → (List Int) → (List Int) → (List Int) → (List S46) → (List S80) → S85 → Option S85} (ihj1 : H54v1_j1 w0 M0 r Lj1) : ∀ {M : Mem} {csj2_p0_15 rcx0_15 : List Value} {bx0 bz1 bz2 bz3 c0_3 chx0_10 chx0_7 chx0_8 cj2_p0_15 cj2_p0_l10 cj2_p0_l7 cj2_p0_l8 cx0_15 : Nat} {A0_2 Ahx0_10 Ahx0_7 Ahx0_8 Aj2_p0_15 Aj2_p0_l10 Aj2_p0_l7 Aj2_p0_l8 Ax0_15 : Option Addr} (xj2_p0_l0 xj2_p0_l1 xj2_p0_l13 xj2_p0_l14 xj2_p0_l16 xj2_p0_l2 xj2_p0_l3 xj2_p0_l4 xj2_p0_l5 xj2_p0_l6 xj2_p0_l9 xj2_s9 z2 z3 : Int) (t0_1 xj2_p0_l10 xj2_p0_l11 xj2_p0_l12 xj2_p0_l7 : List Int) (xj2_p0_15 : List S46) (xj2_p0_l8 : List S80) (x0 : S85) (_ : m54v1_j2 Lj1 xj2_p0_l0 xj2_p0_l1 xj2_p0_l13 xj2_p0_l14 xj2_p0_l16 xj2_p0_l2 xj2_p0_l3 xj2_p0_l4 xj2_p0_l5 xj2_p0_l6 xj2_p0_l9 xj2_s9 z2 z3 t0_1 xj2_p0_l10 xj2_p0_l11 xj2_p0_l12 xj2_p0_l7 xj2_p0_15 xj2_p0_l8 x0 = some r) (_ : SlAt (kint .i64) M A0_2 c0_3 t0_1) (_ : SlAt (kint .i64) M Aj2_p0_l7 cj2_p0_l7 xj2_p0_l7) (_ : SlAt kS80 M Aj2_p0_l8 cj2_p0_l8 xj2_p0_l8) (_ : SlAt (kint .i64) M Aj2_p0_l10 cj2_p0_l10 xj2_p0_l10) (_ : xj2_p0_l11.length = 8) (_ : xj2_p0_l12.length = 8) (_ : Elems kS46 M csj2_p0_15 xj2_p0_15), AG Try.prog c54 [1, 0, 0, 1, 1, 1] (D54v1 w0 M0 r bx0 x0 Ahx0_7 chx0_7 Ahx0_8 chx0_8 Ahx0_10 chx0_10 Ax0_15 cx0_15 rcx0_15 bz1 bz2 z2 bz3 z3) (C54v1 w0 M0 bx0 x0 Ahx0_7 chx0_7 Ahx0_8 chx0_8 Ahx0_10 chx0_10 Ax0_15 cx0_15 rcx0_15 bz1 bz2 z2 bz3 z3) (env [(0, .pointer (some ⟨bx0, 0, none⟩)), (1, .func (.func 85) #[] #[.pointer (some ⟨bz1, 0, none⟩), .pointer (some ⟨bz2, 0, none⟩), .pointer (some ⟨bz3, 0, none⟩)]), (7, .slice A0_2 t0_1.length c0_3), (8, .int .i64 (t0_1.length : Int)), (9, .int .i64 xj2_s9)]) M [.blk bx0 (cS85 (S85.mk (S31.mk xj2_p0_l0 xj2_p0_l1 xj2_p0_l2 xj2_p0_l3 xj2_p0_l4 (S26.mk (S23.mk xj2_p0_l5 xj2_p0_l6 xj2_p0_l7) xj2_p0_l8) xj2_p0_l9 xj2_p0_l10 xj2_p0_l11 xj2_p0_l12 xj2_p0_l13 xj2_p0_l14) xj2_p0_15 xj2_p0_l16) Aj2_p0_l7 cj2_p0_l7 Aj2_p0_l8 cj2_p0_l8 Aj2_p0_l10 cj2_p0_l10 Aj2_p0_15 cj2_p0_15) 86, .row (.slice Aj2_p0_15 xj2_p0_15.length cj2_p0_15) 47 17 xj2_p0_15.length csj2_p0_15, .blk bz1 [.pointer (some ⟨bx0, 0, none⟩)] 84, .blk bz2 [.int .i64 z2] 3, .blk bz3 [.int .i64 z3] 3] := by
  intro M csj2_p0_15 rcx0_15 bx0 bz1 bz2 bz3 c0_3 chx0_10 chx0_7 chx0_8 cj2_p0_15 cj2_p0_l10 cj2_p0_l7 cj2_p0_l8 cx0_15 A0_2 Ahx0_10 Ahx0_7 Ahx0_8 Aj2_p0_15 Aj2_p0_l10 Aj2_p0_l7 Aj2_p0_l8 Ax0_15 xj2_p0_l0 xj2_p0_l1 xj2_p0_l13 xj2_p0_l14 xj2_p0_l16 xj2_p0_l2 xj2_p0_l3 xj2_p0_l4 xj2_p0_l5 xj2_p0_l6 xj2_p0_l9 xj2_s9 z2 z3 t0_1 xj2_p0_l10 xj2_p0_l11 xj2_p0_l12 xj2_p0_l7 xj2_p0_15 xj2_p0_l8 x0 hm hj2_s7 hj2_p0_l7 hj2_p0_l8 hj2_p0_l10 lj2_p0_l11 lj2_p0_l12 ej2_p0_15; unfold m54v1_j2 at hm
  refine rs [1, 0, 0, 1, 1, 1] [.p 2] [(9, .int .i64 (IntKind.i64.wrap (xj2_s9 + 1)))] [] ?_
  exact to [0, 1, 2, 3, 4] (@ihj1 M csj2_p0_15 rcx0_15 bx0 bz1 bz2 bz3 c0_3 chx0_10 chx0_7 chx0_8 cj2_p0_15 cj2_p0_l10 cj2_p0_l7 cj2_p0_l8 cx0_15 A0_2 Ahx0_10 Ahx0_7 Ahx0_8 Aj2_p0_15 Aj2_p0_l10 Aj2_p0_l7 Aj2_p0_l8 Ax0_15 _ _ _ _ _ _ _ _ _ _ _ _ _ _ _ _ _ _ _ _ _ _ hm hj2_s7 hj2_p0_l7 hj2_p0_l8 hj2_p0_l10 lj2_p0_l11 lj2_p0_l12 ej2_p0_15)
theorem f54v1_j1 {w0 : World} {M0 : Mem} {r : S85} : ∀ k, H54v1_j1 w0 M0 r (m54v1_j1 k) := by
  intro k; induction k with
  | zero => intro M csj1_p0_15 rcx0_15 bx0 bz1 bz2 bz3 c0_3 chx0_10 chx0_7 chx0_8 cj1_p0_15 cj1_p0_l10 cj1_p0_l7 cj1_p0_l8 cx0_15 A0_2 Ahx0_10 Ahx0_7 Ahx0_8 Aj1_p0_15 Aj1_p0_l10 Aj1_p0_l7 Aj1_p0_l8 Ax0_15 xj1_p0_l0 xj1_p0_l1 xj1_p0_l13 xj1_p0_l14 xj1_p0_l16 xj1_p0_l2 xj1_p0_l3 xj1_p0_l4 xj1_p0_l5 xj1_p0_l6 xj1_p0_l9 xj1_s9 z2 z3 t0_1 xj1_p0_l10 xj1_p0_l11 xj1_p0_l12 xj1_p0_l7 xj1_p0_15 xj1_p0_l8 x0 hm; exact absurd hm (by simp [m54v1_j1])
  | succ k ihj1 =>
    intro M csj1_p0_15 rcx0_15 bx0 bz1 bz2 bz3 c0_3 chx0_10 chx0_7 chx0_8 cj1_p0_15 cj1_p0_l10 cj1_p0_l7 cj1_p0_l8 cx0_15 A0_2 Ahx0_10 Ahx0_7 Ahx0_8 Aj1_p0_15 Aj1_p0_l10 Aj1_p0_l7 Aj1_p0_l8 Ax0_15 xj1_p0_l0 xj1_p0_l1 xj1_p0_l13 xj1_p0_l14 xj1_p0_l16 xj1_p0_l2 xj1_p0_l3 xj1_p0_l4 xj1_p0_l5 xj1_p0_l6 xj1_p0_l9 xj1_s9 z2 z3 t0_1 xj1_p0_l10 xj1_p0_l11 xj1_p0_l12 xj1_p0_l7 xj1_p0_15 xj1_p0_l8 x0 hm hj1_s7 hj1_p0_l7 hj1_p0_l8 hj1_p0_l10 lj1_p0_l11 lj1_p0_l12 ej1_p0_15
    rw [m54v1_j1.eq_2] at hm
    refine gl [1, 0] plain_done ?_
    refine rs [1, 0, 0, 0] [.p 1] [(10, .bool (decide ((xj1_s9 : Int) < (t0_1.length : Int))))] [] ?_
    refine gi [1, 0, 0, 1, 0] hm (fun hm => ?_) fun hm => ?_
    · obtain ⟨ej1_1, bj1_2, fj1_3, kj1_4, Wj1_5, hm, haej1_1, hbej1_1, hmej1_1, hwej1_1, hrej1_1⟩ := ixo hm hj1_s7
      replace hwej1_1 := hwej1_1.trans hrej1_1
      refine rg [1, 0, 0, 1, 1, 0, 0, 0] ?_
      refine g_ix 11 1 haej1_1 hbej1_1 ?_
      refine g_lw 12 0 (.int .i64 ej1_1) hmej1_1 hwej1_1 ?_
      refine seg [.p 1] [(5, .int .i64 ej1_1)] [] ?_
      refine fin ?_
      refine rs [1, 0, 0, 1, 1, 0, 0, 1, 0] [.p 5, .l 0, .p 1] [(19, .bool ((ej1_1 : Int) != xj1_p0_l0))] [] ?_
      refine gi [1, 0, 0, 1, 1, 0, 0, 1, 1] hm (fun hm => ?_) fun hm => ?_
      · obtain ⟨tj1_6, htj1_6, hm⟩ := bind_some hm
        refine rg [1, 0, 0, 1, 1, 0, 0, 1, 1, 0] ?_
        refine seg [.p 2] [(20, .func (.func 85) #[] #[.pointer (some ⟨bz1, 0, none⟩), .pointer (some ⟨bz2, 0, none⟩), .pointer (some ⟨bz3, 0, none⟩)]), (21, .int .i64 ej1_1)] [] ?_
        refine g_call 22 [0, 1, 2, 3, 4] (f85_ok (bz0 := bx0) (Az0_15 := Aj1_p0_15) (cz0_15 := cj1_p0_15) (bz1 := bz1) (bz2 := bz2) (bz3 := bz3) _ _ _ _ _ htj1_6 (oS85_mk (cs := (cS85 (S85.mk (S31.mk xj1_p0_l0 xj1_p0_l1 xj1_p0_l2 xj1_p0_l3 xj1_p0_l4 (S26.mk (S23.mk xj1_p0_l5 xj1_p0_l6 xj1_p0_l7) xj1_p0_l8) xj1_p0_l9 xj1_p0_l10 xj1_p0_l11 xj1_p0_l12 xj1_p0_l13 xj1_p0_l14) xj1_p0_15 xj1_p0_l16) Aj1_p0_l7 cj1_p0_l7 Aj1_p0_l8 cj1_p0_l8 Aj1_p0_l10 cj1_p0_l10 Aj1_p0_15 cj1_p0_15)) (S85.mk (S31.mk xj1_p0_l0 xj1_p0_l1 xj1_p0_l2 xj1_p0_l3 xj1_p0_l4 (S26.mk (S23.mk xj1_p0_l5 xj1_p0_l6 xj1_p0_l7) xj1_p0_l8) xj1_p0_l9 xj1_p0_l10 xj1_p0_l11 xj1_p0_l12 xj1_p0_l13 xj1_p0_l14) xj1_p0_15 xj1_p0_l16) rfl hj1_p0_l7 hj1_p0_l8 hj1_p0_l10 lj1_p0_l11 lj1_p0_l12) ej1_p0_15) ?_
        rintro _ Mj1_12 _ ⟨csj1_7, Aj1_9, cj1_10, rcj1_11, rfl, rfl, hj1_8, hj1_12⟩ hMj1_12
        obtain ⟨Ahj1_8_7, chj1_8_7, Ahj1_8_8, chj1_8_8, Ahj1_8_10, chj1_8_10, rfl, hj1_8_7, hj1_8_8, hj1_8_10, hj1_8_11, hj1_8_12⟩ := oS85_open hj1_8
        refine fin ?_
        replace hj1_s7 := (hj1_s7.mono hMj1_12)
        exact to [0, 1, 2, 3, 4] (@f54v1_j2 _ _ _ _ ihj1 Mj1_12 rcj1_11 rcx0_15 bx0 bz1 bz2 bz3 c0_3 chx0_10 chx0_7 chx0_8 cj1_10 chj1_8_10 chj1_8_7 chj1_8_8 cx0_15 A0_2 Ahx0_10 Ahx0_7 Ahx0_8 Aj1_9 Ahj1_8_10 Ahj1_8_7 Ahj1_8_8 Ax0_15 _ _ _ _ _ _ _ _ _ _ _ _ _ _ _ _ _ _ _ _ _ _ hm hj1_s7 hj1_8_7 hj1_8_8 hj1_8_10 hj1_8_11 hj1_8_12 hj1_12)
      · exact to [0, 1, 2, 3, 4] (@f54v1_j2 _ _ _ _ ihj1 M csj1_p0_15 rcx0_15 bx0 bz1 bz2 bz3 c0_3 chx0_10 chx0_7 chx0_8 cj1_p0_15 cj1_p0_l10 cj1_p0_l7 cj1_p0_l8 cx0_15 A0_2 Ahx0_10 Ahx0_7 Ahx0_8 Aj1_p0_15 Aj1_p0_l10 Aj1_p0_l7 Aj1_p0_l8 Ax0_15 _ _ _ _ _ _ _ _ _ _ _ _ _ _ _ _ _ _ _ _ _ _ hm hj1_s7 hj1_p0_l7 hj1_p0_l8 hj1_p0_l10 lj1_p0_l11 lj1_p0_l12 ej1_p0_15)
    · refine en ?_
      obtain rfl := Option.some.inj hm
      exact re (v := .tuple #[]) [0, 1, 2, 3, 4] ⟨(cS85 (S85.mk (S31.mk xj1_p0_l0 xj1_p0_l1 xj1_p0_l2 xj1_p0_l3 xj1_p0_l4 (S26.mk (S23.mk xj1_p0_l5 xj1_p0_l6 xj1_p0_l7) xj1_p0_l8) xj1_p0_l9 xj1_p0_l10 xj1_p0_l11 xj1_p0_l12 xj1_p0_l13 xj1_p0_l14) xj1_p0_15 xj1_p0_l16) Aj1_p0_l7 cj1_p0_l7 Aj1_p0_l8 cj1_p0_l8 Aj1_p0_l10 cj1_p0_l10 Aj1_p0_15 cj1_p0_15), Aj1_p0_15, cj1_p0_15, csj1_p0_15, rfl, rfl, (oS85_mk (cs := (cS85 (S85.mk (S31.mk xj1_p0_l0 xj1_p0_l1 xj1_p0_l2 xj1_p0_l3 xj1_p0_l4 (S26.mk (S23.mk xj1_p0_l5 xj1_p0_l6 xj1_p0_l7) xj1_p0_l8) xj1_p0_l9 xj1_p0_l10 xj1_p0_l11 xj1_p0_l12 xj1_p0_l13 xj1_p0_l14) xj1_p0_15 xj1_p0_l16) Aj1_p0_l7 cj1_p0_l7 Aj1_p0_l8 cj1_p0_l8 Aj1_p0_l10 cj1_p0_l10 Aj1_p0_15 cj1_p0_15)) (S85.mk (S31.mk xj1_p0_l0 xj1_p0_l1 xj1_p0_l2 xj1_p0_l3 xj1_p0_l4 (S26.mk (S23.mk xj1_p0_l5 xj1_p0_l6 xj1_p0_l7) xj1_p0_l8) xj1_p0_l9 xj1_p0_l10 xj1_p0_l11 xj1_p0_l12 xj1_p0_l13 xj1_p0_l14) xj1_p0_15 xj1_p0_l16) rfl hj1_p0_l7 hj1_p0_l8 hj1_p0_l10 lj1_p0_l11 lj1_p0_l12), ej1_p0_15⟩
theorem f54v1_ok {M : Mem} {bx0 : Nat} {csx0 : List Value} {Ax0_15 : Option Addr} {cx0_15 : Nat} {rcx0_15 : List Value} {bz1 : Nat} {bz2 : Nat} {bz3 : Nat} (x0 : S85) (z2 : Int) (z3 : Int) (r : S85) (hm : m54v1 x0 z2 z3 = some r) (hx0 : (oS85 Ax0_15 cx0_15).rep M csx0 x0) (ex0_15 : Elems kS46 M rcx0_15 x0.f1) : FnOk Try.prog 54 [.pointer (some ⟨bx0, 0, none⟩), .func (.func 85) #[] #[.pointer (some ⟨bz1, 0, none⟩), .pointer (some ⟨bz2, 0, none⟩), .pointer (some ⟨bz3, 0, none⟩)]] M [.blk bx0 csx0 86, .row (.slice Ax0_15 x0.f1.length cx0_15) 47 17 x0.f1.length rcx0_15, .blk bz1 [.pointer (some ⟨bx0, 0, none⟩)] 84, .blk bz2 [.int .i64 z2] 3, .blk bz3 [.int .i64 z3] 3] (R54v1 M bx0 csx0 Ax0_15 x0 cx0_15 rcx0_15 bz1 bz2 z2 bz3 z3 r) := by
  obtain ⟨Ahx0_7, chx0_7, Ahx0_8, chx0_8, Ahx0_10, chx0_10, rfl, hx0_7, hx0_8, hx0_10, hx0_11, hx0_12⟩ := oS85_open hx0
  refine intro_ (c := c54) 24 Try.func54 fun w => ?_
  unfold m54v1 at hm
  obtain ⟨t0_1, ht0_1, hm⟩ := bind_some hm
  refine rg [0] ?_
  refine seg [.p 1] [(6, .pointer (some ⟨bx0, 0, none⟩))] [] ?_
  refine g_call 7 [0, 1] (f57_ok (bx0 := bx0) (Ax0_15 := Ax0_15) (cx0_15 := cx0_15) _ _ ht0_1 (oS85_mk (cs := (cS85 x0 Ahx0_7 chx0_7 Ahx0_8 chx0_8 Ahx0_10 chx0_10 Ax0_15 cx0_15)) x0 rfl hx0_7 hx0_8 hx0_10 hx0_11 hx0_12) ex0_15) ?_
  rintro _ M0_4 _ ⟨A0_2, c0_3, rfl, rfl, h0_4⟩ hM0_4
  refine seg [.p 2] [(8, .int .i64 (t0_1.length : Int)), (9, .int .i64 0)] [] ?_
  refine fin ?_
  replace hx0_7 := (hx0_7.mono hM0_4)
  replace hx0_8 := (hx0_8.mono hM0_4)
  replace hx0_10 := (hx0_10.mono hM0_4)
  replace ex0_15 := (ex0_15.mono hM0_4)
  exact to [0, 1, 2, 3, 4] (@f54v1_j1 _ _ _ FUEL M0_4 rcx0_15 rcx0_15 bx0 bz1 bz2 bz3 c0_3 chx0_10 chx0_7 chx0_8 cx0_15 chx0_10 chx0_7 chx0_8 cx0_15 A0_2 Ahx0_10 Ahx0_7 Ahx0_8 Ax0_15 Ahx0_10 Ahx0_7 Ahx0_8 Ax0_15 _ _ _ _ _ _ _ _ _ _ _ _ _ _ _ _ _ _ _ _ _ _ hm h0_4 hx0_7 hx0_8 hx0_10 hx0_11 hx0_12 ex0_15)

/-! ## (heartwood/raft.stepper).stands -/
/-- (heartwood/raft.stepper).stands: what is left behind a call. -/
abbrev R58 (M : Mem) (bx0 : Nat) (csx0 : List Value) (Ax0_15 : Option Addr) (x0 : S85) (cx0_15 : Nat) (rcx0_15 : List Value) (r : S85) : Value → Mem → List Res → Prop := fun v M' H' => ∃ (q0 : List Value) (w0_15 : Option Addr) (y0_15 : Nat) (z0_15 : List Value), .tuple #[] = v ∧ H' = [.blk bx0 q0 86, .row (.slice w0_15 r.f1.length y0_15) 47 17 r.f1.length z0_15] ∧ (oS85 w0_15 y0_15).rep M' q0 r ∧ Elems kS46 M' z0_15 r.f1
noncomputable def c58 : Code := match Try.f58.body with | some c => c | none => .skip
abbrev C58 (w0 : World) (M0 : Mem) (bx0 : Nat) (x0 : S85) (Ahx0_7 : Option Addr) (chx0_7 : Nat) (Ahx0_8 : Option Addr) (chx0_8 : Nat) (Ahx0_10 : Option Addr) (chx0_10 : Nat) (Ax0_15 : Option Addr) (cx0_15 : Nat) (rcx0_15 : List Value) : Ctx := ⟨66, w0, M0, [.blk bx0 (cS85 x0 Ahx0_7 chx0_7 Ahx0_8 chx0_8 Ahx0_10 chx0_10 Ax0_15 cx0_15) 86, .row (.slice Ax0_15 x0.f1.length cx0_15) 47 17 x0.f1.length rcx0_15]⟩
abbrev D58 (w0 : World) (M0 : Mem) (r : S85) (bx0 : Nat) (x0 : S85) (Ahx0_7 : Option Addr) (chx0_7 : Nat) (Ahx0_8 : Option Addr) (chx0_8 : Nat) (Ahx0_10 : Option Addr) (chx0_10 : Nat) (Ax0_15 : Option Addr) (cx0_15 : Nat) (rcx0_15 : List Value) : Post := Done Try.prog Try.f58 (C58 w0 M0 bx0 x0 Ahx0_7 chx0_7 Ahx0_8 chx0_8 Ahx0_10 chx0_10 Ax0_15 cx0_15 rcx0_15) (R58 M0 bx0 (cS85 x0 Ahx0_7 chx0_7 Ahx0_8 chx0_8 Ahx0_10 chx0_10 Ax0_15 cx0_15) Ax0_15 x0 cx0_15 rcx0_15 r)
theorem f58_j1 {w0 : World} {M0 : Mem} {r : S85} : ∀ {M : Mem} {rcx0_15 : List Value} {b0_1 b0_903 bx0 chx0_10 chx0_7 chx0_8 cx0_15 : Nat} {Ahx0_10 Ahx0_7 Ahx0_8 Ax0_15 : Option Addr} (t0_1022 : Int) (x0 : S85) (_ : m58_j1 t0_1022 x0 = some r) (_ : SlAt (kint .i64) M Ahx0_7 chx0_7 x0.f0.f5.f0.f2) (_ : SlAt kS80 M Ahx0_8 chx0_8 x0.f0.f5.f1) (_ : x0.f0.f8.length = 8) (_ : x0.f0.f9.length = 8) (_ : Elems (kint .i64) M [.int .i64 x0.f0.f0] ([x0.f0.f0] : List Int)) (_ : Elems kS46 M rcx0_15 x0.f1), AG Try.prog c58 [1, 1, 1, 1] (D58 w0 M0 r bx0 x0 Ahx0_7 chx0_7 Ahx0_8 chx0_8 Ahx0_10 chx0_10 Ax0_15 cx0_15 rcx0_15) (C58 w0 M0 bx0 x0 Ahx0_7 chx0_7 Ahx0_8 chx0_8 Ahx0_10 chx0_10 Ax0_15 cx0_15 rcx0_15) (env [(2, .pointer (some ⟨b0_1, 0, none⟩)), (4, .pointer (some ⟨bx0, 0, none⟩))]) M [.blk bx0 (cS85 ({ x0 with f0 := { x0.f0 with f1 := IntKind.i64.wrap (x0.f0.f1 + 1), f2 := x0.f0.f0, f3 := 1, f4 := 0, f7 := ([x0.f0.f0] : List Int), f10 := 0, f11 := t0_1022 } }) Ahx0_7 chx0_7 Ahx0_8 chx0_8 (some ⟨b0_903, 0, none⟩) 1 Ax0_15 cx0_15) 86, .row (.slice (some ⟨b0_903, 0, none⟩) (([x0.f0.f0] : List Int).length) 1) 3 1 (([x0.f0.f0] : List Int).length) [.int .i64 x0.f0.f0], .row (.slice Ax0_15 x0.f1.length cx0_15) 47 17 x0.f1.length rcx0_15, .blk b0_1 [.pointer (some ⟨bx0, 0, none⟩)] 84] := by
  intro M rcx0_15 b0_1 b0_903 bx0 chx0_10 chx0_7 chx0_8 cx0_15 Ahx0_10 Ahx0_7 Ahx0_8 Ax0_15 t0_1022 x0 hm hj1_p0_l7 hj1_p0_l8 lj1_p0_l11 lj1_p0_l12 ej1_1_1_1_0_14 ej1_p0_15; unfold m58_j1 at hm
  obtain ⟨tj1_2, htj1_2, hm⟩ := bind_some hm
  refine rgD [1, 1, 1, 1, 0, 0] (PT.of [1, 8, 12, 16, 21, 7, 27] .dn) [(0, 3), (5, 0)] [0, 6] mixed plain_done ?_
  refine seg [.l 3, .p 3, .l 0] [(46, .pointer (some ⟨bx0, 0, none⟩)), (51, (.slice (some ⟨b0_903, 0, none⟩) (([x0.f0.f0] : List Int).length) 1))] [] ?_
  refine fzI 1 3 (some ⟨b0_903, 0, none⟩) 1 ej1_1_1_1_0_14 fun Mhj1_1 lhj1_1 hj1_1 => ?_
  replace hj1_p0_l7 := (hj1_p0_l7.mono lhj1_1)
  replace hj1_p0_l8 := (hj1_p0_l8.mono lhj1_1)
  replace ej1_p0_15 := (ej1_p0_15.mono lhj1_1)
  refine g_callK 47 [0, 2] (f57_ok (bx0 := bx0) (Ax0_15 := Ax0_15) (cx0_15 := cx0_15) _ _ htj1_2 (oS85_mk (cs := (cS85 ({ x0 with f0 := { x0.f0 with f1 := IntKind.i64.wrap (x0.f0.f1 + 1), f2 := x0.f0.f0, f3 := 1, f4 := 0, f7 := ([x0.f0.f0] : List Int), f10 := 0, f11 := t0_1022 } }) Ahx0_7 chx0_7 Ahx0_8 chx0_8 (some ⟨b0_903, 0, none⟩) 1 Ax0_15 cx0_15)) ({ x0 with f0 := { x0.f0 with f1 := IntKind.i64.wrap (x0.f0.f1 + 1), f2 := x0.f0.f0, f3 := 1, f4 := 0, f7 := ([x0.f0.f0] : List Int), f10 := 0, f11 := t0_1022 } }) rfl hj1_p0_l7 hj1_p0_l8 hj1_1 lj1_p0_l11 lj1_p0_l12) ej1_p0_15) (by rintro _ _ _ ⟨_, _, rfl, rfl, _⟩; rfl) ?_
  rintro _ Mj1_5 _ ⟨Aj1_3, cj1_4, rfl, rfl, hj1_5⟩ hMj1_5
  obtain ⟨tj1_6, htj1_6, hm⟩ := bind_some hm
  replace hj1_1 := (hj1_1.mono hMj1_5)
  refine g_call0 52 (f62_ok _ _ _ htj1_6 hj1_5 hj1_1) ?_
  rintro _ _ _ ⟨rfl, rfl, rfl⟩ -
  refine fin ?_
  refine gi [1, 1, 1, 1, 0, 1] hm (fun hm => ?_) fun hm => ?_
  · obtain ⟨tj1_7, htj1_7, hm⟩ := bind_some hm
    refine rg [1, 1, 1, 1, 0, 1, 0, 0] ?_
    refine seg [.l 3] [(53, .pointer (some ⟨bx0, 0, none⟩))] [] ?_
    replace hj1_p0_l7 := (hj1_p0_l7.mono hMj1_5)
    replace hj1_p0_l8 := (hj1_p0_l8.mono hMj1_5)
    replace ej1_p0_15 := (ej1_p0_15.mono hMj1_5)
    refine g_call 54 [0, 2] (f63_ok (bx0 := bx0) (Ax0_15 := Ax0_15) (cx0_15 := cx0_15) _ _ htj1_7 (oS85_mk (cs := (cS85 ({ x0 with f0 := { x0.f0 with f1 := IntKind.i64.wrap (x0.f0.f1 + 1), f2 := x0.f0.f0, f3 := 1, f4 := 0, f7 := ([x0.f0.f0] : List Int), f10 := 0, f11 := t0_1022 } }) Ahx0_7 chx0_7 Ahx0_8 chx0_8 (some ⟨b0_903, 0, none⟩) 1 Ax0_15 cx0_15)) ({ x0 with f0 := { x0.f0 with f1 := IntKind.i64.wrap (x0.f0.f1 + 1), f2 := x0.f0.f0, f3 := 1, f4 := 0, f7 := ([x0.f0.f0] : List Int), f10 := 0, f11 := t0_1022 } }) rfl hj1_p0_l7 hj1_p0_l8 hj1_1 lj1_p0_l11 lj1_p0_l12) ej1_p0_15) ?_
    rintro _ Mj1_13 _ ⟨csj1_8, Aj1_10, cj1_11, rcj1_12, rfl, rfl, hj1_9, hj1_13⟩ hMj1_13
    obtain ⟨Ahj1_9_7, chj1_9_7, Ahj1_9_8, chj1_9_8, Ahj1_9_10, chj1_9_10, rfl, hj1_9_7, hj1_9_8, hj1_9_10, hj1_9_11, hj1_9_12⟩ := oS85_open hj1_9
    refine fin ?_
    obtain rfl := Option.some.inj hm
    exact rt (v := .tuple #[]) [0, 2] ⟨(cS85 tj1_7 Ahj1_9_7 chj1_9_7 Ahj1_9_8 chj1_9_8 Ahj1_9_10 chj1_9_10 Aj1_10 cj1_11), Aj1_10, cj1_11, rcj1_12, rfl, rfl, (oS85_mk (cs := (cS85 tj1_7 Ahj1_9_7 chj1_9_7 Ahj1_9_8 chj1_9_8 Ahj1_9_10 chj1_9_10 Aj1_10 cj1_11)) tj1_7 rfl hj1_9_7 hj1_9_8 hj1_9_10 hj1_9_11 hj1_9_12), hj1_13⟩
  · obtain ⟨tj1_14, htj1_14, hm⟩ := bind_some hm
    refine rg [1, 1, 1, 1, 1, 0] ?_
    refine seg [.p 3, .l 0] [(59, .agg (cS26 x0.f0.f5 Ahx0_7 chx0_7 Ahx0_8 chx0_8).toArray)] [] ?_
    replace hj1_p0_l7 := (hj1_p0_l7.mono hMj1_5)
    replace hj1_p0_l8 := (hj1_p0_l8.mono hMj1_5)
    refine g_call0 60 (f41_ok _ _ htj1_14 (kS26_mk (cs := (cS26 x0.f0.f5 Ahx0_7 chx0_7 Ahx0_8 chx0_8)) x0.f0.f5 rfl hj1_p0_l7 hj1_p0_l8)) ?_
    rintro _ _ _ ⟨rfl, rfl, rfl⟩ -
    refine seg [.p 3] [(61, .int .i64 tj1_14.1), (62, .int .i64 tj1_14.2)] [] ?_
    refine g_al 5 3 [.int .i64 0] fun bj1_15 => ?_
    refine g_al 6 3 [.int .i64 0] fun bj1_16 => ?_
    refine seg [.s 4, .s 5] [] [(4, .blk bj1_15 [.int .i64 tj1_14.1] 3), (5, .blk bj1_16 [.int .i64 tj1_14.2] 3)] ?_
    refine fin ?_
    obtain ⟨tj1_17, htj1_17, hm⟩ := bind_some hm
    refine rg [1, 1, 1, 1, 1, 1] ?_
    refine seg [.l 3, .p 1] [(63, .pointer (some ⟨bx0, 0, none⟩)), (64, .func (.func 85) #[] #[.pointer (some ⟨b0_1, 0, none⟩), .pointer (some ⟨bj1_15, 0, none⟩), .pointer (some ⟨bj1_16, 0, none⟩)])] [] ?_
    replace ej1_p0_15 := (ej1_p0_15.mono hMj1_5)
    refine g_call 65 [0, 2, 3, 4, 5] (f54v1_ok (bx0 := bx0) (Ax0_15 := Ax0_15) (cx0_15 := cx0_15) (bz1 := b0_1) (bz2 := bj1_15) (bz3 := bj1_16) _ _ _ _ htj1_17 (oS85_mk (cs := (cS85 ({ x0 with f0 := { x0.f0 with f1 := IntKind.i64.wrap (x0.f0.f1 + 1), f2 := x0.f0.f0, f3 := 1, f4 := 0, f7 := ([x0.f0.f0] : List Int), f10 := 0, f11 := t0_1022 } }) Ahx0_7 chx0_7 Ahx0_8 chx0_8 (some ⟨b0_903, 0, none⟩) 1 Ax0_15 cx0_15)) ({ x0 with f0 := { x0.f0 with f1 := IntKind.i64.wrap (x0.f0.f1 + 1), f2 := x0.f0.f0, f3 := 1, f4 := 0, f7 := ([x0.f0.f0] : List Int), f10 := 0, f11 := t0_1022 } }) rfl hj1_p0_l7 hj1_p0_l8 hj1_1 lj1_p0_l11 lj1_p0_l12) ej1_p0_15) ?_
    rintro _ Mj1_23 _ ⟨csj1_18, Aj1_20, cj1_21, rcj1_22, rfl, rfl, hj1_19, hj1_23⟩ hMj1_23
    obtain ⟨Ahj1_19_7, chj1_19_7, Ahj1_19_8, chj1_19_8, Ahj1_19_10, chj1_19_10, rfl, hj1_19_7, hj1_19_8, hj1_19_10, hj1_19_11, hj1_19_12⟩ := oS85_open hj1_19
    refine finE ?_
    obtain rfl := Option.some.inj hm
    exact re (v := .tuple #[]) [0, 2] ⟨(cS85 tj1_17 Ahj1_19_7 chj1_19_7 Ahj1_19_8 chj1_19_8 Ahj1_19_10 chj1_19_10 Aj1_20 cj1_21), Aj1_20, cj1_21, rcj1_22, rfl, rfl, (oS85_mk (cs := (cS85 tj1_17 Ahj1_19_7 chj1_19_7 Ahj1_19_8 chj1_19_8 Ahj1_19_10 chj1_19_10 Aj1_20 cj1_21)) tj1_17 rfl hj1_19_7 hj1_19_8 hj1_19_10 hj1_19_11 hj1_19_12), hj1_23⟩
theorem f58_ok {M : Mem} {bx0 : Nat} {csx0 : List Value} {Ax0_15 : Option Addr} {cx0_15 : Nat} {rcx0_15 : List Value} (x0 : S85) (x1 : Int) (r : S85) (hm : m58 x0 x1 = some r) (hx0 : (oS85 Ax0_15 cx0_15).rep M csx0 x0) (ex0_15 : Elems kS46 M rcx0_15 x0.f1) : FnOk Try.prog 58 [.pointer (some ⟨bx0, 0, none⟩), .int .i64 x1] M [.blk bx0 csx0 86, .row (.slice Ax0_15 x0.f1.length cx0_15) 47 17 x0.f1.length rcx0_15] (R58 M bx0 csx0 Ax0_15 x0 cx0_15 rcx0_15 r) := by
  obtain ⟨Ahx0_7, chx0_7, Ahx0_8, chx0_8, Ahx0_10, chx0_10, rfl, hx0_7, hx0_8, hx0_10, hx0_11, hx0_12⟩ := oS85_open hx0
  refine intro_ (c := c58) 66 Try.func58 fun w => ?_
  unfold m58 at hm
  refine rg [0] ?_
  refine g_bx 2 84 (.pointer (some ⟨bx0, 0, none⟩)) fun b0_1 => ?_
  refine fin ?_
  refine rs [1, 0] [.l 2, .p 3] [(4, .pointer (some ⟨bx0, 0, none⟩))] [] ?_
  refine rs [1, 1, 0] [.p 3, .l 0, .p 3, .s 0] [] [(0, .blk bx0 (cS85 ({ x0 with f0 := { x0.f0 with f1 := IntKind.i64.wrap (x0.f0.f1 + 1) } }) Ahx0_7 chx0_7 Ahx0_8 chx0_8 Ahx0_10 chx0_10 Ax0_15 cx0_15) 86)] ?_
  obtain ⟨t0_1022, ht0_1022, hm⟩ := bind_some hm
  refine rgD [1, 1, 1, 0] (PT.of [0, 4, 8, 12, 16, 20, 24, 28, 32, 37, 40, 44, 48, 53, 60] (.two 14 (PT.of [67, 68, 72, 79, 80, 84, 91, 92, 96, 103, 104, 108, 115, 116, 120, 127, 128, 132, 139] .dn) 16 (PT.of [68, 72] (.two 14 (PT.of [79, 80, 84, 91, 92, 96, 103, 104, 108, 115, 116, 120, 127, 128, 132, 139] .dn) 19 (PT.of [80, 84] (.two 14 (PT.of [91, 92, 96, 103, 104, 108, 115, 116, 120, 127, 128, 132, 139] .dn) 22 (PT.of [59, 92, 96, 103, 104, 108, 115, 116, 120, 127, 128, 132, 139] .dn))))))) [(9, 0), (13, 0)] [0] mixed plain_done ?_
  refine seg [.p 9, .l 0, .p 3, .l 0, .p 1] [(17, .pointer (some ⟨bx0, 0, none⟩)), (18, .pointer (some ⟨bx0, 0, none⟩)), (19, .pointer (some ⟨bx0, 0, none⟩)), (20, .pointer (some ⟨bx0, 0, none⟩)), (21, .pointer (some ⟨bx0, 0, none⟩)), (22, .pointer (some ⟨bx0, 0, none⟩)), (26, .int .i64 x0.f0.f0), (30, .int .i64 x0.f0.f0), (32, .int .i64 x1)] [] ?_
  refine g2 ?_ ?_
  · have e0_902 : Elems (kint .i64) M [.int .i64 x0.f0.f0] ([x0.f0.f0] : List Int) := (elCons (d := (kint .i64)) (M := M) (a := [.int .i64 x0.f0.f0]) (x := x0.f0.f0) rfl elNil)
    refine g_bs 31 3 1 1 [.int .i64 x0.f0.f0] fun b0_903 => ?_
    refine g_call0 33 (f29_ok (M := M) _ _ ht0_1022) ?_
    rintro _ _ _ ⟨rfl, rfl, rfl⟩ -
    refine seg [.p 2, .s 0, .p 2, .s 0, .p 2, .s 0, .p 2, .s 0, .p 2, .s 0, .p 2, .s 0] [] [(0, .blk bx0 (cS85 ({ x0 with f0 := { x0.f0 with f1 := IntKind.i64.wrap (x0.f0.f1 + 1), f2 := x0.f0.f0, f3 := 1, f4 := 0, f7 := ([x0.f0.f0] : List Int), f10 := 0, f11 := t0_1022 } }) Ahx0_7 chx0_7 Ahx0_8 chx0_8 (some ⟨b0_903, 0, none⟩) 1 Ax0_15 cx0_15) 86)] ?_
    refine fin ?_
    exact to [0, 3, 1, 2] (@f58_j1 _ _ _ M rcx0_15 b0_1 b0_903 bx0 chx0_10 chx0_7 chx0_8 cx0_15 Ahx0_10 Ahx0_7 Ahx0_8 Ax0_15 _ _ hm hx0_7 hx0_8 hx0_11 hx0_12 e0_902 ex0_15)
  · refine g_call0 33 (f29_ok (M := M) _ _ ht0_1022) ?_
    rintro _ _ _ ⟨rfl, rfl, rfl⟩ -
    refine seg [.p 2] [(35, .pointer (some ⟨bx0, 3, none⟩))] [] ?_
    refine g2 ?_ ?_
    · have e0_902 : Elems (kint .i64) M [.int .i64 x0.f0.f0] ([x0.f0.f0] : List Int) := (elCons (d := (kint .i64)) (M := M) (a := [.int .i64 x0.f0.f0]) (x := x0.f0.f0) rfl elNil)
      refine g_bs 31 3 1 1 [.int .i64 x0.f0.f0] fun b0_903 => ?_
      refine seg [.s 0, .p 2, .s 0, .p 2, .s 0, .p 2, .s 0, .p 2, .s 0, .p 2, .s 0] [] [(0, .blk bx0 (cS85 ({ x0 with f0 := { x0.f0 with f1 := IntKind.i64.wrap (x0.f0.f1 + 1), f2 := x0.f0.f0, f3 := 1, f4 := 0, f7 := ([x0.f0.f0] : List Int), f10 := 0, f11 := t0_1022 } }) Ahx0_7 chx0_7 Ahx0_8 chx0_8 (some ⟨b0_903, 0, none⟩) 1 Ax0_15 cx0_15) 86)] ?_
      refine fin ?_
      exact to [0, 3, 1, 2] (@f58_j1 _ _ _ M rcx0_15 b0_1 b0_903 bx0 chx0_10 chx0_7 chx0_8 cx0_15 Ahx0_10 Ahx0_7 Ahx0_8 Ax0_15 _ _ hm hx0_7 hx0_8 hx0_11 hx0_12 e0_902 ex0_15)
    · refine seg [.s 0, .p 2] [(37, .pointer (some ⟨bx0, 2, none⟩))] [(0, .blk bx0 (cS85 ({ x0 with f0 := { x0.f0 with f1 := IntKind.i64.wrap (x0.f0.f1 + 1), f3 := 1 } }) Ahx0_7 chx0_7 Ahx0_8 chx0_8 Ahx0_10 chx0_10 Ax0_15 cx0_15) 86)] ?_
      refine g2 ?_ ?_
      · have e0_902 : Elems (kint .i64) M [.int .i64 x0.f0.f0] ([x0.f0.f0] : List Int) := (elCons (d := (kint .i64)) (M := M) (a := [.int .i64 x0.f0.f0]) (x := x0.f0.f0) rfl elNil)
        refine g_bs 31 3 1 1 [.int .i64 x0.f0.f0] fun b0_903 => ?_
        refine seg [.s 0, .p 2, .s 0, .p 2, .s 0, .p 2, .s 0, .p 2, .s 0] [] [(0, .blk bx0 (cS85 ({ x0 with f0 := { x0.f0 with f1 := IntKind.i64.wrap (x0.f0.f1 + 1), f2 := x0.f0.f0, f3 := 1, f4 := 0, f7 := ([x0.f0.f0] : List Int), f10 := 0, f11 := t0_1022 } }) Ahx0_7 chx0_7 Ahx0_8 chx0_8 (some ⟨b0_903, 0, none⟩) 1 Ax0_15 cx0_15) 86)] ?_
        refine fin ?_
        exact to [0, 3, 1, 2] (@f58_j1 _ _ _ M rcx0_15 b0_1 b0_903 bx0 chx0_10 chx0_7 chx0_8 cx0_15 Ahx0_10 Ahx0_7 Ahx0_8 Ax0_15 _ _ hm hx0_7 hx0_8 hx0_11 hx0_12 e0_902 ex0_15)
      · refine seg [.s 0] [] [(0, .blk bx0 (cS85 ({ x0 with f0 := { x0.f0 with f1 := IntKind.i64.wrap (x0.f0.f1 + 1), f2 := x0.f0.f0, f3 := 1 } }) Ahx0_7 chx0_7 Ahx0_8 chx0_8 Ahx0_10 chx0_10 Ax0_15 cx0_15) 86)] ?_
        have e0_902 : Elems (kint .i64) M [.int .i64 x0.f0.f0] ([x0.f0.f0] : List Int) := (elCons (d := (kint .i64)) (M := M) (a := [.int .i64 x0.f0.f0]) (x := x0.f0.f0) rfl elNil)
        refine g_bs 31 3 1 1 [.int .i64 x0.f0.f0] fun b0_903 => ?_
        refine seg [.p 2, .s 0, .p 2, .s 0, .p 2, .s 0, .p 2, .s 0] [] [(0, .blk bx0 (cS85 ({ x0 with f0 := { x0.f0 with f1 := IntKind.i64.wrap (x0.f0.f1 + 1), f2 := x0.f0.f0, f3 := 1, f4 := 0, f7 := ([x0.f0.f0] : List Int), f10 := 0, f11 := t0_1022 } }) Ahx0_7 chx0_7 Ahx0_8 chx0_8 (some ⟨b0_903, 0, none⟩) 1 Ax0_15 cx0_15) 86)] ?_
        refine fin ?_
        exact to [0, 3, 1, 2] (@f58_j1 _ _ _ M rcx0_15 b0_1 b0_903 bx0 chx0_10 chx0_7 chx0_8 cx0_15 Ahx0_10 Ahx0_7 Ahx0_8 Ax0_15 _ _ hm hx0_7 hx0_8 hx0_11 hx0_12 e0_902 ex0_15)

/-! ## (heartwood/raft.stepper).tick -/
/-- (heartwood/raft.stepper).tick: what is left behind a call. -/
abbrev R34 (M : Mem) (bx0 : Nat) (csx0 : List Value) (Ax0_15 : Option Addr) (x0 : S85) (cx0_15 : Nat) (rcx0_15 : List Value) (r : S85) : Value → Mem → List Res → Prop := fun v M' H' => ∃ (q0 : List Value) (w0_15 : Option Addr) (y0_15 : Nat) (z0_15 : List Value), .tuple #[] = v ∧ H' = [.blk bx0 q0 86, .row (.slice w0_15 r.f1.length y0_15) 47 17 r.f1.length z0_15] ∧ (oS85 w0_15 y0_15).rep M' q0 r ∧ Elems kS46 M' z0_15 r.f1
noncomputable def c34 : Code := match Try.f34.body with | some c => c | none => .skip
abbrev C34 (w0 : World) (M0 : Mem) (bx0 : Nat) (x0 : S85) (Ahx0_7 : Option Addr) (chx0_7 : Nat) (Ahx0_8 : Option Addr) (chx0_8 : Nat) (Ahx0_10 : Option Addr) (chx0_10 : Nat) (Ax0_15 : Option Addr) (cx0_15 : Nat) (rcx0_15 : List Value) : Ctx := ⟨64, w0, M0, [.blk bx0 (cS85 x0 Ahx0_7 chx0_7 Ahx0_8 chx0_8 Ahx0_10 chx0_10 Ax0_15 cx0_15) 86, .row (.slice Ax0_15 x0.f1.length cx0_15) 47 17 x0.f1.length rcx0_15]⟩
abbrev D34 (w0 : World) (M0 : Mem) (r : S85) (bx0 : Nat) (x0 : S85) (Ahx0_7 : Option Addr) (chx0_7 : Nat) (Ahx0_8 : Option Addr) (chx0_8 : Nat) (Ahx0_10 : Option Addr) (chx0_10 : Nat) (Ax0_15 : Option Addr) (cx0_15 : Nat) (rcx0_15 : List Value) : Post := Done Try.prog Try.f34 (C34 w0 M0 bx0 x0 Ahx0_7 chx0_7 Ahx0_8 chx0_8 Ahx0_10 chx0_10 Ax0_15 cx0_15 rcx0_15) (R34 M0 bx0 (cS85 x0 Ahx0_7 chx0_7 Ahx0_8 chx0_8 Ahx0_10 chx0_10 Ax0_15 cx0_15) Ax0_15 x0 cx0_15 rcx0_15 r)
theorem f34_j1 {w0 : World} {M0 : Mem} {r : S85} : ∀ {M : Mem} {rcx0_15 : List Value} {bx0 chx0_10 chx0_7 chx0_8 cx0_15 : Nat} {Ahx0_10 Ahx0_7 Ahx0_8 Ax0_15 : Option Addr} (xj1_s35 : Bool) (x1 : Int) (x0 : S85) (_ : m34_j1 xj1_s35 x1 x0 = some r) (_ : SlAt (kint .i64) M Ahx0_7 chx0_7 x0.f0.f5.f0.f2) (_ : SlAt kS80 M Ahx0_8 chx0_8 x0.f0.f5.f1) (_ : SlAt (kint .i64) M Ahx0_10 chx0_10 x0.f0.f7) (_ : x0.f0.f8.length = 8) (_ : x0.f0.f9.length = 8) (_ : Elems kS46 M rcx0_15 x0.f1), AG Try.prog c34 [1, 1, 0, 1, 1, 1] (D34 w0 M0 r bx0 x0 Ahx0_7 chx0_7 Ahx0_8 chx0_8 Ahx0_10 chx0_10 Ax0_15 cx0_15 rcx0_15) (C34 w0 M0 bx0 x0 Ahx0_7 chx0_7 Ahx0_8 chx0_8 Ahx0_10 chx0_10 Ax0_15 cx0_15 rcx0_15) (env [(0, .pointer (some ⟨bx0, 0, none⟩)), (1, .int .i64 x1), (35, .bool xj1_s35)]) M [.blk bx0 (cS85 ({ x0 with f0 := { x0.f0 with f10 := (if 1152921504606846976 < IntKind.i64.wrap (x0.f0.f10 + 1) then 1152921504606846976 else IntKind.i64.wrap (x0.f0.f10 + 1)) } }) Ahx0_7 chx0_7 Ahx0_8 chx0_8 Ahx0_10 chx0_10 Ax0_15 cx0_15) 86, .row (.slice Ax0_15 x0.f1.length cx0_15) 47 17 x0.f1.length rcx0_15] := by
  intro M rcx0_15 bx0 chx0_10 chx0_7 chx0_8 cx0_15 Ahx0_10 Ahx0_7 Ahx0_8 Ax0_15 xj1_s35 x1 x0 hm hj1_p0_l7 hj1_p0_l8 hj1_p0_l10 lj1_p0_l11 lj1_p0_l12 ej1_p0_15; unfold m34_j1 at hm
  refine gi [1, 1, 0, 1, 1, 1] hm (fun hm => ?_) fun hm => ?_
  · obtain ⟨tj1_1, htj1_1, hm⟩ := bind_some hm
    refine rg [1, 1, 0, 1, 1, 1, 0] ?_
    refine seg [.p 2] [(61, .pointer (some ⟨bx0, 0, none⟩)), (62, .int .i64 x1)] [] ?_
    refine g_call 63 [0, 1] (f58_ok (bx0 := bx0) (Ax0_15 := Ax0_15) (cx0_15 := cx0_15) _ _ _ htj1_1 (oS85_mk (cs := (cS85 ({ x0 with f0 := { x0.f0 with f10 := (if 1152921504606846976 < IntKind.i64.wrap (x0.f0.f10 + 1) then 1152921504606846976 else IntKind.i64.wrap (x0.f0.f10 + 1)) } }) Ahx0_7 chx0_7 Ahx0_8 chx0_8 Ahx0_10 chx0_10 Ax0_15 cx0_15)) ({ x0 with f0 := { x0.f0 with f10 := (if 1152921504606846976 < IntKind.i64.wrap (x0.f0.f10 + 1) then 1152921504606846976 else IntKind.i64.wrap (x0.f0.f10 + 1)) } }) rfl hj1_p0_l7 hj1_p0_l8 hj1_p0_l10 lj1_p0_l11 lj1_p0_l12) ej1_p0_15) ?_
    rintro _ Mj1_7 _ ⟨csj1_2, Aj1_4, cj1_5, rcj1_6, rfl, rfl, hj1_3, hj1_7⟩ hMj1_7
    obtain ⟨Ahj1_3_7, chj1_3_7, Ahj1_3_8, chj1_3_8, Ahj1_3_10, chj1_3_10, rfl, hj1_3_7, hj1_3_8, hj1_3_10, hj1_3_11, hj1_3_12⟩ := oS85_open hj1_3
    refine finE ?_
    obtain rfl := Option.some.inj hm
    exact re (v := .tuple #[]) [0, 1] ⟨(cS85 tj1_1 Ahj1_3_7 chj1_3_7 Ahj1_3_8 chj1_3_8 Ahj1_3_10 chj1_3_10 Aj1_4 cj1_5), Aj1_4, cj1_5, rcj1_6, rfl, rfl, (oS85_mk (cs := (cS85 tj1_1 Ahj1_3_7 chj1_3_7 Ahj1_3_8 chj1_3_8 Ahj1_3_10 chj1_3_10 Aj1_4 cj1_5)) tj1_1 rfl hj1_3_7 hj1_3_8 hj1_3_10 hj1_3_11 hj1_3_12), hj1_7⟩
  · refine en ?_
    obtain rfl := Option.some.inj hm
    exact re (v := .tuple #[]) [0, 1] ⟨(cS85 ({ x0 with f0 := { x0.f0 with f10 := (if 1152921504606846976 < IntKind.i64.wrap (x0.f0.f10 + 1) then 1152921504606846976 else IntKind.i64.wrap (x0.f0.f10 + 1)) } }) Ahx0_7 chx0_7 Ahx0_8 chx0_8 Ahx0_10 chx0_10 Ax0_15 cx0_15), Ax0_15, cx0_15, rcx0_15, rfl, rfl, (oS85_mk (cs := (cS85 ({ x0 with f0 := { x0.f0 with f10 := (if 1152921504606846976 < IntKind.i64.wrap (x0.f0.f10 + 1) then 1152921504606846976 else IntKind.i64.wrap (x0.f0.f10 + 1)) } }) Ahx0_7 chx0_7 Ahx0_8 chx0_8 Ahx0_10 chx0_10 Ax0_15 cx0_15)) ({ x0 with f0 := { x0.f0 with f10 := (if 1152921504606846976 < IntKind.i64.wrap (x0.f0.f10 + 1) then 1152921504606846976 else IntKind.i64.wrap (x0.f0.f10 + 1)) } }) rfl hj1_p0_l7 hj1_p0_l8 hj1_p0_l10 lj1_p0_l11 lj1_p0_l12), ej1_p0_15⟩
theorem f34_ok {M : Mem} {bx0 : Nat} {csx0 : List Value} {Ax0_15 : Option Addr} {cx0_15 : Nat} {rcx0_15 : List Value} (x0 : S85) (x1 : Int) (r : S85) (hm : m34 x0 x1 = some r) (hx0 : (oS85 Ax0_15 cx0_15).rep M csx0 x0) (ex0_15 : Elems kS46 M rcx0_15 x0.f1) : FnOk Try.prog 34 [.pointer (some ⟨bx0, 0, none⟩), .int .i64 x1] M [.blk bx0 csx0 86, .row (.slice Ax0_15 x0.f1.length cx0_15) 47 17 x0.f1.length rcx0_15] (R34 M bx0 csx0 Ax0_15 x0 cx0_15 rcx0_15 r) := by
  obtain ⟨Ahx0_7, chx0_7, Ahx0_8, chx0_8, Ahx0_10, chx0_10, rfl, hx0_7, hx0_8, hx0_10, hx0_11, hx0_12⟩ := oS85_open hx0
  refine intro_ (c := c34) 64 Try.func34 fun w => ?_
  unfold m34 at hm
  refine rs [0] [.p 4] [(4, .pointer (some ⟨bx0, 0, none⟩))] [] ?_
  refine rs [1, 0] [.p 4, .l 0, .p 4, .s 0] [] [(0, .blk bx0 (cS85 ({ x0 with f0 := { x0.f0 with f10 := (if 1152921504606846976 < IntKind.i64.wrap (x0.f0.f10 + 1) then 1152921504606846976 else IntKind.i64.wrap (x0.f0.f10 + 1)) } }) Ahx0_7 chx0_7 Ahx0_8 chx0_8 Ahx0_10 chx0_10 Ax0_15 cx0_15) 86)] ?_
  refine rs [1, 1, 0, 0] [.p 3, .l 0, .p 2] [(17, .bool ((x0.f0.f3 : Int) == 2))] [] ?_
  refine gi [1, 1, 0, 1] hm (fun hm => ?_) fun hm => ?_
  · refine rs [1, 1, 0, 1, 0, 0] [.p 3, .l 0, .p 1] [(27, .bool (decide (((if 1152921504606846976 < IntKind.i64.wrap (x0.f0.f10 + 1) then 1152921504606846976 else IntKind.i64.wrap (x0.f0.f10 + 1)) : Int) ≥ 2)))] [] ?_
    refine gi [1, 1, 0, 1, 0, 1] hm (fun hm => ?_) fun hm => ?_
    · refine rs [1, 1, 0, 1, 0, 1, 0, 0] [.p 3, .s 0] [] [(0, .blk bx0 (cS85 ({ x0 with f0 := { x0.f0 with f10 := 0 } }) Ahx0_7 chx0_7 Ahx0_8 chx0_8 Ahx0_10 chx0_10 Ax0_15 cx0_15) 86)] ?_
      obtain ⟨t0_1, ht0_1, hm⟩ := bind_some hm
      refine rg [1, 1, 0, 1, 0, 1, 0, 1] ?_
      refine seg [.p 3] [(31, .pointer (some ⟨bx0, 0, none⟩)), (33, .func (.func 55) #[.pointer (some ⟨bx0, 0, none⟩)] #[])] [] ?_
      refine g_call 34 [0, 1] (f54_ok (bx0 := bx0) (Ax0_15 := Ax0_15) (cx0_15 := cx0_15) _ _ ht0_1 (oS85_mk (cs := (cS85 ({ x0 with f0 := { x0.f0 with f10 := 0 } }) Ahx0_7 chx0_7 Ahx0_8 chx0_8 Ahx0_10 chx0_10 Ax0_15 cx0_15)) ({ x0 with f0 := { x0.f0 with f10 := 0 } }) rfl hx0_7 hx0_8 hx0_10 hx0_11 hx0_12) ex0_15) ?_
      rintro _ M0_7 _ ⟨cs0_2, A0_4, c0_5, rc0_6, rfl, rfl, h0_3, h0_7⟩ hM0_7
      obtain ⟨Ah0_3_7, ch0_3_7, Ah0_3_8, ch0_3_8, Ah0_3_10, ch0_3_10, rfl, h0_3_7, h0_3_8, h0_3_10, h0_3_11, h0_3_12⟩ := oS85_open h0_3
      refine finE ?_
      obtain rfl := Option.some.inj hm
      exact re (v := .tuple #[]) [0, 1] ⟨(cS85 t0_1 Ah0_3_7 ch0_3_7 Ah0_3_8 ch0_3_8 Ah0_3_10 ch0_3_10 A0_4 c0_5), A0_4, c0_5, rc0_6, rfl, rfl, (oS85_mk (cs := (cS85 t0_1 Ah0_3_7 ch0_3_7 Ah0_3_8 ch0_3_8 Ah0_3_10 ch0_3_10 A0_4 c0_5)) t0_1 rfl h0_3_7 h0_3_8 h0_3_10 h0_3_11 h0_3_12), h0_7⟩
    · refine en ?_
      obtain rfl := Option.some.inj hm
      exact re (v := .tuple #[]) [0, 1] ⟨(cS85 ({ x0 with f0 := { x0.f0 with f10 := (if 1152921504606846976 < IntKind.i64.wrap (x0.f0.f10 + 1) then 1152921504606846976 else IntKind.i64.wrap (x0.f0.f10 + 1)) } }) Ahx0_7 chx0_7 Ahx0_8 chx0_8 Ahx0_10 chx0_10 Ax0_15 cx0_15), Ax0_15, cx0_15, rcx0_15, rfl, rfl, (oS85_mk (cs := (cS85 ({ x0 with f0 := { x0.f0 with f10 := (if 1152921504606846976 < IntKind.i64.wrap (x0.f0.f10 + 1) then 1152921504606846976 else IntKind.i64.wrap (x0.f0.f10 + 1)) } }) Ahx0_7 chx0_7 Ahx0_8 chx0_8 Ahx0_10 chx0_10 Ax0_15 cx0_15)) ({ x0 with f0 := { x0.f0 with f10 := (if 1152921504606846976 < IntKind.i64.wrap (x0.f0.f10 + 1) then 1152921504606846976 else IntKind.i64.wrap (x0.f0.f10 + 1)) } }) rfl hx0_7 hx0_8 hx0_10 hx0_11 hx0_12), ex0_15⟩
  · refine rgD [1, 1, 0, 1, 1, 0] (PT.of [0, 4, 8, 13, 16, 20, 24, 29, 32, 36, 40, 48, 52, 56, 61, 47, 67, 68, 72, 76, 80, 84, 89, 92, 96, 100] .dn) [(3, 0), (7, 0), (15, 0), (22, 0)] [0] mixed plain_done ?_
    refine seg [.p 3, .l 0, .p 3, .l 0, .p 2] [(45, .bool (decide (((if 1152921504606846976 < IntKind.i64.wrap (x0.f0.f10 + 1) then 1152921504606846976 else IntKind.i64.wrap (x0.f0.f10 + 1)) : Int) ≥ x0.f0.f11)))] [] ?_
    refine gs 45 hm (fun hm => ?_) fun hm => ?_
    · obtain ⟨t0_8, ht0_8, hm⟩ := bind_some hm
      refine seg [.p 4, .l 0] [(46, .pointer (some ⟨bx0, 0, none⟩)), (51, .int .i64 x0.f0.f0)] [] ?_
      refine g_callK 47 [0, 1] (f57_ok (bx0 := bx0) (Ax0_15 := Ax0_15) (cx0_15 := cx0_15) _ _ ht0_8 (oS85_mk (cs := (cS85 ({ x0 with f0 := { x0.f0 with f10 := (if 1152921504606846976 < IntKind.i64.wrap (x0.f0.f10 + 1) then 1152921504606846976 else IntKind.i64.wrap (x0.f0.f10 + 1)) } }) Ahx0_7 chx0_7 Ahx0_8 chx0_8 Ahx0_10 chx0_10 Ax0_15 cx0_15)) ({ x0 with f0 := { x0.f0 with f10 := (if 1152921504606846976 < IntKind.i64.wrap (x0.f0.f10 + 1) then 1152921504606846976 else IntKind.i64.wrap (x0.f0.f10 + 1)) } }) rfl hx0_7 hx0_8 hx0_10 hx0_11 hx0_12) ex0_15) (by rintro _ _ _ ⟨_, _, rfl, rfl, _⟩; rfl) ?_
      rintro _ M0_11 _ ⟨A0_9, c0_10, rfl, rfl, h0_11⟩ hM0_11
      obtain ⟨t0_12, ht0_12, hm⟩ := bind_some hm
      refine g_call0 52 (f56_ok _ _ _ ht0_12 h0_11) ?_
      rintro _ _ _ ⟨rfl, rfl, rfl⟩ -
      refine seg [.p 2] [(54, .bool t0_12)] [] ?_
      refine gs 54 hm (fun hm => ?_) fun hm => ?_
      · refine seg [.p 3, .l 0, .p 3] [(35, .bool (decide ((x0.f0.f1 : Int) < 1152921504606846976)))] [] ?_
        refine fin ?_
        replace hx0_7 := (hx0_7.mono hM0_11)
        replace hx0_8 := (hx0_8.mono hM0_11)
        replace hx0_10 := (hx0_10.mono hM0_11)
        replace ex0_15 := (ex0_15.mono hM0_11)
        exact to [0, 1] (@f34_j1 _ _ _ M0_11 rcx0_15 bx0 chx0_10 chx0_7 chx0_8 cx0_15 Ahx0_10 Ahx0_7 Ahx0_8 Ax0_15 _ _ _ hm hx0_7 hx0_8 hx0_10 hx0_11 hx0_12 ex0_15)
      · refine seg [.p 7] [(35, .bool false)] [] ?_
        refine fin ?_
        replace hx0_7 := (hx0_7.mono hM0_11)
        replace hx0_8 := (hx0_8.mono hM0_11)
        replace hx0_10 := (hx0_10.mono hM0_11)
        replace ex0_15 := (ex0_15.mono hM0_11)
        exact to [0, 1] (@f34_j1 _ _ _ M0_11 rcx0_15 bx0 chx0_10 chx0_7 chx0_8 cx0_15 Ahx0_10 Ahx0_7 Ahx0_8 Ax0_15 _ _ _ hm hx0_7 hx0_8 hx0_10 hx0_11 hx0_12 ex0_15)
    · refine seg [.p 16] [(35, .bool false)] [] ?_
      refine fin ?_
      exact to [0, 1] (@f34_j1 _ _ _ M rcx0_15 bx0 chx0_10 chx0_7 chx0_8 cx0_15 Ahx0_10 Ahx0_7 Ahx0_8 Ax0_15 _ _ _ hm hx0_7 hx0_8 hx0_10 hx0_11 hx0_12 ex0_15)

/-! ## (heartwood/raft.stepper).ask -/
/-- (heartwood/raft.stepper).ask: what is left behind a call. -/
abbrev R60 (M : Mem) (bx0 : Nat) (csx0 : List Value) (Ax0_15 : Option Addr) (x0 : S85) (cx0_15 : Nat) (rcx0_15 : List Value) (r : S85) : Value → Mem → List Res → Prop := fun v M' H' => ∃ (q0 : List Value) (w0_15 : Option Addr) (y0_15 : Nat) (z0_15 : List Value), .tuple #[] = v ∧ H' = [.blk bx0 q0 86, .row (.slice w0_15 r.f1.length y0_15) 47 17 r.f1.length z0_15] ∧ (oS85 w0_15 y0_15).rep M' q0 r ∧ Elems kS46 M' z0_15 r.f1
noncomputable def c60 : Code := match Try.f60.body with | some c => c | none => .skip
abbrev C60 (w0 : World) (M0 : Mem) (bx0 : Nat) (x0 : S85) (Ahx0_7 : Option Addr) (chx0_7 : Nat) (Ahx0_8 : Option Addr) (chx0_8 : Nat) (Ahx0_10 : Option Addr) (chx0_10 : Nat) (Ax0_15 : Option Addr) (cx0_15 : Nat) (rcx0_15 : List Value) : Ctx := ⟨73, w0, M0, [.blk bx0 (cS85 x0 Ahx0_7 chx0_7 Ahx0_8 chx0_8 Ahx0_10 chx0_10 Ax0_15 cx0_15) 86, .row (.slice Ax0_15 x0.f1.length cx0_15) 47 17 x0.f1.length rcx0_15]⟩
abbrev D60 (w0 : World) (M0 : Mem) (r : S85) (bx0 : Nat) (x0 : S85) (Ahx0_7 : Option Addr) (chx0_7 : Nat) (Ahx0_8 : Option Addr) (chx0_8 : Nat) (Ahx0_10 : Option Addr) (chx0_10 : Nat) (Ax0_15 : Option Addr) (cx0_15 : Nat) (rcx0_15 : List Value) : Post := Done Try.prog Try.f60 (C60 w0 M0 bx0 x0 Ahx0_7 chx0_7 Ahx0_8 chx0_8 Ahx0_10 chx0_10 Ax0_15 cx0_15 rcx0_15) (R60 M0 bx0 (cS85 x0 Ahx0_7 chx0_7 Ahx0_8 chx0_8 Ahx0_10 chx0_10 Ax0_15 cx0_15) Ax0_15 x0 cx0_15 rcx0_15 r)
theorem f60_j2 {w0 : World} {M0 : Mem} {r : S85} : ∀ {M : Mem} {rcx0_15 : List Value} {b0_1 bx0 chx0_10 chx0_7 chx0_8 chx1_11 chx1_13 chx1_14 chx1_15 chx1_8 chx1_9 cx0_15 : Nat} {Ahx0_10 Ahx0_7 Ahx0_8 Ahx1_11 Ahx1_13 Ahx1_14 Ahx1_15 Ahx1_8 Ahx1_9 Ax0_15 : Option Addr} (xj1_s7 : Bool) (xj2_p0_l13 xj2_p0_l2 : Int) (x1 : S46) (x0 : S85) (_ : m60_j2 xj1_s7 xj2_p0_l13 xj2_p0_l2 x1 x0 = some r) (_ : SlAt (kint .i64) M Ahx0_7 chx0_7 x0.f0.f5.f0.f2) (_ : SlAt kS80 M Ahx0_8 chx0_8 x0.f0.f5.f1) (_ : SlAt (kint .i64) M Ahx0_10 chx0_10 x0.f0.f7) (_ : x0.f0.f8.length = 8) (_ : x0.f0.f9.length = 8) (_ : Elems kS46 M rcx0_15 x0.f1) (_ : SlAt kS80 M Ahx1_8 chx1_8 x1.f8) (_ : SlAt (kint .i64) M Ahx1_9 chx1_9 x1.f9) (_ : SlAt (kint .u8) M Ahx1_11 chx1_11 x1.f11) (_ : SlAt (kint .u8) M Ahx1_13 chx1_13 x1.f12.f1) (_ : SlAt (kint .u8) M Ahx1_14 chx1_14 x1.f12.f2) (_ : SlAt (kint .u8) M Ahx1_15 chx1_15 x1.f12.f3) (_ : Value.oneCell' x1.f12.f4 = true), AG Try.prog c60 [1, 1, 1, 1, 1] (D60 w0 M0 r bx0 x0 Ahx0_7 chx0_7 Ahx0_8 chx0_8 Ahx0_10 chx0_10 Ax0_15 cx0_15 rcx0_15) (C60 w0 M0 bx0 x0 Ahx0_7 chx0_7 Ahx0_8 chx0_8 Ahx0_10 chx0_10 Ax0_15 cx0_15 rcx0_15) (env [(0, .pointer (some ⟨bx0, 0, none⟩)), (3, .pointer (some ⟨b0_1, 0, none⟩)), (7, .bool xj1_s7)]) M [.blk bx0 (cS85 ({ x0 with f0 := { x0.f0 with f2 := xj2_p0_l2, f10 := xj2_p0_l13 } }) Ahx0_7 chx0_7 Ahx0_8 chx0_8 Ahx0_10 chx0_10 Ax0_15 cx0_15) 86, .row (.slice Ax0_15 x0.f1.length cx0_15) 47 17 x0.f1.length rcx0_15, .blk b0_1 (cS46 x1 Ahx1_8 chx1_8 Ahx1_9 chx1_9 Ahx1_11 chx1_11 Ahx1_13 chx1_13 Ahx1_14 chx1_14 Ahx1_15 chx1_15) 47] := by
  intro M rcx0_15 b0_1 bx0 chx0_10 chx0_7 chx0_8 chx1_11 chx1_13 chx1_14 chx1_15 chx1_8 chx1_9 cx0_15 Ahx0_10 Ahx0_7 Ahx0_8 Ahx1_11 Ahx1_13 Ahx1_14 Ahx1_15 Ahx1_8 Ahx1_9 Ax0_15 xj1_s7 xj2_p0_l13 xj2_p0_l2 x1 x0 hm hj2_p0_l7 hj2_p0_l8 hj2_p0_l10 lj2_p0_l11 lj2_p0_l12 ej2_p0_15 hj2_0_0_l8 hj2_0_0_l9 hj2_0_0_l11 hj2_0_0_l13 hj2_0_0_l14 hj2_0_0_l15 oj2_0_0_l16; unfold m60_j2 at hm
  obtain ⟨tj2_1, htj2_1, hm⟩ := bind_some hm
  refine rg [1, 1, 1, 1, 1] ?_
  refine seg [.p 2, .l 2, .p 1, .b] [(67, .pointer (some ⟨bx0, 0, none⟩)), (69, .int .i64 x1.f1), (71, .agg (cS46 (S46.mk 2 0 0 0 0 0 0 xj1_s7 [] [] 0 [] (S44.mk 0 [] [] [] (.slice none 0 0))) none 0 none 0 none 0 none 0 none 0 none 0).toArray)] [] ?_
  refine g_call 72 [0, 1] (f59_ok (bx0 := bx0) (Ax0_15 := Ax0_15) (cx0_15 := cx0_15) _ _ _ _ htj2_1 (oS85_mk (cs := (cS85 ({ x0 with f0 := { x0.f0 with f2 := xj2_p0_l2, f10 := xj2_p0_l13 } }) Ahx0_7 chx0_7 Ahx0_8 chx0_8 Ahx0_10 chx0_10 Ax0_15 cx0_15)) ({ x0 with f0 := { x0.f0 with f2 := xj2_p0_l2, f10 := xj2_p0_l13 } }) rfl hj2_p0_l7 hj2_p0_l8 hj2_p0_l10 lj2_p0_l11 lj2_p0_l12) ej2_p0_15 (kS46_mk (cs := (cS46 (S46.mk 2 0 0 0 0 0 0 xj1_s7 [] [] 0 [] (S44.mk 0 [] [] [] (.slice none 0 0))) none 0 none 0 none 0 none 0 none 0 none 0)) (S46.mk 2 0 0 0 0 0 0 xj1_s7 [] [] 0 [] (S44.mk 0 [] [] [] (.slice none 0 0))) rfl slNil slNil slNil slNil slNil slNil rfl)) ?_
  rintro _ Mj2_7 _ ⟨csj2_2, Aj2_4, cj2_5, rcj2_6, rfl, rfl, hj2_3, hj2_7⟩ hMj2_7
  obtain ⟨Ahj2_3_7, chj2_3_7, Ahj2_3_8, chj2_3_8, Ahj2_3_10, chj2_3_10, rfl, hj2_3_7, hj2_3_8, hj2_3_10, hj2_3_11, hj2_3_12⟩ := oS85_open hj2_3
  refine finE ?_
  obtain rfl := Option.some.inj hm
  exact re (v := .tuple #[]) [0, 1] ⟨(cS85 tj2_1 Ahj2_3_7 chj2_3_7 Ahj2_3_8 chj2_3_8 Ahj2_3_10 chj2_3_10 Aj2_4 cj2_5), Aj2_4, cj2_5, rcj2_6, rfl, rfl, (oS85_mk (cs := (cS85 tj2_1 Ahj2_3_7 chj2_3_7 Ahj2_3_8 chj2_3_8 Ahj2_3_10 chj2_3_10 Aj2_4 cj2_5)) tj2_1 rfl hj2_3_7 hj2_3_8 hj2_3_10 hj2_3_11 hj2_3_12), hj2_7⟩
theorem f60_j1 {w0 : World} {M0 : Mem} {r : S85} : ∀ {M : Mem} {rcx0_15 : List Value} {b0_1 bx0 chx0_10 chx0_7 chx0_8 chx1_11 chx1_13 chx1_14 chx1_15 chx1_8 chx1_9 cx0_15 : Nat} {Ahx0_10 Ahx0_7 Ahx0_8 Ahx1_11 Ahx1_13 Ahx1_14 Ahx1_15 Ahx1_8 Ahx1_9 Ax0_15 : Option Addr} (xj1_s7 : Bool) (x1 : S46) (x0 : S85) (_ : m60_j1 xj1_s7 x1 x0 = some r) (_ : SlAt (kint .i64) M Ahx0_7 chx0_7 x0.f0.f5.f0.f2) (_ : SlAt kS80 M Ahx0_8 chx0_8 x0.f0.f5.f1) (_ : SlAt (kint .i64) M Ahx0_10 chx0_10 x0.f0.f7) (_ : x0.f0.f8.length = 8) (_ : x0.f0.f9.length = 8) (_ : Elems kS46 M rcx0_15 x0.f1) (_ : SlAt kS80 M Ahx1_8 chx1_8 x1.f8) (_ : SlAt (kint .i64) M Ahx1_9 chx1_9 x1.f9) (_ : SlAt (kint .u8) M Ahx1_11 chx1_11 x1.f11) (_ : SlAt (kint .u8) M Ahx1_13 chx1_13 x1.f12.f1) (_ : SlAt (kint .u8) M Ahx1_14 chx1_14 x1.f12.f2) (_ : SlAt (kint .u8) M Ahx1_15 chx1_15 x1.f12.f3) (_ : Value.oneCell' x1.f12.f4 = true), AG Try.prog c60 [1, 1, 1, 1] (D60 w0 M0 r bx0 x0 Ahx0_7 chx0_7 Ahx0_8 chx0_8 Ahx0_10 chx0_10 Ax0_15 cx0_15 rcx0_15) (C60 w0 M0 bx0 x0 Ahx0_7 chx0_7 Ahx0_8 chx0_8 Ahx0_10 chx0_10 Ax0_15 cx0_15 rcx0_15) (env [(0, .pointer (some ⟨bx0, 0, none⟩)), (3, .pointer (some ⟨b0_1, 0, none⟩)), (4, .pointer (some ⟨bx0, 0, none⟩)), (7, .bool xj1_s7)]) M [.blk bx0 (cS85 x0 Ahx0_7 chx0_7 Ahx0_8 chx0_8 Ahx0_10 chx0_10 Ax0_15 cx0_15) 86, .row (.slice Ax0_15 x0.f1.length cx0_15) 47 17 x0.f1.length rcx0_15, .blk b0_1 (cS46 x1 Ahx1_8 chx1_8 Ahx1_9 chx1_9 Ahx1_11 chx1_11 Ahx1_13 chx1_13 Ahx1_14 chx1_14 Ahx1_15 chx1_15) 47] := by
  intro M rcx0_15 b0_1 bx0 chx0_10 chx0_7 chx0_8 chx1_11 chx1_13 chx1_14 chx1_15 chx1_8 chx1_9 cx0_15 Ahx0_10 Ahx0_7 Ahx0_8 Ahx1_11 Ahx1_13 Ahx1_14 Ahx1_15 Ahx1_8 Ahx1_9 Ax0_15 xj1_s7 x1 x0 hm hj1_p0_l7 hj1_p0_l8 hj1_p0_l10 lj1_p0_l11 lj1_p0_l12 ej1_p0_15 hj1_0_0_l8 hj1_0_0_l9 hj1_0_0_l11 hj1_0_0_l13 hj1_0_0_l14 hj1_0_0_l15 oj1_0_0_l16; unfold m60_j1 at hm
  refine rs [1, 1, 1, 1, 0, 0] [.p 1] [(58, .bool xj1_s7)] [] ?_
  refine gi [1, 1, 1, 1, 0, 1] hm (fun hm => ?_) fun hm => ?_
  · refine rs [1, 1, 1, 1, 0, 1, 0] [.p 3, .l 2, .p 2, .s 0, .p 2, .s 0] [] [(0, .blk bx0 (cS85 ({ x0 with f0 := { x0.f0 with f2 := x1.f1, f10 := 0 } }) Ahx0_7 chx0_7 Ahx0_8 chx0_8 Ahx0_10 chx0_10 Ax0_15 cx0_15) 86)] ?_
    exact to [0, 1, 2] (@f60_j2 _ _ _ M rcx0_15 b0_1 bx0 chx0_10 chx0_7 chx0_8 chx1_11 chx1_13 chx1_14 chx1_15 chx1_8 chx1_9 cx0_15 Ahx0_10 Ahx0_7 Ahx0_8 Ahx1_11 Ahx1_13 Ahx1_14 Ahx1_15 Ahx1_8 Ahx1_9 Ax0_15 _ _ _ _ _ hm hj1_p0_l7 hj1_p0_l8 hj1_p0_l10 lj1_p0_l11 lj1_p0_l12 ej1_p0_15 hj1_0_0_l8 hj1_0_0_l9 hj1_0_0_l11 hj1_0_0_l13 hj1_0_0_l14 hj1_0_0_l15 oj1_0_0_l16)
  · exact to [0, 1, 2] (@f60_j2 _ _ _ M rcx0_15 b0_1 bx0 chx0_10 chx0_7 chx0_8 chx1_11 chx1_13 chx1_14 chx1_15 chx1_8 chx1_9 cx0_15 Ahx0_10 Ahx0_7 Ahx0_8 Ahx1_11 Ahx1_13 Ahx1_14 Ahx1_15 Ahx1_8 Ahx1_9 Ax0_15 _ _ _ _ _ hm hj1_p0_l7 hj1_p0_l8 hj1_p0_l10 lj1_p0_l11 lj1_p0_l12 ej1_p0_15 hj1_0_0_l8 hj1_0_0_l9 hj1_0_0_l11 hj1_0_0_l13 hj1_0_0_l14 hj1_0_0_l15 oj1_0_0_l16)
theorem f60_ok {M : Mem} {bx0 : Nat} {csx0 : List Value} {Ax0_15 : Option Addr} {cx0_15 : Nat} {rcx0_15 : List Value} {csx1 : List Value} (x0 : S85) (x1 : S46) (r : S85) (hm : m60 x0 x1 = some r) (hx0 : (oS85 Ax0_15 cx0_15).rep M csx0 x0) (ex0_15 : Elems kS46 M rcx0_15 x0.f1) (hx1 : kS46.rep M csx1 x1) : FnOk Try.prog 60 [.pointer (some ⟨bx0, 0, none⟩), .agg csx1.toArray] M [.blk bx0 csx0 86, .row (.slice Ax0_15 x0.f1.length cx0_15) 47 17 x0.f1.length rcx0_15] (R60 M bx0 csx0 Ax0_15 x0 cx0_15 rcx0_15 r) := by
  obtain ⟨Ahx0_7, chx0_7, Ahx0_8, chx0_8, Ahx0_10, chx0_10, rfl, hx0_7, hx0_8, hx0_10, hx0_11, hx0_12⟩ := oS85_open hx0
  obtain ⟨Ahx1_8, chx1_8, Ahx1_9, chx1_9, Ahx1_11, chx1_11, Ahx1_13, chx1_13, Ahx1_14, chx1_14, Ahx1_15, chx1_15, rfl, hx1_8, hx1_9, hx1_11, hx1_13, hx1_14, hx1_15, hx1_16⟩ := kS46_open hx1
  refine intro_ (c := c60) 73 Try.func60 fun w => ?_
  unfold m60 at hm
  refine rg [0] ?_
  refine g_bx 3 47 (.agg (cS46 x1 Ahx1_8 chx1_8 Ahx1_9 chx1_9 Ahx1_11 chx1_11 Ahx1_13 chx1_13 Ahx1_14 chx1_14 Ahx1_15 chx1_15).toArray) fun b0_1 => ?_
  refine fin ?_
  refine rs [1, 0] [.p 4] [(4, .pointer (some ⟨bx0, 0, none⟩))] [] ?_
  obtain ⟨t0_2, ht0_2, hm⟩ := bind_some hm
  refine rg [1, 1, 0] ?_
  refine seg [.p 3, .l 0] [(15, .agg (cS26 x0.f0.f5 Ahx0_7 chx0_7 Ahx0_8 chx0_8).toArray)] [] ?_
  refine g_call0 16 (f41_ok _ _ ht0_2 (kS26_mk (cs := (cS26 x0.f0.f5 Ahx0_7 chx0_7 Ahx0_8 chx0_8)) x0.f0.f5 rfl hx0_7 hx0_8)) ?_
  rintro _ _ _ ⟨rfl, rfl, rfl⟩ -
  refine seg [.p 5] [(5, .int .i64 t0_2.1), (6, .int .i64 t0_2.2)] [] ?_
  refine fin ?_
  refine rgD [1, 1, 1, 0] (PT.of [0, 4, 8, 13, 16, 20, 24, 28, 32, 37, 40, 44, 48, 52, 56, 61, 64, 69, 72, 76, 80, 84, 88, 93, 96, 100, 104, 108, 113, 116, 120, 124, 128, 133, 136, 140, 144, 148, 152, 156] .dn) [(3, 0), (9, 0), (15, 0), (17, 2), (23, 2), (28, 2), (33, 2)] [0, 4] mixed plain_done ?_
  refine seg [.p 3, .l 0, .p 2] [(24, .bool ((x0.f0.f3 : Int) == 0))] [] ?_
  refine gs 24 hm (fun hm => ?_) fun hm => ?_
  · refine seg [.p 3, .l 0, .p 2] [(30, .bool ((x0.f0.f2 : Int) == 0))] [] ?_
    refine gs 30 hm (fun hm => ?_) fun hm => ?_
    · refine seg [.p 11, .l 2, .p 3] [(40, .bool true), (45, .bool (decide ((x1.f5 : Int) > t0_2.2)))] [] ?_
      refine gs 45 hm (fun hm => ?_) fun hm => ?_
      · refine seg [.p 13] [(7, .bool true)] [] ?_
        refine fin ?_
        exact to [0, 1, 2] (@f60_j1 _ _ _ M rcx0_15 b0_1 bx0 chx0_10 chx0_7 chx0_8 chx1_11 chx1_13 chx1_14 chx1_15 chx1_8 chx1_9 cx0_15 Ahx0_10 Ahx0_7 Ahx0_8 Ahx1_11 Ahx1_13 Ahx1_14 Ahx1_15 Ahx1_8 Ahx1_9 Ax0_15 _ _ _ hm hx0_7 hx0_8 hx0_10 hx0_11 hx0_12 ex0_15 hx1_8 hx1_9 hx1_11 hx1_13 hx1_14 hx1_15 hx1_16)
      · refine seg [.p 1, .l 2, .p 3] [(50, .bool ((x1.f5 : Int) == t0_2.2))] [] ?_
        refine gs 50 hm (fun hm => ?_) fun hm => ?_
        · refine seg [.p 1, .l 2, .p 6] [(7, .bool (decide ((x1.f4 : Int) ≥ t0_2.1)))] [] ?_
          refine fin ?_
          exact to [0, 1, 2] (@f60_j1 _ _ _ M rcx0_15 b0_1 bx0 chx0_10 chx0_7 chx0_8 chx1_11 chx1_13 chx1_14 chx1_15 chx1_8 chx1_9 cx0_15 Ahx0_10 Ahx0_7 Ahx0_8 Ahx1_11 Ahx1_13 Ahx1_14 Ahx1_15 Ahx1_8 Ahx1_9 Ax0_15 _ _ _ hm hx0_7 hx0_8 hx0_10 hx0_11 hx0_12 ex0_15 hx1_8 hx1_9 hx1_11 hx1_13 hx1_14 hx1_15 hx1_16)
        · refine seg [.p 8] [(7, .bool false)] [] ?_
          refine fin ?_
          exact to [0, 1, 2] (@f60_j1 _ _ _ M rcx0_15 b0_1 bx0 chx0_10 chx0_7 chx0_8 chx1_11 chx1_13 chx1_14 chx1_15 chx1_8 chx1_9 cx0_15 Ahx0_10 Ahx0_7 Ahx0_8 Ahx1_11 Ahx1_13 Ahx1_14 Ahx1_15 Ahx1_8 Ahx1_9 Ax0_15 _ _ _ hm hx0_7 hx0_8 hx0_10 hx0_11 hx0_12 ex0_15 hx1_8 hx1_9 hx1_11 hx1_13 hx1_14 hx1_15 hx1_16)
    · refine seg [.p 3, .l 0, .p 1, .l 2, .p 4] [(40, .bool ((x0.f0.f2 : Int) == x1.f1))] [] ?_
      refine gs 40 hm (fun hm => ?_) fun hm => ?_
      · refine seg [.p 1, .l 2, .p 3] [(45, .bool (decide ((x1.f5 : Int) > t0_2.2)))] [] ?_
        refine gs 45 hm (fun hm => ?_) fun hm => ?_
        · refine seg [.p 13] [(7, .bool true)] [] ?_
          refine fin ?_
          exact to [0, 1, 2] (@f60_j1 _ _ _ M rcx0_15 b0_1 bx0 chx0_10 chx0_7 chx0_8 chx1_11 chx1_13 chx1_14 chx1_15 chx1_8 chx1_9 cx0_15 Ahx0_10 Ahx0_7 Ahx0_8 Ahx1_11 Ahx1_13 Ahx1_14 Ahx1_15 Ahx1_8 Ahx1_9 Ax0_15 _ _ _ hm hx0_7 hx0_8 hx0_10 hx0_11 hx0_12 ex0_15 hx1_8 hx1_9 hx1_11 hx1_13 hx1_14 hx1_15 hx1_16)
        · refine seg [.p 1, .l 2, .p 3] [(50, .bool ((x1.f5 : Int) == t0_2.2))] [] ?_
          refine gs 50 hm (fun hm => ?_) fun hm => ?_
          · refine seg [.p 1, .l 2, .p 6] [(7, .bool (decide ((x1.f4 : Int) ≥ t0_2.1)))] [] ?_
            refine fin ?_
            exact to [0, 1, 2] (@f60_j1 _ _ _ M rcx0_15 b0_1 bx0 chx0_10 chx0_7 chx0_8 chx1_11 chx1_13 chx1_14 chx1_15 chx1_8 chx1_9 cx0_15 Ahx0_10 Ahx0_7 Ahx0_8 Ahx1_11 Ahx1_13 Ahx1_14 Ahx1_15 Ahx1_8 Ahx1_9 Ax0_15 _ _ _ hm hx0_7 hx0_8 hx0_10 hx0_11 hx0_12 ex0_15 hx1_8 hx1_9 hx1_11 hx1_13 hx1_14 hx1_15 hx1_16)
          · refine seg [.p 8] [(7, .bool false)] [] ?_
            refine fin ?_
            exact to [0, 1, 2] (@f60_j1 _ _ _ M rcx0_15 b0_1 bx0 chx0_10 chx0_7 chx0_8 chx1_11 chx1_13 chx1_14 chx1_15 chx1_8 chx1_9 cx0_15 Ahx0_10 Ahx0_7 Ahx0_8 Ahx1_11 Ahx1_13 Ahx1_14 Ahx1_15 Ahx1_8 Ahx1_9 Ax0_15 _ _ _ hm hx0_7 hx0_8 hx0_10 hx0_11 hx0_12 ex0_15 hx1_8 hx1_9 hx1_11 hx1_13 hx1_14 hx1_15 hx1_16)
      · refine seg [.p 18] [(7, .bool false)] [] ?_
        refine fin ?_
        exact to [0, 1, 2] (@f60_j1 _ _ _ M rcx0_15 b0_1 bx0 chx0_10 chx0_7 chx0_8 chx1_11 chx1_13 chx1_14 chx1_15 chx1_8 chx1_9 cx0_15 Ahx0_10 Ahx0_7 Ahx0_8 Ahx1_11 Ahx1_13 Ahx1_14 Ahx1_15 Ahx1_8 Ahx1_9 Ax0_15 _ _ _ hm hx0_7 hx0_8 hx0_10 hx0_11 hx0_12 ex0_15 hx1_8 hx1_9 hx1_11 hx1_13 hx1_14 hx1_15 hx1_16)
  · refine seg [.p 34] [(7, .bool false)] [] ?_
    refine fin ?_
    exact to [0, 1, 2] (@f60_j1 _ _ _ M rcx0_15 b0_1 bx0 chx0_10 chx0_7 chx0_8 chx1_11 chx1_13 chx1_14 chx1_15 chx1_8 chx1_9 cx0_15 Ahx0_10 Ahx0_7 Ahx0_8 Ahx1_11 Ahx1_13 Ahx1_14 Ahx1_15 Ahx1_8 Ahx1_9 Ax0_15 _ _ _ hm hx0_7 hx0_8 hx0_10 hx0_11 hx0_12 ex0_15 hx1_8 hx1_9 hx1_11 hx1_13 hx1_14 hx1_15 hx1_16)

/-! ## (heartwood/raft.stepper).follows -/
/-- (heartwood/raft.stepper).follows: what is left behind a call. -/
abbrev R86 (M : Mem) (bx0 : Nat) (csx0 : List Value) (Ax0_15 : Option Addr) (x0 : S85) (cx0_15 : Nat) (rcx0_15 : List Value) (r : S85) : Value → Mem → List Res → Prop := fun v M' H' => ∃ (q0 : List Value) (w0_15 : Option Addr) (y0_15 : Nat) (z0_15 : List Value), .tuple #[] = v ∧ H' = [.blk bx0 q0 86, .row (.slice w0_15 r.f1.length y0_15) 47 17 r.f1.length z0_15] ∧ (oS85 w0_15 y0_15).rep M' q0 r ∧ Elems kS46 M' z0_15 r.f1
noncomputable def c86 : Code := match Try.f86.body with | some c => c | none => .skip
theorem f86_ok {M : Mem} {bx0 : Nat} {csx0 : List Value} {Ax0_15 : Option Addr} {cx0_15 : Nat} {rcx0_15 : List Value} (x0 : S85) (x1 : Int) (r : S85) (hm : m86 x0 x1 = some r) (hx0 : (oS85 Ax0_15 cx0_15).rep M csx0 x0) (ex0_15 : Elems kS46 M rcx0_15 x0.f1) : FnOk Try.prog 86 [.pointer (some ⟨bx0, 0, none⟩), .int .i64 x1] M [.blk bx0 csx0 86, .row (.slice Ax0_15 x0.f1.length cx0_15) 47 17 x0.f1.length rcx0_15] (R86 M bx0 csx0 Ax0_15 x0 cx0_15 rcx0_15 r) := by
  obtain ⟨Ahx0_7, chx0_7, Ahx0_8, chx0_8, Ahx0_10, chx0_10, rfl, hx0_7, hx0_8, hx0_10, hx0_11, hx0_12⟩ := oS85_open hx0
  refine intro_ (c := c86) 21 Try.func86 fun w => ?_
  unfold m86 at hm
  refine rg [] ?_
  refine seg [.p 8, .s 0, .p 3, .s 0, .p 3, .s 0, .p 3, .s 0] [] [(0, .blk bx0 (cS85 ({ x0 with f0 := { x0.f0 with f3 := 0, f4 := x1, f7 := [], f10 := 0 } }) Ahx0_7 chx0_7 Ahx0_8 chx0_8 none 0 Ax0_15 cx0_15) 86)] ?_
  refine finE ?_
  obtain rfl := Option.some.inj hm
  exact re (v := .tuple #[]) [0, 1] ⟨(cS85 ({ x0 with f0 := { x0.f0 with f3 := 0, f4 := x1, f7 := [], f10 := 0 } }) Ahx0_7 chx0_7 Ahx0_8 chx0_8 none 0 Ax0_15 cx0_15), Ax0_15, cx0_15, rcx0_15, rfl, rfl, (oS85_mk (cs := (cS85 ({ x0 with f0 := { x0.f0 with f3 := 0, f4 := x1, f7 := [], f10 := 0 } }) Ahx0_7 chx0_7 Ahx0_8 chx0_8 none 0 Ax0_15 cx0_15)) ({ x0 with f0 := { x0.f0 with f3 := 0, f4 := x1, f7 := [], f10 := 0 } }) rfl hx0_7 hx0_8 slNil hx0_11 hx0_12), ex0_15⟩

/-! ## slices.Grow[[]heartwood/api.Entry,heartwood/api.Entry] -/
/-- slices.Grow[[]heartwood/api.Entry,heartwood/api.Entry]: what is left behind a call. -/
abbrev R99 (M : Mem) (r : List S80) : Value → Mem → List Res → Prop := fun v M' H' => ∃ (q0 : Option Addr) (y0 : Nat) (u0 : List Value), .slice q0 r.length y0 = v ∧ H' = [.row (.slice q0 r.length y0) 81 3 r.length u0] ∧ Elems kS80 M' u0 r
noncomputable def c99 : Code := match Try.f99.body with | some c => c | none => .skip
abbrev C99 (w0 : World) (M0 : Mem) : Ctx := ⟨27, w0, M0, []⟩
abbrev D99 (w0 : World) (M0 : Mem) (r : List S80) : Post := Done Try.prog Try.f99 (C99 w0 M0) (R99 M0 r)
theorem f99_j2 {w0 : World} {M0 : Mem} {r : List S80} : ∀ {M : Mem} {csj2_1_1_0_1_1_0_5 : List Value} {cj2_1_1_0_1_1_0_5 : Nat} {Aj2_1_1_0_1_1_0_5 : Option Addr} (xj2_1_1_0_1_1_0_5 : List S80) (_ : m99_j2 xj2_1_1_0_1_1_0_5 = some r) (_ : Elems kS80 M csj2_1_1_0_1_1_0_5 xj2_1_1_0_1_1_0_5), AG Try.prog c99 [1, 1, 1] (D99 w0 M0 r) (C99 w0 M0) (env [(0, (.slice Aj2_1_1_0_1_1_0_5 xj2_1_1_0_1_1_0_5.length cj2_1_1_0_1_1_0_5))]) M [.row (.slice Aj2_1_1_0_1_1_0_5 xj2_1_1_0_1_1_0_5.length cj2_1_1_0_1_1_0_5) 81 3 xj2_1_1_0_1_1_0_5.length csj2_1_1_0_1_1_0_5] := by
  intro M csj2_1_1_0_1_1_0_5 cj2_1_1_0_1_1_0_5 Aj2_1_1_0_1_1_0_5 xj2_1_1_0_1_1_0_5 hm ej2_1_1_0_1_1_0_5; unfold m99_j2 at hm
  refine rs [1, 1, 1, 0] [.p 2] [(4, (.slice Aj2_1_1_0_1_1_0_5 xj2_1_1_0_1_1_0_5.length cj2_1_1_0_1_1_0_5))] [] ?_
  obtain rfl := Option.some.inj hm
  exact rt (v := (.slice Aj2_1_1_0_1_1_0_5 xj2_1_1_0_1_1_0_5.length cj2_1_1_0_1_1_0_5)) [0] ⟨Aj2_1_1_0_1_1_0_5, cj2_1_1_0_1_1_0_5, csj2_1_1_0_1_1_0_5, rfl, rfl, ej2_1_1_0_1_1_0_5⟩
theorem f99_j1 {w0 : World} {M0 : Mem} {r : List S80} : ∀ {M : Mem} (x1 : Int) (_ : m99_j1 x1 = some r), AG Try.prog c99 [1, 1] (D99 w0 M0 r) (C99 w0 M0) (env [(0, .slice none 0 0), (1, .int .i64 x1)]) M [] := by
  intro M x1 hm; unfold m99_j1 at hm
  refine rs [1, 1, 0, 0] [.p 8] [(1, .int .i64 (IntKind.i64.wrap (x1 - (IntKind.i64.wrap (0 - 0)))))] [] ?_
  refine rs [1, 1, 0, 1, 0] [.p 2] [(16, .bool (decide (((IntKind.i64.wrap (x1 - (IntKind.i64.wrap (0 - 0)))) : Int) > 0)))] [] ?_
  refine gi [1, 1, 0, 1, 1] hm (fun hm => ?_) fun hm => ?_
  · obtain ⟨hbj1_1, hm⟩ := guard_some hm
    replace hbj1_1 := makeZ_dec hbj1_1
    refine rg [1, 1, 0, 1, 1, 0] ?_
    refine seg [.p 5] [(20, .slice none 0 0), (21, .int .i64 (IntKind.i64.wrap (x1 - (IntKind.i64.wrap (0 - 0)))))] [] ?_
    refine g_mk (kd := kS80) (M := M) 22 81 (S80.mk 0 0 []) [.int .i64 0, .int .i64 0, .slice none 0 0] (kS80_mk (cs := (cS80 (S80.mk 0 0 []) none 0)) (S80.mk 0 0 []) rfl slNil) hbj1_1 fun Aj1_2 cj1_3 csj1_4 ej1_1 => ?_
    obtain ⟨hbj1_5, hm⟩ := gd3 hm
    refine seg [.p 2] [(24, .int .i64 0)] [] ?_
    refine g_slR 25 0 81 Aj1_2 cj1_3 csj1_4 hbj1_5 ej1_1 fun ej1_5 => ?_
    refine seg [.p 1] [(0, (.slice (slA Aj1_2 cj1_3 (0 : Int).toNat 3) ((((List.replicate (IntKind.i64.wrap (x1 - (IntKind.i64.wrap (0 - 0)))).toNat (S80.mk 0 0 [])).drop (0 : Int).toNat).take ((0 : Int).toNat - (0 : Int).toNat)).length) (cj1_3 - (0 : Int).toNat)))] [] ?_
    refine fin ?_
    exact to [0] (@f99_j2 _ _ _ M ((csj1_4.drop ((0 : Int).toNat * 3)).take (((0 : Int).toNat - (0 : Int).toNat) * 3)) (cj1_3 - (0 : Int).toNat) (slA Aj1_2 cj1_3 (0 : Int).toNat 3) _ hm ej1_5)
  · refine nlA 81 3 ?_
    exact to [0] (@f99_j2 _ _ _ M [] 0 none _ hm (elNil (d := kS80) (M := M)))
theorem f99_ok {M : Mem} (x1 : Int) (r : List S80) (hm : m99 x1 = some r) : FnOk Try.prog 99 [.slice none 0 0, .int .i64 x1] M [] (R99 M r) := by
  refine intro_ (c := c99) 27 Try.func99 fun w => ?_
  unfold m99 at hm
  refine rs [0] [.p 1] [] [] ?_
  refine rs [1, 0, 0] [.p 2] [(6, .bool (decide ((x1 : Int) < 0)))] [] ?_
  refine gi [1, 0, 1] hm (fun hm => ?_) fun hm => ?_
  · cases hm
  · exact to [] (@f99_j1 _ _ _ M _ hm)

/-! ## slices.Concat[[]heartwood/api.Entry,heartwood/api.Entry] -/
/-- slices.Concat[[]heartwood/api.Entry,heartwood/api.Entry]: what is left behind a call. -/
abbrev R96 (M : Mem) (r : List S80) : Value → Mem → List Res → Prop := fun v M' H' => ∃ (q0 : Option Addr) (y0 : Nat) (u0 : List Value), .slice q0 r.length y0 = v ∧ H' = [.row (.slice q0 r.length y0) 81 3 r.length u0] ∧ Elems kS80 M' u0 r
noncomputable def c96 : Code := match Try.f96.body with | some c => c | none => .skip
abbrev C96 (w0 : World) (M0 : Mem) : Ctx := ⟨36, w0, M0, []⟩
abbrev D96 (w0 : World) (M0 : Mem) (r : List S80) : Post := Done Try.prog Try.f96 (C96 w0 M0) (R96 M0 r)
abbrev H96_j3 (w0 : World) (M0 : Mem) (r : List S80) (Lj3 : Int → (List (List S80)) → (List S80) → Option (List S80)) : Prop := ∀ {M : Mem} {csj3_1_1_1_0_1_0 : List Value} {cj3_1_1_1_0_1_0 cx0 : Nat} {Aj3_1_1_1_0_1_0 Ax0 : Option Addr} (xj3_s27 : Int) (x0 : List (List S80)) (xj3_1_1_1_0_1_0 : List S80) (_ : Lj3 xj3_s27 x0 xj3_1_1_1_0_1_0 = some r) (_ : SlAt (kslice kS80) M Ax0 cx0 x0) (_ : Elems kS80 M csj3_1_1_1_0_1_0 xj3_1_1_1_0_1_0), AG Try.prog c96 [1, 1, 1, 1, 0, 1, 0] (D96 w0 M0 r) (C96 w0 M0) (env [(6, (.slice Aj3_1_1_1_0_1_0 xj3_1_1_1_0_1_0.length cj3_1_1_1_0_1_0)), (25, .slice Ax0 x0.length cx0), (26, .int .i64 (x0.length : Int)), (27, .int .i64 xj3_s27)]) M [.row (.slice Aj3_1_1_1_0_1_0 xj3_1_1_1_0_1_0.length cj3_1_1_1_0_1_0) 81 3 xj3_1_1_1_0_1_0.length csj3_1_1_1_0_1_0]
abbrev H96_j1 (w0 : World) (M0 : Mem) (r : List S80) (Lj1 : Int → Int → (List (List S80)) → Option (List S80)) : Prop := ∀ {M : Mem} {cx0 : Nat} {Ax0 : Option Addr} (xj1_s11 xj1_s3 : Int) (x0 : List (List S80)) (_ : Lj1 xj1_s11 xj1_s3 x0 = some r) (_ : SlAt (kslice kS80) M Ax0 cx0 x0) (_ : SlAt (kslice kS80) M Ax0 cx0 x0), AG Try.prog c96 [1, 1, 0, 1, 0] (D96 w0 M0 r) (C96 w0 M0) (env [(0, .slice Ax0 x0.length cx0), (3, .int .i64 xj1_s3), (9, .slice Ax0 x0.length cx0), (10, .int .i64 (x0.length : Int)), (11, .int .i64 xj1_s11)]) M []
theorem f96_j3 {w0 : World} {M0 : Mem} {r : List S80} : ∀ k, H96_j3 w0 M0 r (m96_j3 k) := by
  intro k; induction k with
  | zero => intro M csj3_1_1_1_0_1_0 cj3_1_1_1_0_1_0 cx0 Aj3_1_1_1_0_1_0 Ax0 xj3_s27 x0 xj3_1_1_1_0_1_0 hm; exact absurd hm (by simp [m96_j3])
  | succ k ihj3 =>
    intro M csj3_1_1_1_0_1_0 cj3_1_1_1_0_1_0 cx0 Aj3_1_1_1_0_1_0 Ax0 xj3_s27 x0 xj3_1_1_1_0_1_0 hm hj3_s25 ej3_1_1_1_0_1_0
    rw [m96_j3.eq_2] at hm
    refine gl [1, 1, 1, 1, 0, 1, 0] plain_done ?_
    refine rs [1, 1, 1, 1, 0, 1, 0, 0, 0] [.p 1] [(28, .bool (decide ((xj3_s27 : Int) < (x0.length : Int))))] [] ?_
    refine gi [1, 1, 1, 1, 0, 1, 0, 0, 1, 0] hm (fun hm => ?_) fun hm => ?_
    · obtain ⟨ej3_1, bj3_2, fj3_3, kj3_4, Wj3_5, hm, haej3_1, hbej3_1, hmej3_1, hwej3_1, hrej3_1⟩ := ixo hm hj3_s25
      obtain ⟨Aej3_1, cej3_1, hcej3_1, hsej3_1⟩ := hrej3_1
      replace hwej3_1 := hwej3_1.trans hcej3_1
      refine rg [1, 1, 1, 1, 0, 1, 0, 0, 1, 1, 0, 0, 0] ?_
      refine g_ix 29 1 haej3_1 hbej3_1 ?_
      refine g_lw 30 0 (.slice Aej3_1 ej3_1.length cej3_1) hmej3_1 hwej3_1 ?_
      refine seg [.p 1] [(8, .slice Aej3_1 ej3_1.length cej3_1)] [] ?_
      refine fin ?_
      obtain ⟨hbj3_6, hm⟩ := gd2 hm
      refine rg [1, 1, 1, 1, 0, 1, 0, 0, 1, 1, 0, 0, 1] ?_
      refine seg [.p 2] [(31, (.slice Aj3_1_1_1_0_1_0 xj3_1_1_1_0_1_0.length cj3_1_1_1_0_1_0)), (32, .slice Aej3_1 ej3_1.length cej3_1)] [] ?_
      refine g_apD 33 0 81 40 Aj3_1_1_1_0_1_0 cj3_1_1_1_0_1_0 ej3_1_1_1_0_1_0 hsej3_1 hbj3_6 fun Aj3_7 cj3_8 csj3_9 ej3_6 => ?_
      refine seg [.p 1] [(6, (.slice Aj3_7 ((xj3_1_1_1_0_1_0 ++ ej3_1).length) cj3_8))] [] ?_
      refine fin ?_
      refine rs [1, 1, 1, 1, 0, 1, 0, 0, 1, 1, 1] [.p 2] [(27, .int .i64 (IntKind.i64.wrap (xj3_s27 + 1)))] [] ?_
      exact to [0] (@ihj3 M csj3_9 cj3_8 cx0 Aj3_7 Ax0 _ _ _ hm hj3_s25 ej3_6)
    · refine rs [1, 1, 1, 1, 1, 0] [.p 2] [(2, (.slice Aj3_1_1_1_0_1_0 xj3_1_1_1_0_1_0.length cj3_1_1_1_0_1_0))] [] ?_
      obtain rfl := Option.some.inj hm
      exact rt (v := (.slice Aj3_1_1_1_0_1_0 xj3_1_1_1_0_1_0.length cj3_1_1_1_0_1_0)) [0] ⟨Aj3_1_1_1_0_1_0, cj3_1_1_1_0_1_0, csj3_1_1_1_0_1_0, rfl, rfl, ej3_1_1_1_0_1_0⟩
theorem f96_j2 {w0 : World} {M0 : Mem} {r : List S80} {Lj1 : Int → Int → (List (List S80)) → Option (List S80)} (ihj1 : H96_j1 w0 M0 r Lj1) : ∀ {M : Mem} {cx0 : Nat} {Ax0 : Option Addr} (xj2_s11 xj2_s3 : Int) (x0 : List (List S80)) (_ : m96_j2 Lj1 xj2_s11 xj2_s3 x0 = some r) (_ : SlAt (kslice kS80) M Ax0 cx0 x0) (_ : SlAt (kslice kS80) M Ax0 cx0 x0), AG Try.prog c96 [1, 1, 0, 1, 0, 0, 1, 1, 1] (D96 w0 M0 r) (C96 w0 M0) (env [(0, .slice Ax0 x0.length cx0), (3, .int .i64 xj2_s3), (9, .slice Ax0 x0.length cx0), (10, .int .i64 (x0.length : Int)), (11, .int .i64 xj2_s11)]) M [] := by
  intro M cx0 Ax0 xj2_s11 xj2_s3 x0 hm hj2_s0 hj2_s9; unfold m96_j2 at hm
  refine rs [1, 1, 0, 1, 0, 0, 1, 1, 1] [.p 2] [(11, .int .i64 (IntKind.i64.wrap (xj2_s11 + 1)))] [] ?_
  exact to [] (@ihj1 M cx0 Ax0 _ _ _ hm hj2_s0 hj2_s9)
theorem f96_j1 {w0 : World} {M0 : Mem} {r : List S80} : ∀ k, H96_j1 w0 M0 r (m96_j1 k) := by
  intro k; induction k with
  | zero => intro M cx0 Ax0 xj1_s11 xj1_s3 x0 hm; exact absurd hm (by simp [m96_j1])
  | succ k ihj1 =>
    intro M cx0 Ax0 xj1_s11 xj1_s3 x0 hm hj1_s0 hj1_s9
    rw [m96_j1.eq_2] at hm
    refine gl [1, 1, 0, 1, 0] plain_done ?_
    refine rs [1, 1, 0, 1, 0, 0, 0] [.p 1] [(12, .bool (decide ((xj1_s11 : Int) < (x0.length : Int))))] [] ?_
    refine gi [1, 1, 0, 1, 0, 0, 1, 0] hm (fun hm => ?_) fun hm => ?_
    · obtain ⟨ej1_1, bj1_2, fj1_3, kj1_4, Wj1_5, hm, haej1_1, hbej1_1, hmej1_1, hwej1_1, hrej1_1⟩ := ixo hm hj1_s9
      obtain ⟨Aej1_1, cej1_1, hcej1_1, hsej1_1⟩ := hrej1_1
      replace hwej1_1 := hwej1_1.trans hcej1_1
      refine rg [1, 1, 0, 1, 0, 0, 1, 1, 0, 0, 0] ?_
      refine g_ix 13 1 haej1_1 hbej1_1 ?_
      refine g_lw 14 0 (.slice Aej1_1 ej1_1.length cej1_1) hmej1_1 hwej1_1 ?_
      refine seg [.p 1] [(5, .slice Aej1_1 ej1_1.length cej1_1)] [] ?_
      refine fin ?_
      refine rs [1, 1, 0, 1, 0, 0, 1, 1, 0, 0, 1, 0] [.p 5] [(3, .int .i64 (IntKind.i64.wrap (xj1_s3 + (ej1_1.length : Int))))] [] ?_
      refine rs [1, 1, 0, 1, 0, 0, 1, 1, 0, 0, 1, 1, 0] [.p 2] [(20, .bool (decide (((IntKind.i64.wrap (xj1_s3 + (ej1_1.length : Int))) : Int) < 0)))] [] ?_
      refine gi [1, 1, 0, 1, 0, 0, 1, 1, 0, 0, 1, 1, 1] hm (fun hm => ?_) fun hm => ?_
      · cases hm
      · exact to [] (@f96_j2 _ _ _ _ ihj1 M cx0 Ax0 _ _ _ hm hj1_s0 hj1_s9)
    · obtain ⟨tj1_6, htj1_6, hm⟩ := bind_some hm
      refine rg [1, 1, 1, 0] ?_
      refine seg [.p 1] [(23, .int .i64 xj1_s3)] [] ?_
      refine g_call0 24 (f99_ok (M := M) _ _ htj1_6) ?_
      rintro _ Mj1_10 _ ⟨Aj1_7, cj1_8, csj1_9, rfl, rfl, hj1_10⟩ hMj1_10
      refine seg [.p 1] [(6, (.slice Aj1_7 tj1_6.length cj1_8))] [] ?_
      refine fin ?_
      refine rs [1, 1, 1, 1, 0, 0] [.p 3] [(25, .slice Ax0 x0.length cx0), (26, .int .i64 (x0.length : Int)), (27, .int .i64 0)] [] ?_
      replace hj1_s0 := (hj1_s0.mono hMj1_10)
      exact to [0] (@f96_j3 _ _ _ FUEL Mj1_10 csj1_9 cj1_8 cx0 Aj1_7 Ax0 _ _ _ hm hj1_s0 hj1_10)
theorem f96_ok {M : Mem} {Ax0 : Option Addr} {cx0 : Nat} (x0 : List (List S80)) (r : List S80) (hm : m96 x0 = some r) (hx0 : SlAt (kslice kS80) M Ax0 cx0 x0) : FnOk Try.prog 96 [.slice Ax0 x0.length cx0] M [] (R96 M r) := by
  refine intro_ (c := c96) 36 Try.func96 fun w => ?_
  unfold m96 at hm
  refine rs [0] [.p 1] [] [] ?_
  refine rs [1, 0] [.p 1] [(3, .int .i64 0)] [] ?_
  refine rs [1, 1, 0, 0] [.p 3] [(9, .slice Ax0 x0.length cx0), (10, .int .i64 (x0.length : Int)), (11, .int .i64 0)] [] ?_
  exact to [] (@f96_j1 _ _ _ FUEL M cx0 Ax0 _ _ _ hm hx0 hx0)

/-! ## heartwood/log.Merge -/
/-- heartwood/log.Merge: what is left behind a call. -/
abbrev R87 (M : Mem) (r : (S26 × Int × Int)) : Value → Mem → List Res → Prop := fun v M' H' => ∃ (q0 : List Value), .tuple #[.agg q0.toArray, .int .i64 r.2.1, errV 39 r.2.2] = v ∧ H' = [] ∧ kS26.rep M' q0 r.1
noncomputable def c87 : Code := match Try.f87.body with | some c => c | none => .skip
abbrev C87 (w0 : World) (M0 : Mem) : Ctx := ⟨75, w0, M0, []⟩
abbrev D87 (w0 : World) (M0 : Mem) (r : (S26 × Int × Int)) : Post := Done Try.prog Try.f87 (C87 w0 M0) (R87 M0 r)
abbrev H87_j1 (w0 : World) (M0 : Mem) (r : (S26 × Int × Int)) (Lj1 : Int → Int → (List S80) → S26 → Option (S26 × Int × Int)) : Prop := ∀ {M : Mem} {b0_1 b0_2 chx0_2 chx0_3 cx2 : Nat} {Ahx0_2 Ahx0_3 Ax2 : Option Addr} (x1 xj1_s24 : Int) (x2 : List S80) (x0 : S26) (_ : Lj1 x1 xj1_s24 x2 x0 = some r) (_ : SlAt kS80 M Ax2 cx2 x2) (_ : SlAt kS80 M Ax2 cx2 x2) (_ : SlAt (kint .i64) M Ahx0_2 chx0_2 x0.f0.f2) (_ : SlAt kS80 M Ahx0_3 chx0_3 x0.f1), AG Try.prog c87 [1, 1, 0, 1, 0] (D87 w0 M0 r) (C87 w0 M0) (env [(1, .int .i64 x1), (2, .slice Ax2 x2.length cx2), (3, .pointer (some ⟨b0_1, 0, none⟩)), (6, .pointer (some ⟨b0_2, 0, none⟩)), (22, .slice Ax2 x2.length cx2), (23, .int .i64 (x2.length : Int)), (24, .int .i64 xj1_s24)]) M [.blk b0_1 (cS26 x0 Ahx0_2 chx0_2 Ahx0_3 chx0_3) 27, .blk b0_2 (cS26 (S26.mk (S23.mk 0 0 []) []) none 0 none 0) 27]
theorem f87_j3 {w0 : World} {M0 : Mem} {r : (S26 × Int × Int)} {Lj1 : Int → Int → (List S80) → S26 → Option (S26 × Int × Int)} (ihj1 : H87_j1 w0 M0 r Lj1) : ∀ {M : Mem} {csj2_971 : List Value} {b0_2 bj2_1087 chx0_2 cj2_970 : Nat} {Ahx0_2 Aj2_969 : Option Addr} (xj3_s12 : Int) (tj2_968 : List S80) (x0 : S26) (_ : m87_j3 Lj1 xj3_s12 tj2_968 x0 = some r) (_ : SlAt (kint .i64) M Ahx0_2 chx0_2 x0.f0.f2) (_ : Elems kS80 M csj2_971 tj2_968), AG Try.prog c87 [1, 1, 0, 1, 0, 0, 1, 1, 0, 0, 1, 1, 1, 1] (D87 w0 M0 r) (C87 w0 M0) (env [(6, .pointer (some ⟨b0_2, 0, none⟩)), (12, .int .i64 xj3_s12), (13, .pointer (some ⟨bj2_1087, 0, none⟩))]) M [.blk b0_2 (cS26 (S26.mk (S23.mk 0 0 []) []) none 0 none 0) 27, .blk bj2_1087 (cS26 (S26.mk x0.f0 tj2_968) Ahx0_2 chx0_2 Aj2_969 cj2_970) 27, .row (.slice Aj2_969 tj2_968.length cj2_970) 81 3 tj2_968.length csj2_971] := by
  intro M csj2_971 b0_2 bj2_1087 chx0_2 cj2_970 Ahx0_2 Aj2_969 xj3_s12 tj2_968 x0 hm hj3_1_1_0_1_0_0_1_1_0_0_1_1_1_0_17_l2 ej3_1_1_0_1_0_0_1_1_0_0_1_1_1_0_15_0; unfold m87_j3 at hm
  obtain ⟨tj3_2, htj3_2, hm⟩ := bind_some hm
  refine rg [1, 1, 0, 1, 0, 0, 1, 1, 0, 0, 1, 1, 1, 1, 0, 0] ?_
  refine seg [.l 1] [(62, .agg (cS26 (S26.mk x0.f0 tj2_968) Ahx0_2 chx0_2 Aj2_969 cj2_970).toArray)] [] ?_
  refine fzI 2 81 Aj2_969 cj2_970 ej3_1_1_0_1_0_0_1_1_0_0_1_1_1_0_15_0 fun Mhj3_1 lhj3_1 hj3_1 => ?_
  replace hj3_1_1_0_1_0_0_1_1_0_0_1_1_1_0_17_l2 := (hj3_1_1_0_1_0_0_1_1_0_0_1_1_1_0_17_l2.mono lhj3_1)
  refine g_call0 63 (f40_ok _ _ htj3_2 (kS26_mk (cs := (cS26 (S26.mk x0.f0 tj2_968) Ahx0_2 chx0_2 Aj2_969 cj2_970)) (S26.mk x0.f0 tj2_968) rfl hj3_1_1_0_1_0_0_1_1_0_0_1_1_1_0_17_l2 hj3_1)) ?_
  rintro _ _ _ ⟨rfl, rfl, rfl⟩ -
  refine seg [.p 1] [(14, errV 39 tj3_2)] [] ?_
  refine fin ?_
  refine rs [1, 1, 0, 1, 0, 0, 1, 1, 0, 0, 1, 1, 1, 1, 0, 1, 0] [.p 1, .e 39 tj3_2] [(65, .bool ((tj3_2 : Int) != 0))] [] ?_
  refine gi [1, 1, 0, 1, 0, 0, 1, 1, 0, 0, 1, 1, 1, 1, 0, 1, 1] hm (fun hm => ?_) fun hm => ?_
  · refine rs [1, 1, 0, 1, 0, 0, 1, 1, 0, 0, 1, 1, 1, 1, 0, 1, 1, 0, 0] [.b, .p 1, .s 0, .p 2] [(7, .int .i64 0), (8, errV 39 tj3_2)] [(0, .blk b0_2 (cS26 (S26.mk (S23.mk 0 0 []) []) none 0 none 0) 27)] ?_
    obtain rfl := Option.some.inj hm
    exact rtc (vs := [.agg (cS26 (S26.mk (S23.mk 0 0 []) []) none 0 none 0).toArray, .int .i64 0, errV 39 tj3_2]) (v := .tuple #[.agg (cS26 (S26.mk (S23.mk 0 0 []) []) none 0 none 0).toArray, .int .i64 0, errV 39 tj3_2]) [] [.cell 6 27, .tmp 7, .tmp 8] (.cell 0 0 (by kernel_rfl) (by kernel_rfl) (.tmp (by kernel_rfl) (.tmp (by kernel_rfl) .nil))) ⟨(cS26 (S26.mk (S23.mk 0 0 []) []) none 0 none 0), rfl, rfl, (kS26_mk (cs := (cS26 (S26.mk (S23.mk 0 0 []) []) none 0 none 0)) (S26.mk (S23.mk 0 0 []) []) rfl slNil slNil)⟩ rfl rfl
  · refine rs [1, 1, 0, 1, 0, 0, 1, 1, 0, 0, 1, 1, 1, 1, 1, 0] [.l 1, .p 1, .s 0, .p 2] [(7, .int .i64 xj3_s12), (8, .nilIface)] [(0, .blk b0_2 (cS26 (S26.mk x0.f0 tj2_968) Ahx0_2 chx0_2 Aj2_969 cj2_970) 27)] ?_
    obtain rfl := Option.some.inj hm
    exact rtc (vs := [.agg (cS26 (S26.mk x0.f0 tj2_968) Ahx0_2 chx0_2 Aj2_969 cj2_970).toArray, .int .i64 xj3_s12, .nilIface]) (v := .tuple #[.agg (cS26 (S26.mk x0.f0 tj2_968) Ahx0_2 chx0_2 Aj2_969 cj2_970).toArray, .int .i64 xj3_s12, .nilIface]) [] [.cell 6 27, .tmp 7, .tmp 8] (.cell 0 0 (by kernel_rfl) (by kernel_rfl) (.tmp (by kernel_rfl) (.tmp (by kernel_rfl) .nil))) ⟨(cS26 (S26.mk x0.f0 tj2_968) Ahx0_2 chx0_2 Aj2_969 cj2_970), rfl, rfl, (kS26_mk (cs := (cS26 (S26.mk x0.f0 tj2_968) Ahx0_2 chx0_2 Aj2_969 cj2_970)) (S26.mk x0.f0 tj2_968) rfl hj3_1_1_0_1_0_0_1_1_0_0_1_1_1_0_17_l2 hj3_1)⟩ rfl rfl
theorem f87_j2 {w0 : World} {M0 : Mem} {r : (S26 × Int × Int)} {Lj1 : Int → Int → (List S80) → S26 → Option (S26 × Int × Int)} (ihj1 : H87_j1 w0 M0 r Lj1) : ∀ {M : Mem} {b0_1 b0_2 chx0_2 chx0_3 cx2 : Nat} {Ahx0_2 Ahx0_3 Ax2 : Option Addr} (xj2_s44 : Bool) (x1 xj2_s10 xj2_s12 xj2_s24 : Int) (x2 : List S80) (x0 : S26) (_ : m87_j2 Lj1 xj2_s44 x1 xj2_s10 xj2_s12 xj2_s24 x2 x0 = some r) (_ : SlAt kS80 M Ax2 cx2 x2) (_ : SlAt kS80 M Ax2 cx2 x2) (_ : SlAt (kint .i64) M Ahx0_2 chx0_2 x0.f0.f2) (_ : SlAt kS80 M Ahx0_3 chx0_3 x0.f1), AG Try.prog c87 [1, 1, 0, 1, 0, 0, 1, 1, 0, 0, 1, 1, 0, 1] (D87 w0 M0 r) (C87 w0 M0) (env [(1, .int .i64 x1), (2, .slice Ax2 x2.length cx2), (3, .pointer (some ⟨b0_1, 0, none⟩)), (6, .pointer (some ⟨b0_2, 0, none⟩)), (10, .int .i64 xj2_s10), (12, .int .i64 xj2_s12), (22, .slice Ax2 x2.length cx2), (23, .int .i64 (x2.length : Int)), (24, .int .i64 xj2_s24), (44, .bool xj2_s44)]) M [.blk b0_1 (cS26 x0 Ahx0_2 chx0_2 Ahx0_3 chx0_3) 27, .blk b0_2 (cS26 (S26.mk (S23.mk 0 0 []) []) none 0 none 0) 27] := by
  intro M b0_1 b0_2 chx0_2 chx0_3 cx2 Ahx0_2 Ahx0_3 Ax2 xj2_s44 x1 xj2_s10 xj2_s12 xj2_s24 x2 x0 hm hj2_s2 hj2_s22 hj2_0_0_l2 hj2_0_0_l3; unfold m87_j2 at hm
  refine gi [1, 1, 0, 1, 0, 0, 1, 1, 0, 0, 1, 1, 0, 1] hm (fun hm => ?_) fun hm => ?_
  · refine rs [1, 1, 0, 1, 0, 0, 1, 1, 1] [.p 2] [(24, .int .i64 (IntKind.i64.wrap (xj2_s24 + 1)))] [] ?_
    exact to [0, 1] (@ihj1 M b0_1 b0_2 chx0_2 chx0_3 cx2 Ahx0_2 Ahx0_3 Ax2 _ _ _ _ hm hj2_s2 hj2_s22 hj2_0_0_l2 hj2_0_0_l3)
  · obtain ⟨hbj2_1, hm⟩ := gd3 hm
    refine rgD [1, 1, 0, 1, 0, 0, 1, 1, 0, 0, 1, 1, 1, 0] (PT.of [0, 5, 8, 13, 16, 20, 24, 29, 32, 36, 40, 44, 48, 52] (.two 14 (PT.of [] (.two 15 (PT.of [64, 71, 75] .dn) 17 (PT.of [63, 64, 75] .dn))) 17 (PT.of [59, 63, 64, 75] .dn))) [(1, 0), (3, 0), (7, 0)] [0] mixed plain_done ?_
    refine seg [.p 1, .l 0, .p 1, .l 0, .p 3, .l 0, .p 2] [(46, .agg (cS23 x0.f0 Ahx0_2 chx0_2).toArray), (48, .slice Ahx0_3 x0.f1.length chx0_3), (54, .int .i64 (IntKind.i64.wrap ((IntKind.i64.wrap (xj2_s12 - x0.f0.f0)) - 1)))] [] ?_
    refine g_sl 55 hj2_0_0_l3 hbj2_1 fun Aj2_2 cj2_3 lj2_3 => ?_
    obtain ⟨hbj2_4, hm⟩ := gd3 hm
    refine seg [.p 2] [(56, .slice Ax2 x2.length cx2), (57, .int .i64 xj2_s10)] [] ?_
    refine g_sl 58 hj2_s2 hbj2_4 fun Aj2_5 cj2_6 lj2_6 => ?_
    obtain ⟨tj2_968, htj2_968, hm⟩ := bind_some hm
    refine g2 ?_ ?_
    · have ej2_907 : Elems (kslice kS80) M [.slice Aj2_2 ((x0.f1.drop (0 : Int).toNat).take ((IntKind.i64.wrap ((IntKind.i64.wrap (xj2_s12 - x0.f0.f0)) - 1)).toNat - (0 : Int).toNat)).length cj2_3, .slice Aj2_5 ((x2.drop xj2_s10.toNat).take ((x2.length : Int).toNat - xj2_s10.toNat)).length cj2_6] ([((x0.f1.drop (0 : Int).toNat).take ((IntKind.i64.wrap ((IntKind.i64.wrap (xj2_s12 - x0.f0.f0)) - 1)).toNat - (0 : Int).toNat)), ((x2.drop xj2_s10.toNat).take ((x2.length : Int).toNat - xj2_s10.toNat))] : List (List S80)) := (elCons (d := (kslice kS80)) (M := M) (a := [.slice Aj2_2 ((x0.f1.drop (0 : Int).toNat).take ((IntKind.i64.wrap ((IntKind.i64.wrap (xj2_s12 - x0.f0.f0)) - 1)).toNat - (0 : Int).toNat)).length cj2_3]) (x := ((x0.f1.drop (0 : Int).toNat).take ((IntKind.i64.wrap ((IntKind.i64.wrap (xj2_s12 - x0.f0.f0)) - 1)).toNat - (0 : Int).toNat))) ⟨_, _, rfl, lj2_3⟩ (elCons (d := (kslice kS80)) (M := M) (a := [.slice Aj2_5 ((x2.drop xj2_s10.toNat).take ((x2.length : Int).toNat - xj2_s10.toNat)).length cj2_6]) (x := ((x2.drop xj2_s10.toNat).take ((x2.length : Int).toNat - xj2_s10.toNat))) ⟨_, _, rfl, lj2_6⟩ elNil))
      refine g_bs 59 25 1 2 [.slice Aj2_2 ((x0.f1.drop (0 : Int).toNat).take ((IntKind.i64.wrap ((IntKind.i64.wrap (xj2_s12 - x0.f0.f0)) - 1)).toNat - (0 : Int).toNat)).length cj2_3, .slice Aj2_5 ((x2.drop xj2_s10.toNat).take ((x2.length : Int).toNat - xj2_s10.toNat)).length cj2_6] fun bj2_908 => ?_
      refine g2 ?_ ?_
      · refine fzI 2 25 (some ⟨bj2_908, 0, none⟩) 2 ej2_907 fun Mhj2_967 lhj2_967 hj2_967 => ?_
        refine g_call0 60 (f96_ok _ _ htj2_968 hj2_967) ?_
        rintro _ Mj2_972 _ ⟨Aj2_969, cj2_970, csj2_971, rfl, rfl, hj2_972⟩ hMj2_972
        refine seg [.b] [(61, .agg (cS26 (S26.mk x0.f0 tj2_968) Ahx0_2 chx0_2 Aj2_969 cj2_970).toArray)] [] ?_
        refine g_al 13 27 (cS26 (S26.mk (S23.mk 0 0 []) []) none 0 none 0) fun bj2_1087 => ?_
        refine seg [.s 4] [] [(4, .blk bj2_1087 (cS26 (S26.mk x0.f0 tj2_968) Ahx0_2 chx0_2 Aj2_969 cj2_970) 27)] ?_
        refine fin ?_
        replace hj2_0_0_l2 := ((hj2_0_0_l2.mono lhj2_967).mono hMj2_972)
        exact to [1, 4, 3] (@f87_j3 _ _ _ _ ihj1 Mj2_972 csj2_971 b0_2 bj2_1087 chx0_2 cj2_970 Ahx0_2 Aj2_969 _ _ _ hm hj2_0_0_l2 hj2_972)
      · refine g_al 13 27 (cS26 (S26.mk (S23.mk 0 0 []) []) none 0 none 0) fun bj2_1087 => ?_
        refine fzI 2 25 (some ⟨bj2_908, 0, none⟩) 2 ej2_907 fun Mhj2_967 lhj2_967 hj2_967 => ?_
        refine g_call0 60 (f96_ok _ _ htj2_968 hj2_967) ?_
        rintro _ Mj2_972 _ ⟨Aj2_969, cj2_970, csj2_971, rfl, rfl, hj2_972⟩ hMj2_972
        refine seg [.b, .s 3] [] [(3, .blk bj2_1087 (cS26 (S26.mk x0.f0 tj2_968) Ahx0_2 chx0_2 Aj2_969 cj2_970) 27)] ?_
        refine fin ?_
        replace hj2_0_0_l2 := ((hj2_0_0_l2.mono lhj2_967).mono hMj2_972)
        exact to [1, 3, 4] (@f87_j3 _ _ _ _ ihj1 Mj2_972 csj2_971 b0_2 bj2_1087 chx0_2 cj2_970 Ahx0_2 Aj2_969 _ _ _ hm hj2_0_0_l2 hj2_972)
    · refine g_al 13 27 (cS26 (S26.mk (S23.mk 0 0 []) []) none 0 none 0) fun bj2_1087 => ?_
      have ej2_907 : Elems (kslice kS80) M [.slice Aj2_2 ((x0.f1.drop (0 : Int).toNat).take ((IntKind.i64.wrap ((IntKind.i64.wrap (xj2_s12 - x0.f0.f0)) - 1)).toNat - (0 : Int).toNat)).length cj2_3, .slice Aj2_5 ((x2.drop xj2_s10.toNat).take ((x2.length : Int).toNat - xj2_s10.toNat)).length cj2_6] ([((x0.f1.drop (0 : Int).toNat).take ((IntKind.i64.wrap ((IntKind.i64.wrap (xj2_s12 - x0.f0.f0)) - 1)).toNat - (0 : Int).toNat)), ((x2.drop xj2_s10.toNat).take ((x2.length : Int).toNat - xj2_s10.toNat))] : List (List S80)) := (elCons (d := (kslice kS80)) (M := M) (a := [.slice Aj2_2 ((x0.f1.drop (0 : Int).toNat).take ((IntKind.i64.wrap ((IntKind.i64.wrap (xj2_s12 - x0.f0.f0)) - 1)).toNat - (0 : Int).toNat)).length cj2_3]) (x := ((x0.f1.drop (0 : Int).toNat).take ((IntKind.i64.wrap ((IntKind.i64.wrap (xj2_s12 - x0.f0.f0)) - 1)).toNat - (0 : Int).toNat))) ⟨_, _, rfl, lj2_3⟩ (elCons (d := (kslice kS80)) (M := M) (a := [.slice Aj2_5 ((x2.drop xj2_s10.toNat).take ((x2.length : Int).toNat - xj2_s10.toNat)).length cj2_6]) (x := ((x2.drop xj2_s10.toNat).take ((x2.length : Int).toNat - xj2_s10.toNat))) ⟨_, _, rfl, lj2_6⟩ elNil))
      refine g_bs 59 25 1 2 [.slice Aj2_2 ((x0.f1.drop (0 : Int).toNat).take ((IntKind.i64.wrap ((IntKind.i64.wrap (xj2_s12 - x0.f0.f0)) - 1)).toNat - (0 : Int).toNat)).length cj2_3, .slice Aj2_5 ((x2.drop xj2_s10.toNat).take ((x2.length : Int).toNat - xj2_s10.toNat)).length cj2_6] fun bj2_908 => ?_
      refine fzI 3 25 (some ⟨bj2_908, 0, none⟩) 2 ej2_907 fun Mhj2_967 lhj2_967 hj2_967 => ?_
      refine g_call0 60 (f96_ok _ _ htj2_968 hj2_967) ?_
      rintro _ Mj2_972 _ ⟨Aj2_969, cj2_970, csj2_971, rfl, rfl, hj2_972⟩ hMj2_972
      refine seg [.b, .s 2] [] [(2, .blk bj2_1087 (cS26 (S26.mk x0.f0 tj2_968) Ahx0_2 chx0_2 Aj2_969 cj2_970) 27)] ?_
      refine fin ?_
      replace hj2_0_0_l2 := ((hj2_0_0_l2.mono lhj2_967).mono hMj2_972)
      exact to [1, 2, 4] (@f87_j3 _ _ _ _ ihj1 Mj2_972 csj2_971 b0_2 bj2_1087 chx0_2 cj2_970 Ahx0_2 Aj2_969 _ _ _ hm hj2_0_0_l2 hj2_972)
theorem f87_j1 {w0 : World} {M0 : Mem} {r : (S26 × Int × Int)} : ∀ k, H87_j1 w0 M0 r (m87_j1 k) := by
  intro k; induction k with
  | zero => intro M b0_1 b0_2 chx0_2 chx0_3 cx2 Ahx0_2 Ahx0_3 Ax2 x1 xj1_s24 x2 x0 hm; exact absurd hm (by simp [m87_j1])
  | succ k ihj1 =>
    intro M b0_1 b0_2 chx0_2 chx0_3 cx2 Ahx0_2 Ahx0_3 Ax2 x1 xj1_s24 x2 x0 hm hj1_s2 hj1_s22 hj1_0_0_l2 hj1_0_0_l3
    rw [m87_j1.eq_2] at hm
    refine gl [1, 1, 0, 1, 0] plain_done ?_
    refine rs [1, 1, 0, 1, 0, 0, 0] [.p 1] [(25, .bool (decide ((xj1_s24 : Int) < (x2.length : Int))))] [] ?_
    refine gi [1, 1, 0, 1, 0, 0, 1, 0] hm (fun hm => ?_) fun hm => ?_
    · obtain ⟨ej1_1, bj1_2, fj1_3, kj1_4, Wj1_5, hm, haej1_1, hbej1_1, hmej1_1, hwej1_1, hrej1_1⟩ := ixo hm hj1_s22
      obtain ⟨Ahrej1_1_2, chrej1_1_2, hcej1_1, hrej1_1_2⟩ := kS80_open hrej1_1
      replace hwej1_1 := hwej1_1.trans hcej1_1
      refine rg [1, 1, 0, 1, 0, 0, 1, 1, 0, 0, 0] ?_
      refine seg [.p 1] [(26, .int .i64 xj1_s24)] [] ?_
      refine g_ix 27 3 haej1_1 hbej1_1 ?_
      refine g_lw 28 0 (.agg (cS80 ej1_1 Ahrej1_1_2 chrej1_1_2).toArray) hmej1_1 hwej1_1 ?_
      refine g_al 11 81 (cS80 (S80.mk 0 0 []) none 0) fun bj1_6 => ?_
      refine seg [.p 1, .s 2] [(10, .int .i64 xj1_s24)] [(2, .blk bj1_6 (cS80 ej1_1 Ahrej1_1_2 chrej1_1_2) 81)] ?_
      refine fin ?_
      refine rs [1, 1, 0, 1, 0, 0, 1, 1, 0, 0, 1, 0] [.p 5] [(12, .int .i64 (IntKind.i64.wrap ((IntKind.i64.wrap (x1 + 1)) + xj1_s24)))] [] ?_
      obtain ⟨tj1_7, htj1_7, hm⟩ := bind_some hm
      refine rgD [1, 1, 0, 1, 0, 0, 1, 1, 0, 0, 1, 1, 0, 0] (PT.of [0, 5, 11, 12, 16, 21, 24, 32, 37, 31, 40, 44] .dn) [(1, 0), (5, 0), (9, 2)] [0, 4] mixed plain_done ?_
      refine seg [.p 1, .l 0] [(33, .int .i64 (IntKind.i64.wrap ((IntKind.i64.wrap (x1 + 1)) + xj1_s24))), (34, .agg (cS26 x0 Ahx0_2 chx0_2 Ahx0_3 chx0_3).toArray)] [] ?_
      refine g_call0 35 (f80_ok _ _ htj1_7 (kS26_mk (cs := (cS26 x0 Ahx0_2 chx0_2 Ahx0_3 chx0_3)) x0 rfl hj1_0_0_l2 hj1_0_0_l3)) ?_
      rintro _ _ _ ⟨rfl, rfl, rfl⟩ -
      refine seg [.p 2] [(37, .bool (decide (((IntKind.i64.wrap ((IntKind.i64.wrap (x1 + 1)) + xj1_s24)) : Int) ≤ tj1_7)))] [] ?_
      refine gs 37 hm (fun hm => ?_) fun hm => ?_
      · obtain ⟨tj1_8, htj1_8, hm⟩ := bind_some hm
        refine seg [.l 0, .p 2, .l 2] [(38, .agg (cS26 x0 Ahx0_2 chx0_2 Ahx0_3 chx0_3).toArray), (39, .int .i64 (IntKind.i64.wrap ((IntKind.i64.wrap (x1 + 1)) + xj1_s24))), (42, .int .i64 ej1_1.f0)] [] ?_
        refine g_call0 40 (f74_ok _ _ _ htj1_8 (kS26_mk (cs := (cS26 x0 Ahx0_2 chx0_2 Ahx0_3 chx0_3)) x0 rfl hj1_0_0_l2 hj1_0_0_l3)) ?_
        rintro _ _ _ ⟨rfl, rfl, rfl⟩ -
        refine seg [.p 2] [(44, .bool ((tj1_8 : Int) == ej1_1.f0))] [] ?_
        refine fin ?_
        exact to [0, 1] (@f87_j2 _ _ _ _ ihj1 M b0_1 b0_2 chx0_2 chx0_3 cx2 Ahx0_2 Ahx0_3 Ax2 _ _ _ _ _ _ _ hm hj1_s2 hj1_s22 hj1_0_0_l2 hj1_0_0_l3)
      · refine seg [.p 7] [(44, .bool false)] [] ?_
        refine fin ?_
        exact to [0, 1] (@f87_j2 _ _ _ _ ihj1 M b0_1 b0_2 chx0_2 chx0_3 cx2 Ahx0_2 Ahx0_3 Ax2 _ _ _ _ _ _ _ hm hj1_s2 hj1_s22 hj1_0_0_l2 hj1_0_0_l3)
    · obtain ⟨tj1_9, htj1_9, hm⟩ := bind_some hm
      refine rgD [1, 1, 1, 0] (PT.of [1, 5, 11, 12, 19, 20, 24] .dn) [(0, 0), (1, 0)] [0] mixed plain_done ?_
      refine seg [.l 0, .l 0] [(71, .agg (cS26 x0 Ahx0_2 chx0_2 Ahx0_3 chx0_3).toArray), (72, .agg (cS26 x0 Ahx0_2 chx0_2 Ahx0_3 chx0_3).toArray)] [] ?_
      refine g_call0 73 (f80_ok _ _ htj1_9 (kS26_mk (cs := (cS26 x0 Ahx0_2 chx0_2 Ahx0_3 chx0_3)) x0 rfl hj1_0_0_l2 hj1_0_0_l3)) ?_
      rintro _ _ _ ⟨rfl, rfl, rfl⟩ -
      refine seg [.p 1, .s 1, .p 2] [(7, .int .i64 (IntKind.i64.wrap (tj1_9 + 1))), (8, .nilIface)] [(1, .blk b0_2 (cS26 x0 Ahx0_2 chx0_2 Ahx0_3 chx0_3) 27)] ?_
      refine fin ?_
      obtain rfl := Option.some.inj hm
      exact rtc (vs := [.agg (cS26 x0 Ahx0_2 chx0_2 Ahx0_3 chx0_3).toArray, .int .i64 (IntKind.i64.wrap (tj1_9 + 1)), .nilIface]) (v := .tuple #[.agg (cS26 x0 Ahx0_2 chx0_2 Ahx0_3 chx0_3).toArray, .int .i64 (IntKind.i64.wrap (tj1_9 + 1)), .nilIface]) [] [.cell 6 27, .tmp 7, .tmp 8] (.cell 1 0 (by kernel_rfl) (by kernel_rfl) (.tmp (by kernel_rfl) (.tmp (by kernel_rfl) .nil))) ⟨(cS26 x0 Ahx0_2 chx0_2 Ahx0_3 chx0_3), rfl, rfl, (kS26_mk (cs := (cS26 x0 Ahx0_2 chx0_2 Ahx0_3 chx0_3)) x0 rfl hj1_0_0_l2 hj1_0_0_l3)⟩ rfl rfl
theorem f87_ok {M : Mem} {csx0 : List Value} {Ax2 : Option Addr} {cx2 : Nat} (x0 : S26) (x1 : Int) (x2 : List S80) (r : (S26 × Int × Int)) (hm : m87 x0 x1 x2 = some r) (hx0 : kS26.rep M csx0 x0) (hx2 : SlAt kS80 M Ax2 cx2 x2) : FnOk Try.prog 87 [.agg csx0.toArray, .int .i64 x1, .slice Ax2 x2.length cx2] M [] (R87 M r) := by
  obtain ⟨Ahx0_2, chx0_2, Ahx0_3, chx0_3, rfl, hx0_2, hx0_3⟩ := kS26_open hx0
  refine intro_ (c := c87) 75 Try.func87 fun w => ?_
  unfold m87 at hm
  refine rg [0] ?_
  refine g_bx 3 27 (.agg (cS26 x0 Ahx0_2 chx0_2 Ahx0_3 chx0_3).toArray) fun b0_1 => ?_
  refine g_al 6 27 (cS26 (S26.mk (S23.mk 0 0 []) []) none 0 none 0) fun b0_2 => ?_
  refine seg [.p 2] [] [] ?_
  refine fin ?_
  obtain ⟨t0_3, ht0_3, hm⟩ := bind_some hm
  refine rg [1, 0, 0] ?_
  refine seg [.l 0, .p 1] [(15, .agg (cS26 x0 Ahx0_2 chx0_2 Ahx0_3 chx0_3).toArray), (16, .int .i64 x1)] [] ?_
  refine g_call0 17 (f73_ok _ _ _ ht0_3 (kS26_mk (cs := (cS26 x0 Ahx0_2 chx0_2 Ahx0_3 chx0_3)) x0 rfl hx0_2 hx0_3)) ?_
  rintro _ _ _ ⟨rfl, rfl, rfl⟩ -
  refine seg [.p 1] [(9, errV 39 t0_3)] [] ?_
  refine fin ?_
  refine rs [1, 0, 1, 0] [.p 1, .e 39 t0_3] [(19, .bool ((t0_3 : Int) != 0))] [] ?_
  refine gi [1, 0, 1, 1] hm (fun hm => ?_) fun hm => ?_
  · refine rs [1, 0, 1, 1, 0, 0] [.b, .p 1, .s 1, .p 2] [(7, .int .i64 0), (8, errV 39 t0_3)] [(1, .blk b0_2 (cS26 (S26.mk (S23.mk 0 0 []) []) none 0 none 0) 27)] ?_
    obtain rfl := Option.some.inj hm
    exact rtc (vs := [.agg (cS26 (S26.mk (S23.mk 0 0 []) []) none 0 none 0).toArray, .int .i64 0, errV 39 t0_3]) (v := .tuple #[.agg (cS26 (S26.mk (S23.mk 0 0 []) []) none 0 none 0).toArray, .int .i64 0, errV 39 t0_3]) [] [.cell 6 27, .tmp 7, .tmp 8] (.cell 1 0 (by kernel_rfl) (by kernel_rfl) (.tmp (by kernel_rfl) (.tmp (by kernel_rfl) .nil))) ⟨(cS26 (S26.mk (S23.mk 0 0 []) []) none 0 none 0), rfl, rfl, (kS26_mk (cs := (cS26 (S26.mk (S23.mk 0 0 []) []) none 0 none 0)) (S26.mk (S23.mk 0 0 []) []) rfl slNil slNil)⟩ rfl rfl
  · refine rs [1, 1, 0, 0] [.p 3] [(22, .slice Ax2 x2.length cx2), (23, .int .i64 (x2.length : Int)), (24, .int .i64 0)] [] ?_
    exact to [0, 1] (@f87_j1 _ _ _ FUEL M b0_1 b0_2 chx0_2 chx0_3 cx2 Ahx0_2 Ahx0_3 Ax2 _ _ _ _ hm hx2 hx2 hx0_2 hx0_3)

/-! ## (heartwood/raft.stepper).app$1 -/
/-- (heartwood/raft.stepper).app$1: what is left behind a call. -/
abbrev R89 (M : Mem) (bz0 : Nat) (csz0 : List Value) (r : Bool) : Value → Mem → List Res → Prop := fun v M' H' => .bool r = v ∧ M = M' ∧ H' = [.blk bz0 csz0 47]
noncomputable def c89 : Code := match Try.f89.body with | some c => c | none => .skip
theorem f89_ok {M : Mem} {csx0 : List Value} {bz0 : Nat} {csz0 : List Value} (x0 : S80) (z0 : S46) (r : Bool) (hm : m89 x0 z0 = some r) (hx0 : kS80.rep M csx0 x0) (hz0 : (kS46).rep M csz0 z0) : FnOk Try.prog 89 [.agg csx0.toArray, .pointer (some ⟨bz0, 0, none⟩)] M [.blk bz0 csz0 47] (R89 M bz0 csz0 r) := by
  obtain ⟨Ahx0_2, chx0_2, rfl, hx0_2⟩ := kS80_open hx0
  obtain ⟨Ahz0_8, chz0_8, Ahz0_9, chz0_9, Ahz0_11, chz0_11, Ahz0_13, chz0_13, Ahz0_14, chz0_14, Ahz0_15, chz0_15, rfl, hz0_8, hz0_9, hz0_11, hz0_13, hz0_14, hz0_15, hz0_16⟩ := kS46_open hz0
  refine intro_ (c := c89) 9 Try.func89 fun w => ?_
  unfold m89 at hm
  refine rg [0] ?_
  refine g_bx 2 81 (.agg (cS80 x0 Ahx0_2 chx0_2).toArray) fun b0_1 => ?_
  refine seg [.p 1] [] [] ?_
  refine fin ?_
  refine rs [1, 0] [.p 1, .l 1, .p 1, .l 0, .p 2] [(3, .bool (decide ((x0.f0 : Int) > z0.f3)))] [] ?_
  obtain rfl := Option.some.inj hm
  exact rtp (v := .bool (decide ((x0.f0 : Int) > z0.f3))) [0] ⟨rfl, rfl, rfl⟩

end Go.Proofs.Ythpdomeciaafjaa
