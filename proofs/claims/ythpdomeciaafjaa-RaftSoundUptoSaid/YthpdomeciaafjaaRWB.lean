/- Walks: each Go function does what its model says. Printed by an own program. -/
import Derived.Test.YthpdomeciaafjaaRWA
set_option maxRecDepth 100000
set_option linter.unusedVariables false
namespace Go.Proofs.Ythpdomeciaafjaa
open Go.Fx

/-! ## slices.IndexFunc[[]heartwood/api.Entry,heartwood/api.Entry] -/
/-- slices.IndexFunc[[]heartwood/api.Entry,heartwood/api.Entry]: what is left behind a call. -/
abbrev R97v1 (M : Mem) (bz0 : Nat) (csz0 : List Value) (r : Int) : Value → Mem → List Res → Prop := fun v M' H' => .int .i64 r = v ∧ M = M' ∧ H' = [.blk bz0 csz0 47]
abbrev C97v1 (w0 : World) (M0 : Mem) (bz0 : Nat) (z0 : S46) (Ahz0_8 : Option Addr) (chz0_8 : Nat) (Ahz0_9 : Option Addr) (chz0_9 : Nat) (Ahz0_11 : Option Addr) (chz0_11 : Nat) (Ahz0_13 : Option Addr) (chz0_13 : Nat) (Ahz0_14 : Option Addr) (chz0_14 : Nat) (Ahz0_15 : Option Addr) (chz0_15 : Nat) : Ctx := ⟨19, w0, M0, [.blk bz0 (cS46 z0 Ahz0_8 chz0_8 Ahz0_9 chz0_9 Ahz0_11 chz0_11 Ahz0_13 chz0_13 Ahz0_14 chz0_14 Ahz0_15 chz0_15) 47]⟩
abbrev D97v1 (w0 : World) (M0 : Mem) (r : Int) (bz0 : Nat) (z0 : S46) (Ahz0_8 : Option Addr) (chz0_8 : Nat) (Ahz0_9 : Option Addr) (chz0_9 : Nat) (Ahz0_11 : Option Addr) (chz0_11 : Nat) (Ahz0_13 : Option Addr) (chz0_13 : Nat) (Ahz0_14 : Option Addr) (chz0_14 : Nat) (Ahz0_15 : Option Addr) (chz0_15 : Nat) : Post := Done Try.prog Try.f97 (C97v1 w0 M0 bz0 z0 Ahz0_8 chz0_8 Ahz0_9 chz0_9 Ahz0_11 chz0_11 Ahz0_13 chz0_13 Ahz0_14 chz0_14 Ahz0_15 chz0_15) (R97v1 M0 bz0 (cS46 z0 Ahz0_8 chz0_8 Ahz0_9 chz0_9 Ahz0_11 chz0_11 Ahz0_13 chz0_13 Ahz0_14 chz0_14 Ahz0_15 chz0_15) r)
abbrev H97v1_j1 (w0 : World) (M0 : Mem) (r : Int) (Lj1 : Int → (List S80) → S46 → Option Int) : Prop := ∀ {M : Mem} {bz0 chz0_11 chz0_13 chz0_14 chz0_15 chz0_8 chz0_9 cx0 : Nat} {Ahz0_11 Ahz0_13 Ahz0_14 Ahz0_15 Ahz0_8 Ahz0_9 Ax0 : Option Addr} (xj1_s8 : Int) (x0 : List S80) (z0 : S46) (_ : Lj1 xj1_s8 x0 z0 = some r) (_ : SlAt kS80 M Ax0 cx0 x0) (_ : SlAt kS80 M Ahz0_8 chz0_8 z0.f8) (_ : SlAt (kint .i64) M Ahz0_9 chz0_9 z0.f9) (_ : SlAt (kint .u8) M Ahz0_11 chz0_11 z0.f11) (_ : SlAt (kint .u8) M Ahz0_13 chz0_13 z0.f12.f1) (_ : SlAt (kint .u8) M Ahz0_14 chz0_14 z0.f12.f2) (_ : SlAt (kint .u8) M Ahz0_15 chz0_15 z0.f12.f3) (_ : Value.oneCell' z0.f12.f4 = true), AG Try.prog c97 [1, 0, 1, 0] (D97v1 w0 M0 r bz0 z0 Ahz0_8 chz0_8 Ahz0_9 chz0_9 Ahz0_11 chz0_11 Ahz0_13 chz0_13 Ahz0_14 chz0_14 Ahz0_15 chz0_15) (C97v1 w0 M0 bz0 z0 Ahz0_8 chz0_8 Ahz0_9 chz0_9 Ahz0_11 chz0_11 Ahz0_13 chz0_13 Ahz0_14 chz0_14 Ahz0_15 chz0_15) (env [(0, .slice Ax0 x0.length cx0), (1, .func (.func 89) #[] #[.pointer (some ⟨bz0, 0, none⟩)]), (7, .int .i64 (x0.length : Int)), (8, .int .i64 xj1_s8)]) M [.blk bz0 (cS46 z0 Ahz0_8 chz0_8 Ahz0_9 chz0_9 Ahz0_11 chz0_11 Ahz0_13 chz0_13 Ahz0_14 chz0_14 Ahz0_15 chz0_15) 47]
theorem f97v1_j1 {w0 : World} {M0 : Mem} {r : Int} : ∀ k, H97v1_j1 w0 M0 r (m97v1_j1 k) := by
  intro k; induction k with
  | zero => intro M bz0 chz0_11 chz0_13 chz0_14 chz0_15 chz0_8 chz0_9 cx0 Ahz0_11 Ahz0_13 Ahz0_14 Ahz0_15 Ahz0_8 Ahz0_9 Ax0 xj1_s8 x0 z0 hm; exact absurd hm (by simp [m97v1_j1])
  | succ k ihj1 =>
    intro M bz0 chz0_11 chz0_13 chz0_14 chz0_15 chz0_8 chz0_9 cx0 Ahz0_11 Ahz0_13 Ahz0_14 Ahz0_15 Ahz0_8 Ahz0_9 Ax0 xj1_s8 x0 z0 hm hj1_s0 hj1_q1_c0_l8 hj1_q1_c0_l9 hj1_q1_c0_l11 hj1_q1_c0_l13 hj1_q1_c0_l14 hj1_q1_c0_l15 oj1_q1_c0_l16
    rw [m97v1_j1.eq_2] at hm
    refine gl [1, 0, 1, 0] plain_done ?_
    refine rs [1, 0, 1, 0, 0, 0] [.p 1] [(9, .bool (decide ((xj1_s8 : Int) < (x0.length : Int))))] [] ?_
    refine gi [1, 0, 1, 0, 0, 1, 0] hm (fun hm => ?_) fun hm => ?_
    · refine rs [1, 0, 1, 0, 0, 1, 1, 0, 0, 0] [.p 2] [(5, .int .i64 xj1_s8)] [] ?_
      obtain ⟨ej1_1, bj1_2, fj1_3, kj1_4, Wj1_5, hm, haej1_1, hbej1_1, hmej1_1, hwej1_1, hrej1_1⟩ := ixo hm hj1_s0
      obtain ⟨Ahrej1_1_2, chrej1_1_2, hcej1_1, hrej1_1_2⟩ := kS80_open hrej1_1
      replace hwej1_1 := hwej1_1.trans hcej1_1
      refine rg [1, 0, 1, 0, 0, 1, 1, 0, 0, 1, 0] ?_
      refine seg [.p 3] [(11, .func (.func 89) #[] #[.pointer (some ⟨bz0, 0, none⟩)]), (12, .slice Ax0 x0.length cx0), (13, .int .i64 xj1_s8)] [] ?_
      refine g_ix 14 3 haej1_1 hbej1_1 ?_
      refine g_lw 15 0 (.agg (cS80 ej1_1 Ahrej1_1_2 chrej1_1_2).toArray) hmej1_1 hwej1_1 ?_
      obtain ⟨tj1_6, htj1_6, hm⟩ := bind_some hm
      refine g_call 16 [0] (f89_ok (bz0 := bz0) _ _ _ htj1_6 (kS80_mk (cs := (cS80 ej1_1 Ahrej1_1_2 chrej1_1_2)) ej1_1 rfl hrej1_1_2) (kS46_mk (cs := (cS46 z0 Ahz0_8 chz0_8 Ahz0_9 chz0_9 Ahz0_11 chz0_11 Ahz0_13 chz0_13 Ahz0_14 chz0_14 Ahz0_15 chz0_15)) z0 rfl hj1_q1_c0_l8 hj1_q1_c0_l9 hj1_q1_c0_l11 hj1_q1_c0_l13 hj1_q1_c0_l14 hj1_q1_c0_l15 oj1_q1_c0_l16)) ?_
      rintro _ _ _ ⟨rfl, rfl, rfl⟩ -
      refine fin ?_
      refine gi [1, 0, 1, 0, 0, 1, 1, 0, 0, 1, 1] hm (fun hm => ?_) fun hm => ?_
      · refine rs [1, 0, 1, 0, 0, 1, 1, 0, 0, 1, 1, 0, 0] [.p 2] [(4, .int .i64 xj1_s8)] [] ?_
        obtain rfl := Option.some.inj hm
        exact rtp (v := .int .i64 xj1_s8) [0] ⟨rfl, rfl, rfl⟩
      · refine rs [1, 0, 1, 0, 0, 1, 1, 1] [.p 2] [(8, .int .i64 (IntKind.i64.wrap (xj1_s8 + 1)))] [] ?_
        exact to [0] (@ihj1 M bz0 chz0_11 chz0_13 chz0_14 chz0_15 chz0_8 chz0_9 cx0 Ahz0_11 Ahz0_13 Ahz0_14 Ahz0_15 Ahz0_8 Ahz0_9 Ax0 _ _ _ hm hj1_s0 hj1_q1_c0_l8 hj1_q1_c0_l9 hj1_q1_c0_l11 hj1_q1_c0_l13 hj1_q1_c0_l14 hj1_q1_c0_l15 oj1_q1_c0_l16)
    · refine rs [1, 1, 0] [.p 1] [(4, .int .i64 (-1))] [] ?_
      obtain rfl := Option.some.inj hm
      exact rtp (v := .int .i64 (-1)) [0] ⟨rfl, rfl, rfl⟩
theorem f97v1_ok {M : Mem} {Ax0 : Option Addr} {cx0 : Nat} {bz0 : Nat} {csz0 : List Value} (x0 : List S80) (z0 : S46) (r : Int) (hm : m97v1 x0 z0 = some r) (hx0 : SlAt kS80 M Ax0 cx0 x0) (hz0 : (kS46).rep M csz0 z0) : FnOk Try.prog 97 [.slice Ax0 x0.length cx0, .func (.func 89) #[] #[.pointer (some ⟨bz0, 0, none⟩)]] M [.blk bz0 csz0 47] (R97v1 M bz0 csz0 r) := by
  obtain ⟨Ahz0_8, chz0_8, Ahz0_9, chz0_9, Ahz0_11, chz0_11, Ahz0_13, chz0_13, Ahz0_14, chz0_14, Ahz0_15, chz0_15, rfl, hz0_8, hz0_9, hz0_11, hz0_13, hz0_14, hz0_15, hz0_16⟩ := kS46_open hz0
  refine intro_ (c := c97) 19 Try.func97 fun w => ?_
  unfold m97v1 at hm
  refine rs [0] [.p 1] [] [] ?_
  refine rs [1, 0, 0] [.p 3] [(7, .int .i64 (x0.length : Int)), (8, .int .i64 0)] [] ?_
  exact to [0] (@f97v1_j1 _ _ _ FUEL M bz0 chz0_11 chz0_13 chz0_14 chz0_15 chz0_8 chz0_9 cx0 Ahz0_11 Ahz0_13 Ahz0_14 Ahz0_15 Ahz0_8 Ahz0_9 Ax0 _ _ _ hm hx0 hz0_8 hz0_9 hz0_11 hz0_13 hz0_14 hz0_15 hz0_16)

/-! ## slices.ContainsFunc[[]heartwood/api.Entry,heartwood/api.Entry] -/
/-- slices.ContainsFunc[[]heartwood/api.Entry,heartwood/api.Entry]: what is left behind a call. -/
abbrev R88v1 (M : Mem) (bz0 : Nat) (csz0 : List Value) (r : Bool) : Value → Mem → List Res → Prop := fun v M' H' => .bool r = v ∧ M = M' ∧ H' = [.blk bz0 csz0 47]
theorem f88v1_ok {M : Mem} {Ax0 : Option Addr} {cx0 : Nat} {bz0 : Nat} {csz0 : List Value} (x0 : List S80) (z0 : S46) (r : Bool) (hm : m88v1 x0 z0 = some r) (hx0 : SlAt kS80 M Ax0 cx0 x0) (hz0 : (kS46).rep M csz0 z0) : FnOk Try.prog 88 [.slice Ax0 x0.length cx0, .func (.func 89) #[] #[.pointer (some ⟨bz0, 0, none⟩)]] M [.blk bz0 csz0 47] (R88v1 M bz0 csz0 r) := by
  obtain ⟨Ahz0_8, chz0_8, Ahz0_9, chz0_9, Ahz0_11, chz0_11, Ahz0_13, chz0_13, Ahz0_14, chz0_14, Ahz0_15, chz0_15, rfl, hz0_8, hz0_9, hz0_11, hz0_13, hz0_14, hz0_15, hz0_16⟩ := kS46_open hz0
  refine intro_ (c := c88) 9 Try.func88 fun w => ?_
  unfold m88v1 at hm
  refine rs [0] [.p 1] [] [] ?_
  obtain ⟨t0_1, ht0_1, hm⟩ := bind_some hm
  refine rg [1, 0] ?_
  refine seg [.p 2] [(5, .slice Ax0 x0.length cx0), (6, .func (.func 89) #[] #[.pointer (some ⟨bz0, 0, none⟩)])] [] ?_
  refine g_call 7 [0] (f97v1_ok (bz0 := bz0) _ _ _ ht0_1 hx0 (kS46_mk (cs := (cS46 z0 Ahz0_8 chz0_8 Ahz0_9 chz0_9 Ahz0_11 chz0_11 Ahz0_13 chz0_13 Ahz0_14 chz0_14 Ahz0_15 chz0_15)) z0 rfl hz0_8 hz0_9 hz0_11 hz0_13 hz0_14 hz0_15 hz0_16)) ?_
  rintro _ _ _ ⟨rfl, rfl, rfl⟩ -
  refine seg [.p 2] [(4, .bool (decide ((t0_1 : Int) ≥ 0)))] [] ?_
  refine fin ?_
  obtain rfl := Option.some.inj hm
  exact rtp (v := .bool (decide ((t0_1 : Int) ≥ 0))) [0] ⟨rfl, rfl, rfl⟩

/-! ## (heartwood/raft.stepper).app -/
/-- (heartwood/raft.stepper).app: what is left behind a call. -/
abbrev R64 (M : Mem) (bx0 : Nat) (csx0 : List Value) (Ax0_15 : Option Addr) (x0 : S85) (cx0_15 : Nat) (rcx0_15 : List Value) (r : S85) : Value → Mem → List Res → Prop := fun v M' H' => ∃ (q0 : List Value) (w0_15 : Option Addr) (y0_15 : Nat) (z0_15 : List Value), .tuple #[] = v ∧ H' = [.blk bx0 q0 86, .row (.slice w0_15 r.f1.length y0_15) 47 17 r.f1.length z0_15] ∧ (oS85 w0_15 y0_15).rep M' q0 r ∧ Elems kS46 M' z0_15 r.f1
noncomputable def c64 : Code := match Try.f64.body with | some c => c | none => .skip
abbrev C64 (w0 : World) (M0 : Mem) (bx0 : Nat) (x0 : S85) (Ahx0_7 : Option Addr) (chx0_7 : Nat) (Ahx0_8 : Option Addr) (chx0_8 : Nat) (Ahx0_10 : Option Addr) (chx0_10 : Nat) (Ax0_15 : Option Addr) (cx0_15 : Nat) (rcx0_15 : List Value) : Ctx := ⟨128, w0, M0, [.blk bx0 (cS85 x0 Ahx0_7 chx0_7 Ahx0_8 chx0_8 Ahx0_10 chx0_10 Ax0_15 cx0_15) 86, .row (.slice Ax0_15 x0.f1.length cx0_15) 47 17 x0.f1.length rcx0_15]⟩
abbrev D64 (w0 : World) (M0 : Mem) (r : S85) (bx0 : Nat) (x0 : S85) (Ahx0_7 : Option Addr) (chx0_7 : Nat) (Ahx0_8 : Option Addr) (chx0_8 : Nat) (Ahx0_10 : Option Addr) (chx0_10 : Nat) (Ax0_15 : Option Addr) (cx0_15 : Nat) (rcx0_15 : List Value) : Post := Done Try.prog Try.f64 (C64 w0 M0 bx0 x0 Ahx0_7 chx0_7 Ahx0_8 chx0_8 Ahx0_10 chx0_10 Ax0_15 cx0_15 rcx0_15) (R64 M0 bx0 (cS85 x0 Ahx0_7 chx0_7 Ahx0_8 chx0_8 Ahx0_10 chx0_10 Ax0_15 cx0_15) Ax0_15 x0 cx0_15 rcx0_15 r)
theorem f64_j3 {w0 : World} {M0 : Mem} {r : S85} : ∀ {M : Mem} {rc0_7 rcx0_15 : List Value} {b0_1 bj2_4 bx0 c0_6 ch0_4_10 ch0_4_7 ch0_4_8 chj2_3_2 chj2_3_3 chx0_10 chx0_7 chx0_8 chx1_11 chx1_13 chx1_14 chx1_15 chx1_8 chx1_9 cj3_s6 cx0_15 : Nat} {A0_5 Ah0_4_10 Ah0_4_7 Ah0_4_8 Ahj2_3_2 Ahj2_3_3 Ahx0_10 Ahx0_7 Ahx0_8 Ahx1_11 Ahx1_13 Ahx1_14 Ahx1_15 Ahx1_8 Ahx1_9 Aj3_s6 Ax0_15 : Option Addr} (tj2_1 : (S26 × Int × Int)) (xj3_s101 : Bool) (xj3_s5 : Int) (xj3_s6 : List S80) (x1 : S46) (t0_2 x0 : S85) (_ : m64_j3 tj2_1 xj3_s101 xj3_s5 xj3_s6 x1 t0_2 x0 = some r) (_ : SlAt kS80 M Aj3_s6 cj3_s6 xj3_s6) (_ : SlAt (kint .i64) M Ah0_4_7 ch0_4_7 t0_2.f0.f5.f0.f2) (_ : SlAt kS80 M Ah0_4_8 ch0_4_8 t0_2.f0.f5.f1) (_ : SlAt (kint .i64) M Ah0_4_10 ch0_4_10 t0_2.f0.f7) (_ : t0_2.f0.f8.length = 8) (_ : t0_2.f0.f9.length = 8) (_ : Elems kS46 M rc0_7 t0_2.f1) (_ : SlAt kS80 M Ahx1_8 chx1_8 x1.f8) (_ : SlAt (kint .i64) M Ahx1_9 chx1_9 x1.f9) (_ : SlAt (kint .u8) M Ahx1_11 chx1_11 x1.f11) (_ : SlAt (kint .u8) M Ahx1_13 chx1_13 x1.f12.f1) (_ : SlAt (kint .u8) M Ahx1_14 chx1_14 x1.f12.f2) (_ : SlAt (kint .u8) M Ahx1_15 chx1_15 x1.f12.f3) (_ : Value.oneCell' x1.f12.f4 = true) (_ : SlAt (kint .i64) M Ahj2_3_2 chj2_3_2 tj2_1.1.f0.f2) (_ : SlAt kS80 M Ahj2_3_3 chj2_3_3 tj2_1.1.f1), AG Try.prog c64 [1, 1, 1, 1, 1, 1, 1, 0, 1] (D64 w0 M0 r bx0 x0 Ahx0_7 chx0_7 Ahx0_8 chx0_8 Ahx0_10 chx0_10 Ax0_15 cx0_15 rcx0_15) (C64 w0 M0 bx0 x0 Ahx0_7 chx0_7 Ahx0_8 chx0_8 Ahx0_10 chx0_10 Ax0_15 cx0_15 rcx0_15) (env [(0, .pointer (some ⟨bx0, 0, none⟩)), (3, .pointer (some ⟨b0_1, 0, none⟩)), (4, .pointer (some ⟨bx0, 0, none⟩)), (5, .int .i64 xj3_s5), (6, .slice Aj3_s6 xj3_s6.length cj3_s6), (10, .pointer (some ⟨bj2_4, 0, none⟩)), (101, .bool xj3_s101)]) M [.blk bx0 (cS85 t0_2 Ah0_4_7 ch0_4_7 Ah0_4_8 ch0_4_8 Ah0_4_10 ch0_4_10 A0_5 c0_6) 86, .row (.slice A0_5 t0_2.f1.length c0_6) 47 17 t0_2.f1.length rc0_7, .blk b0_1 (cS46 x1 Ahx1_8 chx1_8 Ahx1_9 chx1_9 Ahx1_11 chx1_11 Ahx1_13 chx1_13 Ahx1_14 chx1_14 Ahx1_15 chx1_15) 47, .blk bj2_4 (cS26 (S26.mk (S23.mk tj2_1.1.f0.f0 tj2_1.1.f0.f1 tj2_1.1.f0.f2) tj2_1.1.f1) Ahj2_3_2 chj2_3_2 Ahj2_3_3 chj2_3_3) 27] := by
  intro M rc0_7 rcx0_15 b0_1 bj2_4 bx0 c0_6 ch0_4_10 ch0_4_7 ch0_4_8 chj2_3_2 chj2_3_3 chx0_10 chx0_7 chx0_8 chx1_11 chx1_13 chx1_14 chx1_15 chx1_8 chx1_9 cj3_s6 cx0_15 A0_5 Ah0_4_10 Ah0_4_7 Ah0_4_8 Ahj2_3_2 Ahj2_3_3 Ahx0_10 Ahx0_7 Ahx0_8 Ahx1_11 Ahx1_13 Ahx1_14 Ahx1_15 Ahx1_8 Ahx1_9 Aj3_s6 Ax0_15 tj2_1 xj3_s101 xj3_s5 xj3_s6 x1 t0_2 x0 hm hj3_s6 hj3_p0_l7 hj3_p0_l8 hj3_p0_l10 lj3_p0_l11 lj3_p0_l12 ej3_p0_15 hj3_0_0_l8 hj3_0_0_l9 hj3_0_0_l11 hj3_0_0_l13 hj3_0_0_l14 hj3_0_0_l15 oj3_0_0_l16 hj3_1_1_1_1_1_1_0_11_l2 hj3_1_1_1_1_1_1_0_11_l3; unfold m64_j3 at hm
  refine gi [1, 1, 1, 1, 1, 1, 1, 0, 1] hm (fun hm => ?_) fun hm => ?_
  · obtain rfl := Option.some.inj hm
    exact rt (v := .tuple #[]) [0, 1] ⟨(cS85 t0_2 Ah0_4_7 ch0_4_7 Ah0_4_8 ch0_4_8 Ah0_4_10 ch0_4_10 A0_5 c0_6), A0_5, c0_6, rc0_7, rfl, rfl, (oS85_mk (cs := (cS85 t0_2 Ah0_4_7 ch0_4_7 Ah0_4_8 ch0_4_8 Ah0_4_10 ch0_4_10 A0_5 c0_6)) t0_2 rfl hj3_p0_l7 hj3_p0_l8 hj3_p0_l10 lj3_p0_l11 lj3_p0_l12), ej3_p0_15⟩
  · refine rs [1, 1, 1, 1, 1, 1, 1, 1, 0] [.p 1, .l 3, .p 2, .s 0] [] [(0, .blk bx0 (cS85 ({ t0_2 with f0 := { t0_2.f0 with f5 := (S26.mk (S23.mk tj2_1.1.f0.f0 tj2_1.1.f0.f1 tj2_1.1.f0.f2) tj2_1.1.f1) } }) Ahj2_3_2 chj2_3_2 Ahj2_3_3 chj2_3_3 Ah0_4_10 ch0_4_10 A0_5 c0_6) 86)] ?_
    refine rs [1, 1, 1, 1, 1, 1, 1, 1, 1, 0] [.p 5] [(13, .int .i64 (IntKind.i64.wrap (xj3_s5 + (xj3_s6.length : Int))))] [] ?_
    refine rgD [1, 1, 1, 1, 1, 1, 1, 1, 1, 1, 0] (PT.of [0, 4, 8, 12, 17, 20, 25, 28, 32, 36, 40, 44, 51] .dn) [(4, 0), (6, 2)] [0, 4] mixed plain_done ?_
    refine seg [.p 4, .l 0, .p 1, .l 2, .p 5, .s 0] [] [(0, .blk bx0 (cS85 ({ t0_2 with f0 := { t0_2.f0 with f5 := (S26.mk (S23.mk tj2_1.1.f0.f0 tj2_1.1.f0.f1 tj2_1.1.f0.f2) tj2_1.1.f1), f6 := (if t0_2.f0.f6 < (if IntKind.i64.wrap (xj3_s5 + (xj3_s6.length : Int)) < x1.f6 then IntKind.i64.wrap (xj3_s5 + (xj3_s6.length : Int)) else x1.f6) then (if IntKind.i64.wrap (xj3_s5 + (xj3_s6.length : Int)) < x1.f6 then IntKind.i64.wrap (xj3_s5 + (xj3_s6.length : Int)) else x1.f6) else t0_2.f0.f6) } }) Ahj2_3_2 chj2_3_2 Ahj2_3_3 chj2_3_3 Ah0_4_10 ch0_4_10 A0_5 c0_6) 86)] ?_
    refine fin ?_
    obtain ⟨tj3_1, htj3_1, hm⟩ := bind_some hm
    refine rg [1, 1, 1, 1, 1, 1, 1, 1, 1, 1, 1] ?_
    refine seg [.p 2, .l 2, .p 1, .b] [(122, .pointer (some ⟨bx0, 0, none⟩)), (124, .int .i64 x1.f1), (126, .agg (cS46 (S46.mk 4 0 0 0 (IntKind.i64.wrap (xj3_s5 + (xj3_s6.length : Int))) 0 0 true [] [] 0 [] (S44.mk 0 [] [] [] (.slice none 0 0))) none 0 none 0 none 0 none 0 none 0 none 0).toArray)] [] ?_
    refine g_call 127 [0, 1] (f59_ok (bx0 := bx0) (Ax0_15 := A0_5) (cx0_15 := c0_6) _ _ _ _ htj3_1 (oS85_mk (cs := (cS85 ({ t0_2 with f0 := { t0_2.f0 with f5 := (S26.mk (S23.mk tj2_1.1.f0.f0 tj2_1.1.f0.f1 tj2_1.1.f0.f2) tj2_1.1.f1), f6 := (if t0_2.f0.f6 < (if IntKind.i64.wrap (xj3_s5 + (xj3_s6.length : Int)) < x1.f6 then IntKind.i64.wrap (xj3_s5 + (xj3_s6.length : Int)) else x1.f6) then (if IntKind.i64.wrap (xj3_s5 + (xj3_s6.length : Int)) < x1.f6 then IntKind.i64.wrap (xj3_s5 + (xj3_s6.length : Int)) else x1.f6) else t0_2.f0.f6) } }) Ahj2_3_2 chj2_3_2 Ahj2_3_3 chj2_3_3 Ah0_4_10 ch0_4_10 A0_5 c0_6)) ({ t0_2 with f0 := { t0_2.f0 with f5 := (S26.mk (S23.mk tj2_1.1.f0.f0 tj2_1.1.f0.f1 tj2_1.1.f0.f2) tj2_1.1.f1), f6 := (if t0_2.f0.f6 < (if IntKind.i64.wrap (xj3_s5 + (xj3_s6.length : Int)) < x1.f6 then IntKind.i64.wrap (xj3_s5 + (xj3_s6.length : Int)) else x1.f6) then (if IntKind.i64.wrap (xj3_s5 + (xj3_s6.length : Int)) < x1.f6 then IntKind.i64.wrap (xj3_s5 + (xj3_s6.length : Int)) else x1.f6) else t0_2.f0.f6) } }) rfl hj3_1_1_1_1_1_1_0_11_l2 hj3_1_1_1_1_1_1_0_11_l3 hj3_p0_l10 lj3_p0_l11 lj3_p0_l12) ej3_p0_15 (kS46_mk (cs := (cS46 (S46.mk 4 0 0 0 (IntKind.i64.wrap (xj3_s5 + (xj3_s6.length : Int))) 0 0 true [] [] 0 [] (S44.mk 0 [] [] [] (.slice none 0 0))) none 0 none 0 none 0 none 0 none 0 none 0)) (S46.mk 4 0 0 0 (IntKind.i64.wrap (xj3_s5 + (xj3_s6.length : Int))) 0 0 true [] [] 0 [] (S44.mk 0 [] [] [] (.slice none 0 0))) rfl slNil slNil slNil slNil slNil slNil rfl)) ?_
    rintro _ Mj3_7 _ ⟨csj3_2, Aj3_4, cj3_5, rcj3_6, rfl, rfl, hj3_3, hj3_7⟩ hMj3_7
    obtain ⟨Ahj3_3_7, chj3_3_7, Ahj3_3_8, chj3_3_8, Ahj3_3_10, chj3_3_10, rfl, hj3_3_7, hj3_3_8, hj3_3_10, hj3_3_11, hj3_3_12⟩ := oS85_open hj3_3
    refine finE ?_
    obtain rfl := Option.some.inj hm
    exact re (v := .tuple #[]) [0, 1] ⟨(cS85 tj3_1 Ahj3_3_7 chj3_3_7 Ahj3_3_8 chj3_3_8 Ahj3_3_10 chj3_3_10 Aj3_4 cj3_5), Aj3_4, cj3_5, rcj3_6, rfl, rfl, (oS85_mk (cs := (cS85 tj3_1 Ahj3_3_7 chj3_3_7 Ahj3_3_8 chj3_3_8 Ahj3_3_10 chj3_3_10 Aj3_4 cj3_5)) tj3_1 rfl hj3_3_7 hj3_3_8 hj3_3_10 hj3_3_11 hj3_3_12), hj3_7⟩
theorem f64_j2 {w0 : World} {M0 : Mem} {r : S85} : ∀ {M : Mem} {rc0_7 rcx0_15 : List Value} {b0_1 bx0 c0_6 ch0_4_10 ch0_4_7 ch0_4_8 chx0_10 chx0_7 chx0_8 chx1_11 chx1_13 chx1_14 chx1_15 chx1_8 chx1_9 cj2_s6 cx0_15 : Nat} {A0_5 Ah0_4_10 Ah0_4_7 Ah0_4_8 Ahx0_10 Ahx0_7 Ahx0_8 Ahx1_11 Ahx1_13 Ahx1_14 Ahx1_15 Ahx1_8 Ahx1_9 Aj2_s6 Ax0_15 : Option Addr} (xj2_s5 : Int) (xj2_s6 : List S80) (x1 : S46) (t0_2 x0 : S85) (_ : m64_j2 xj2_s5 xj2_s6 x1 t0_2 x0 = some r) (_ : SlAt kS80 M Aj2_s6 cj2_s6 xj2_s6) (_ : SlAt (kint .i64) M Ah0_4_7 ch0_4_7 t0_2.f0.f5.f0.f2) (_ : SlAt kS80 M Ah0_4_8 ch0_4_8 t0_2.f0.f5.f1) (_ : SlAt (kint .i64) M Ah0_4_10 ch0_4_10 t0_2.f0.f7) (_ : t0_2.f0.f8.length = 8) (_ : t0_2.f0.f9.length = 8) (_ : Elems kS46 M rc0_7 t0_2.f1) (_ : SlAt kS80 M Ahx1_8 chx1_8 x1.f8) (_ : SlAt (kint .i64) M Ahx1_9 chx1_9 x1.f9) (_ : SlAt (kint .u8) M Ahx1_11 chx1_11 x1.f11) (_ : SlAt (kint .u8) M Ahx1_13 chx1_13 x1.f12.f1) (_ : SlAt (kint .u8) M Ahx1_14 chx1_14 x1.f12.f2) (_ : SlAt (kint .u8) M Ahx1_15 chx1_15 x1.f12.f3) (_ : Value.oneCell' x1.f12.f4 = true), AG Try.prog c64 [1, 1, 1, 1, 1, 1] (D64 w0 M0 r bx0 x0 Ahx0_7 chx0_7 Ahx0_8 chx0_8 Ahx0_10 chx0_10 Ax0_15 cx0_15 rcx0_15) (C64 w0 M0 bx0 x0 Ahx0_7 chx0_7 Ahx0_8 chx0_8 Ahx0_10 chx0_10 Ax0_15 cx0_15 rcx0_15) (env [(0, .pointer (some ⟨bx0, 0, none⟩)), (3, .pointer (some ⟨b0_1, 0, none⟩)), (4, .pointer (some ⟨bx0, 0, none⟩)), (5, .int .i64 xj2_s5), (6, .slice Aj2_s6 xj2_s6.length cj2_s6)]) M [.blk bx0 (cS85 t0_2 Ah0_4_7 ch0_4_7 Ah0_4_8 ch0_4_8 Ah0_4_10 ch0_4_10 A0_5 c0_6) 86, .row (.slice A0_5 t0_2.f1.length c0_6) 47 17 t0_2.f1.length rc0_7, .blk b0_1 (cS46 x1 Ahx1_8 chx1_8 Ahx1_9 chx1_9 Ahx1_11 chx1_11 Ahx1_13 chx1_13 Ahx1_14 chx1_14 Ahx1_15 chx1_15) 47] := by
  intro M rc0_7 rcx0_15 b0_1 bx0 c0_6 ch0_4_10 ch0_4_7 ch0_4_8 chx0_10 chx0_7 chx0_8 chx1_11 chx1_13 chx1_14 chx1_15 chx1_8 chx1_9 cj2_s6 cx0_15 A0_5 Ah0_4_10 Ah0_4_7 Ah0_4_8 Ahx0_10 Ahx0_7 Ahx0_8 Ahx1_11 Ahx1_13 Ahx1_14 Ahx1_15 Ahx1_8 Ahx1_9 Aj2_s6 Ax0_15 xj2_s5 xj2_s6 x1 t0_2 x0 hm hj2_s6 hj2_p0_l7 hj2_p0_l8 hj2_p0_l10 lj2_p0_l11 lj2_p0_l12 ej2_p0_15 hj2_0_0_l8 hj2_0_0_l9 hj2_0_0_l11 hj2_0_0_l13 hj2_0_0_l14 hj2_0_0_l15 oj2_0_0_l16; unfold m64_j2 at hm
  obtain ⟨tj2_1, htj2_1, hm⟩ := bind_some hm
  refine rg [1, 1, 1, 1, 1, 1, 0] ?_
  refine seg [.p 3, .l 0, .p 2] [(80, .agg (cS26 t0_2.f0.f5 Ah0_4_7 ch0_4_7 Ah0_4_8 ch0_4_8).toArray), (81, .int .i64 xj2_s5), (82, .slice Aj2_s6 xj2_s6.length cj2_s6)] [] ?_
  refine g_call0 83 (f87_ok _ _ _ _ htj2_1 (kS26_mk (cs := (cS26 t0_2.f0.f5 Ah0_4_7 ch0_4_7 Ah0_4_8 ch0_4_8)) t0_2.f0.f5 rfl hj2_p0_l7 hj2_p0_l8) hj2_s6) ?_
  rintro _ Mj2_3 _ ⟨csj2_2, rfl, rfl, hj2_3⟩ hMj2_3
  obtain ⟨Ahj2_3_2, chj2_3_2, Ahj2_3_3, chj2_3_3, rfl, hj2_3_2, hj2_3_3⟩ := kS26_open hj2_3
  refine seg [.p 4] [(84, .agg (cS26 (S26.mk (S23.mk tj2_1.1.f0.f0 tj2_1.1.f0.f1 tj2_1.1.f0.f2) tj2_1.1.f1) Ahj2_3_2 chj2_3_2 Ahj2_3_3 chj2_3_3).toArray), (85, .int .i64 tj2_1.2.1), (86, errV 39 tj2_1.2.2)] [] ?_
  refine g_al 10 27 (cS26 (S26.mk (S23.mk 0 0 []) []) none 0 none 0) fun bj2_4 => ?_
  refine seg [.s 3, .p 2] [(11, .int .i64 tj2_1.2.1), (12, errV 39 tj2_1.2.2)] [(3, .blk bj2_4 (cS26 (S26.mk (S23.mk tj2_1.1.f0.f0 tj2_1.1.f0.f1 tj2_1.1.f0.f2) tj2_1.1.f1) Ahj2_3_2 chj2_3_2 Ahj2_3_3 chj2_3_3) 27)] ?_
  refine fin ?_
  refine rg [1, 1, 1, 1, 1, 1, 1, 0, 0] ?_
  refine seg [.p 1, .e 39 tj2_1.2.2, .p 1] [(89, .bool ((tj2_1.2.2 : Int) != 0))] [] ?_
  refine gs 89 hm (fun hm => ?_) fun hm => ?_
  · refine seg [.p 12] [(101, .bool true)] [] ?_
    refine fin ?_
    replace hj2_s6 := (hj2_s6.mono hMj2_3)
    replace hj2_p0_l7 := (hj2_p0_l7.mono hMj2_3)
    replace hj2_p0_l8 := (hj2_p0_l8.mono hMj2_3)
    replace hj2_p0_l10 := (hj2_p0_l10.mono hMj2_3)
    replace ej2_p0_15 := (ej2_p0_15.mono hMj2_3)
    replace hj2_0_0_l8 := (hj2_0_0_l8.mono hMj2_3)
    replace hj2_0_0_l9 := (hj2_0_0_l9.mono hMj2_3)
    replace hj2_0_0_l11 := (hj2_0_0_l11.mono hMj2_3)
    replace hj2_0_0_l13 := (hj2_0_0_l13.mono hMj2_3)
    replace hj2_0_0_l14 := (hj2_0_0_l14.mono hMj2_3)
    replace hj2_0_0_l15 := (hj2_0_0_l15.mono hMj2_3)
    exact to [0, 1, 2, 3] (@f64_j3 _ _ _ Mj2_3 rc0_7 rcx0_15 b0_1 bj2_4 bx0 c0_6 ch0_4_10 ch0_4_7 ch0_4_8 chj2_3_2 chj2_3_3 chx0_10 chx0_7 chx0_8 chx1_11 chx1_13 chx1_14 chx1_15 chx1_8 chx1_9 cj2_s6 cx0_15 A0_5 Ah0_4_10 Ah0_4_7 Ah0_4_8 Ahj2_3_2 Ahj2_3_3 Ahx0_10 Ahx0_7 Ahx0_8 Ahx1_11 Ahx1_13 Ahx1_14 Ahx1_15 Ahx1_8 Ahx1_9 Aj2_s6 Ax0_15 _ _ _ _ _ _ _ hm hj2_s6 hj2_p0_l7 hj2_p0_l8 hj2_p0_l10 lj2_p0_l11 lj2_p0_l12 ej2_p0_15 hj2_0_0_l8 hj2_0_0_l9 hj2_0_0_l11 hj2_0_0_l13 hj2_0_0_l14 hj2_0_0_l15 oj2_0_0_l16 hj2_3_2 hj2_3_3)
  · refine seg [.p 4, .l 0, .p 3] [(97, .bool (decide ((tj2_1.2.1 : Int) ≤ t0_2.f0.f6)))] [] ?_
    refine gs 97 hm (fun hm => ?_) fun hm => ?_
    · refine seg [.p 4] [(101, .bool true)] [] ?_
      refine fin ?_
      replace hj2_s6 := (hj2_s6.mono hMj2_3)
      replace hj2_p0_l7 := (hj2_p0_l7.mono hMj2_3)
      replace hj2_p0_l8 := (hj2_p0_l8.mono hMj2_3)
      replace hj2_p0_l10 := (hj2_p0_l10.mono hMj2_3)
      replace ej2_p0_15 := (ej2_p0_15.mono hMj2_3)
      replace hj2_0_0_l8 := (hj2_0_0_l8.mono hMj2_3)
      replace hj2_0_0_l9 := (hj2_0_0_l9.mono hMj2_3)
      replace hj2_0_0_l11 := (hj2_0_0_l11.mono hMj2_3)
      replace hj2_0_0_l13 := (hj2_0_0_l13.mono hMj2_3)
      replace hj2_0_0_l14 := (hj2_0_0_l14.mono hMj2_3)
      replace hj2_0_0_l15 := (hj2_0_0_l15.mono hMj2_3)
      exact to [0, 1, 2, 3] (@f64_j3 _ _ _ Mj2_3 rc0_7 rcx0_15 b0_1 bj2_4 bx0 c0_6 ch0_4_10 ch0_4_7 ch0_4_8 chj2_3_2 chj2_3_3 chx0_10 chx0_7 chx0_8 chx1_11 chx1_13 chx1_14 chx1_15 chx1_8 chx1_9 cj2_s6 cx0_15 A0_5 Ah0_4_10 Ah0_4_7 Ah0_4_8 Ahj2_3_2 Ahj2_3_3 Ahx0_10 Ahx0_7 Ahx0_8 Ahx1_11 Ahx1_13 Ahx1_14 Ahx1_15 Ahx1_8 Ahx1_9 Aj2_s6 Ax0_15 _ _ _ _ _ _ _ hm hj2_s6 hj2_p0_l7 hj2_p0_l8 hj2_p0_l10 lj2_p0_l11 lj2_p0_l12 ej2_p0_15 hj2_0_0_l8 hj2_0_0_l9 hj2_0_0_l11 hj2_0_0_l13 hj2_0_0_l14 hj2_0_0_l15 oj2_0_0_l16 hj2_3_2 hj2_3_3)
    · obtain ⟨tj2_5, htj2_5, hm⟩ := bind_some hm
      refine seg [.p 2] [(98, .slice Aj2_s6 xj2_s6.length cj2_s6), (99, .func (.func 89) #[] #[.pointer (some ⟨b0_1, 0, none⟩)])] [] ?_
      replace hj2_s6 := (hj2_s6.mono hMj2_3)
      replace hj2_0_0_l8 := (hj2_0_0_l8.mono hMj2_3)
      replace hj2_0_0_l9 := (hj2_0_0_l9.mono hMj2_3)
      replace hj2_0_0_l11 := (hj2_0_0_l11.mono hMj2_3)
      replace hj2_0_0_l13 := (hj2_0_0_l13.mono hMj2_3)
      replace hj2_0_0_l14 := (hj2_0_0_l14.mono hMj2_3)
      replace hj2_0_0_l15 := (hj2_0_0_l15.mono hMj2_3)
      refine g_call 100 [2] (f88v1_ok (bz0 := b0_1) _ _ _ htj2_5 hj2_s6 (kS46_mk (cs := (cS46 x1 Ahx1_8 chx1_8 Ahx1_9 chx1_9 Ahx1_11 chx1_11 Ahx1_13 chx1_13 Ahx1_14 chx1_14 Ahx1_15 chx1_15)) x1 rfl hj2_0_0_l8 hj2_0_0_l9 hj2_0_0_l11 hj2_0_0_l13 hj2_0_0_l14 hj2_0_0_l15 oj2_0_0_l16)) ?_
      rintro _ _ _ ⟨rfl, rfl, rfl⟩ -
      refine seg [.p 1] [(101, .bool tj2_5)] [] ?_
      refine fin ?_
      replace hj2_p0_l7 := (hj2_p0_l7.mono hMj2_3)
      replace hj2_p0_l8 := (hj2_p0_l8.mono hMj2_3)
      replace hj2_p0_l10 := (hj2_p0_l10.mono hMj2_3)
      replace ej2_p0_15 := (ej2_p0_15.mono hMj2_3)
      exact to [0, 1, 2, 3] (@f64_j3 _ _ _ Mj2_3 rc0_7 rcx0_15 b0_1 bj2_4 bx0 c0_6 ch0_4_10 ch0_4_7 ch0_4_8 chj2_3_2 chj2_3_3 chx0_10 chx0_7 chx0_8 chx1_11 chx1_13 chx1_14 chx1_15 chx1_8 chx1_9 cj2_s6 cx0_15 A0_5 Ah0_4_10 Ah0_4_7 Ah0_4_8 Ahj2_3_2 Ahj2_3_3 Ahx0_10 Ahx0_7 Ahx0_8 Ahx1_11 Ahx1_13 Ahx1_14 Ahx1_15 Ahx1_8 Ahx1_9 Aj2_s6 Ax0_15 _ _ _ _ _ _ _ hm hj2_s6 hj2_p0_l7 hj2_p0_l8 hj2_p0_l10 lj2_p0_l11 lj2_p0_l12 ej2_p0_15 hj2_0_0_l8 hj2_0_0_l9 hj2_0_0_l11 hj2_0_0_l13 hj2_0_0_l14 hj2_0_0_l15 oj2_0_0_l16 hj2_3_2 hj2_3_3)
theorem f64_j1 {w0 : World} {M0 : Mem} {r : S85} : ∀ {M : Mem} {rc0_7 rcx0_15 : List Value} {b0_1 bx0 c0_6 ch0_4_10 ch0_4_7 ch0_4_8 chx0_10 chx0_7 chx0_8 chx1_11 chx1_13 chx1_14 chx1_15 chx1_8 chx1_9 cx0_15 : Nat} {A0_5 Ah0_4_10 Ah0_4_7 Ah0_4_8 Ahx0_10 Ahx0_7 Ahx0_8 Ahx1_11 Ahx1_13 Ahx1_14 Ahx1_15 Ahx1_8 Ahx1_9 Ax0_15 : Option Addr} (xj1_s64 : Bool) (x1 : S46) (t0_2 x0 : S85) (_ : m64_j1 xj1_s64 x1 t0_2 x0 = some r) (_ : SlAt kS80 M Ahx1_8 chx1_8 x1.f8) (_ : SlAt (kint .i64) M Ah0_4_7 ch0_4_7 t0_2.f0.f5.f0.f2) (_ : SlAt kS80 M Ah0_4_8 ch0_4_8 t0_2.f0.f5.f1) (_ : SlAt (kint .i64) M Ah0_4_10 ch0_4_10 t0_2.f0.f7) (_ : t0_2.f0.f8.length = 8) (_ : t0_2.f0.f9.length = 8) (_ : Elems kS46 M rc0_7 t0_2.f1) (_ : SlAt kS80 M Ahx1_8 chx1_8 x1.f8) (_ : SlAt (kint .i64) M Ahx1_9 chx1_9 x1.f9) (_ : SlAt (kint .u8) M Ahx1_11 chx1_11 x1.f11) (_ : SlAt (kint .u8) M Ahx1_13 chx1_13 x1.f12.f1) (_ : SlAt (kint .u8) M Ahx1_14 chx1_14 x1.f12.f2) (_ : SlAt (kint .u8) M Ahx1_15 chx1_15 x1.f12.f3) (_ : Value.oneCell' x1.f12.f4 = true), AG Try.prog c64 [1, 1, 1, 1, 1, 0, 1, 1, 1, 1] (D64 w0 M0 r bx0 x0 Ahx0_7 chx0_7 Ahx0_8 chx0_8 Ahx0_10 chx0_10 Ax0_15 cx0_15 rcx0_15) (C64 w0 M0 bx0 x0 Ahx0_7 chx0_7 Ahx0_8 chx0_8 Ahx0_10 chx0_10 Ax0_15 cx0_15 rcx0_15) (env [(0, .pointer (some ⟨bx0, 0, none⟩)), (3, .pointer (some ⟨b0_1, 0, none⟩)), (4, .pointer (some ⟨bx0, 0, none⟩)), (5, .int .i64 x1.f4), (6, .slice Ahx1_8 x1.f8.length chx1_8), (64, .bool xj1_s64)]) M [.blk bx0 (cS85 t0_2 Ah0_4_7 ch0_4_7 Ah0_4_8 ch0_4_8 Ah0_4_10 ch0_4_10 A0_5 c0_6) 86, .row (.slice A0_5 t0_2.f1.length c0_6) 47 17 t0_2.f1.length rc0_7, .blk b0_1 (cS46 x1 Ahx1_8 chx1_8 Ahx1_9 chx1_9 Ahx1_11 chx1_11 Ahx1_13 chx1_13 Ahx1_14 chx1_14 Ahx1_15 chx1_15) 47] := by
  intro M rc0_7 rcx0_15 b0_1 bx0 c0_6 ch0_4_10 ch0_4_7 ch0_4_8 chx0_10 chx0_7 chx0_8 chx1_11 chx1_13 chx1_14 chx1_15 chx1_8 chx1_9 cx0_15 A0_5 Ah0_4_10 Ah0_4_7 Ah0_4_8 Ahx0_10 Ahx0_7 Ahx0_8 Ahx1_11 Ahx1_13 Ahx1_14 Ahx1_15 Ahx1_8 Ahx1_9 Ax0_15 xj1_s64 x1 t0_2 x0 hm hj1_s6 hj1_p0_l7 hj1_p0_l8 hj1_p0_l10 lj1_p0_l11 lj1_p0_l12 ej1_p0_15 hj1_0_0_l8 hj1_0_0_l9 hj1_0_0_l11 hj1_0_0_l13 hj1_0_0_l14 hj1_0_0_l15 oj1_0_0_l16; unfold m64_j1 at hm
  refine gi [1, 1, 1, 1, 1, 0, 1, 1, 1, 1] hm (fun hm => ?_) fun hm => ?_
  · obtain ⟨tj1_1, htj1_1, hm⟩ := bind_some hm
    refine rgD [1, 1, 1, 1, 1, 0, 1, 1, 1, 1, 0, 0] (PT.of [0, 4, 9, 12, 16, 20, 27, 28, 32, 36, 43] .dn) [(2, 2)] [4] mixed plain_done ?_
    refine seg [.p 2, .l 2, .p 3] [(65, .pointer (some ⟨bx0, 0, none⟩)), (67, .int .i64 x1.f1), (69, .int .i64 (IntKind.i64.wrap (x1.f4 - 1))), (70, .pointer (some ⟨bx0, 0, none⟩))] [] ?_
    refine g_callK 71 [0, 1] (f36_ok (bx0 := bx0) (Ax0_15 := A0_5) (cx0_15 := c0_6) _ _ htj1_1 (oS85_mk (cs := (cS85 t0_2 Ah0_4_7 ch0_4_7 Ah0_4_8 ch0_4_8 Ah0_4_10 ch0_4_10 A0_5 c0_6)) t0_2 rfl hj1_p0_l7 hj1_p0_l8 hj1_p0_l10 lj1_p0_l11 lj1_p0_l12) ej1_p0_15) (by rintro _ _ _ ⟨rfl, rfl, rfl⟩; rfl) ?_
    rintro _ _ _ ⟨rfl, rfl, rfl⟩ -
    obtain ⟨tj1_2, htj1_2, hm⟩ := bind_some hm
    refine seg [.p 2, .b] [(74, .agg (cS46 (S46.mk 4 0 0 0 (if (if tj1_1 < IntKind.i64.wrap (x1.f4 - 1) then tj1_1 else IntKind.i64.wrap (x1.f4 - 1)) < 0 then 0 else (if tj1_1 < IntKind.i64.wrap (x1.f4 - 1) then tj1_1 else IntKind.i64.wrap (x1.f4 - 1))) 0 0 false [] [] 0 [] (S44.mk 0 [] [] [] (.slice none 0 0))) none 0 none 0 none 0 none 0 none 0 none 0).toArray)] [] ?_
    refine g_call 75 [0, 1] (f59_ok (bx0 := bx0) (Ax0_15 := A0_5) (cx0_15 := c0_6) _ _ _ _ htj1_2 (oS85_mk (cs := (cS85 t0_2 Ah0_4_7 ch0_4_7 Ah0_4_8 ch0_4_8 Ah0_4_10 ch0_4_10 A0_5 c0_6)) t0_2 rfl hj1_p0_l7 hj1_p0_l8 hj1_p0_l10 lj1_p0_l11 lj1_p0_l12) ej1_p0_15 (kS46_mk (cs := (cS46 (S46.mk 4 0 0 0 (if (if tj1_1 < IntKind.i64.wrap (x1.f4 - 1) then tj1_1 else IntKind.i64.wrap (x1.f4 - 1)) < 0 then 0 else (if tj1_1 < IntKind.i64.wrap (x1.f4 - 1) then tj1_1 else IntKind.i64.wrap (x1.f4 - 1))) 0 0 false [] [] 0 [] (S44.mk 0 [] [] [] (.slice none 0 0))) none 0 none 0 none 0 none 0 none 0 none 0)) (S46.mk 4 0 0 0 (if (if tj1_1 < IntKind.i64.wrap (x1.f4 - 1) then tj1_1 else IntKind.i64.wrap (x1.f4 - 1)) < 0 then 0 else (if tj1_1 < IntKind.i64.wrap (x1.f4 - 1) then tj1_1 else IntKind.i64.wrap (x1.f4 - 1))) 0 0 false [] [] 0 [] (S44.mk 0 [] [] [] (.slice none 0 0))) rfl slNil slNil slNil slNil slNil slNil rfl)) ?_
    rintro _ Mj1_8 _ ⟨csj1_3, Aj1_5, cj1_6, rcj1_7, rfl, rfl, hj1_4, hj1_8⟩ hMj1_8
    obtain ⟨Ahj1_4_7, chj1_4_7, Ahj1_4_8, chj1_4_8, Ahj1_4_10, chj1_4_10, rfl, hj1_4_7, hj1_4_8, hj1_4_10, hj1_4_11, hj1_4_12⟩ := oS85_open hj1_4
    refine fin ?_
    obtain rfl := Option.some.inj hm
    exact rt (v := .tuple #[]) [0, 1] ⟨(cS85 tj1_2 Ahj1_4_7 chj1_4_7 Ahj1_4_8 chj1_4_8 Ahj1_4_10 chj1_4_10 Aj1_5 cj1_6), Aj1_5, cj1_6, rcj1_7, rfl, rfl, (oS85_mk (cs := (cS85 tj1_2 Ahj1_4_7 chj1_4_7 Ahj1_4_8 chj1_4_8 Ahj1_4_10 chj1_4_10 Aj1_5 cj1_6)) tj1_2 rfl hj1_4_7 hj1_4_8 hj1_4_10 hj1_4_11 hj1_4_12), hj1_8⟩
  · exact to [0, 1, 2] (@f64_j2 _ _ _ M rc0_7 rcx0_15 b0_1 bx0 c0_6 ch0_4_10 ch0_4_7 ch0_4_8 chx0_10 chx0_7 chx0_8 chx1_11 chx1_13 chx1_14 chx1_15 chx1_8 chx1_9 chx1_8 cx0_15 A0_5 Ah0_4_10 Ah0_4_7 Ah0_4_8 Ahx0_10 Ahx0_7 Ahx0_8 Ahx1_11 Ahx1_13 Ahx1_14 Ahx1_15 Ahx1_8 Ahx1_9 Ahx1_8 Ax0_15 _ _ _ _ _ hm hj1_s6 hj1_p0_l7 hj1_p0_l8 hj1_p0_l10 lj1_p0_l11 lj1_p0_l12 ej1_p0_15 hj1_0_0_l8 hj1_0_0_l9 hj1_0_0_l11 hj1_0_0_l13 hj1_0_0_l14 hj1_0_0_l15 oj1_0_0_l16)
theorem f64_ok {M : Mem} {bx0 : Nat} {csx0 : List Value} {Ax0_15 : Option Addr} {cx0_15 : Nat} {rcx0_15 : List Value} {csx1 : List Value} (x0 : S85) (x1 : S46) (r : S85) (hm : m64 x0 x1 = some r) (hx0 : (oS85 Ax0_15 cx0_15).rep M csx0 x0) (ex0_15 : Elems kS46 M rcx0_15 x0.f1) (hx1 : kS46.rep M csx1 x1) : FnOk Try.prog 64 [.pointer (some ⟨bx0, 0, none⟩), .agg csx1.toArray] M [.blk bx0 csx0 86, .row (.slice Ax0_15 x0.f1.length cx0_15) 47 17 x0.f1.length rcx0_15] (R64 M bx0 csx0 Ax0_15 x0 cx0_15 rcx0_15 r) := by
  obtain ⟨Ahx0_7, chx0_7, Ahx0_8, chx0_8, Ahx0_10, chx0_10, rfl, hx0_7, hx0_8, hx0_10, hx0_11, hx0_12⟩ := oS85_open hx0
  obtain ⟨Ahx1_8, chx1_8, Ahx1_9, chx1_9, Ahx1_11, chx1_11, Ahx1_13, chx1_13, Ahx1_14, chx1_14, Ahx1_15, chx1_15, rfl, hx1_8, hx1_9, hx1_11, hx1_13, hx1_14, hx1_15, hx1_16⟩ := kS46_open hx1
  refine intro_ (c := c64) 128 Try.func64 fun w => ?_
  unfold m64 at hm
  refine rg [0] ?_
  refine g_bx 3 47 (.agg (cS46 x1 Ahx1_8 chx1_8 Ahx1_9 chx1_9 Ahx1_11 chx1_11 Ahx1_13 chx1_13 Ahx1_14 chx1_14 Ahx1_15 chx1_15).toArray) fun b0_1 => ?_
  refine fin ?_
  refine rs [1, 0] [.p 4] [(4, .pointer (some ⟨bx0, 0, none⟩))] [] ?_
  refine rs [1, 1, 0, 0] [.p 3, .l 0, .p 1] [(21, .bool ((x0.f0.f3 : Int) == 2))] [] ?_
  refine gi [1, 1, 0, 1] hm (fun hm => ?_) fun hm => ?_
  · obtain rfl := Option.some.inj hm
    exact rt (v := .tuple #[]) [0, 1] ⟨(cS85 x0 Ahx0_7 chx0_7 Ahx0_8 chx0_8 Ahx0_10 chx0_10 Ax0_15 cx0_15), Ax0_15, cx0_15, rcx0_15, rfl, rfl, (oS85_mk (cs := (cS85 x0 Ahx0_7 chx0_7 Ahx0_8 chx0_8 Ahx0_10 chx0_10 Ax0_15 cx0_15)) x0 rfl hx0_7 hx0_8 hx0_10 hx0_11 hx0_12), ex0_15⟩
  · obtain ⟨t0_2, ht0_2, hm⟩ := bind_some hm
    refine rg [1, 1, 1, 0] ?_
    refine seg [.p 2, .l 2] [(22, .pointer (some ⟨bx0, 0, none⟩)), (24, .int .i64 x1.f1)] [] ?_
    refine g_call 25 [0, 1] (f86_ok (bx0 := bx0) (Ax0_15 := Ax0_15) (cx0_15 := cx0_15) _ _ _ ht0_2 (oS85_mk (cs := (cS85 x0 Ahx0_7 chx0_7 Ahx0_8 chx0_8 Ahx0_10 chx0_10 Ax0_15 cx0_15)) x0 rfl hx0_7 hx0_8 hx0_10 hx0_11 hx0_12) ex0_15) ?_
    rintro _ M0_8 _ ⟨cs0_3, A0_5, c0_6, rc0_7, rfl, rfl, h0_4, h0_8⟩ hM0_8
    obtain ⟨Ah0_4_7, ch0_4_7, Ah0_4_8, ch0_4_8, Ah0_4_10, ch0_4_10, rfl, h0_4_7, h0_4_8, h0_4_10, h0_4_11, h0_4_12⟩ := oS85_open h0_4
    refine fin ?_
    refine rgD [1, 1, 1, 1, 0] (PT.of [0, 5, 8, 13, 16, 20, 24, 28, 32, 37, 40, 44, 48] .dn) [(1, 2), (3, 2), (9, 0)] [0, 4] mixed plain_done ?_
    refine seg [.p 1, .l 2, .p 1, .l 2, .p 5, .l 0, .p 3] [(5, .int .i64 x1.f4), (6, .slice Ahx1_8 x1.f8.length chx1_8), (7, .int .i64 t0_2.f0.f5.f0.f0)] [] ?_
    refine fin ?_
    refine rs [1, 1, 1, 1, 1, 0, 0] [.p 3] [(38, .bool (decide ((x1.f4 : Int) < t0_2.f0.f5.f0.f0)))] [] ?_
    refine gi [1, 1, 1, 1, 1, 0, 1] hm (fun hm => ?_) fun hm => ?_
    · obtain ⟨hb0_9, hm⟩ := gd3 hm
      refine rg [1, 1, 1, 1, 1, 0, 1, 0, 0] ?_
      refine seg [.p 7] [(39, .slice Ahx1_8 x1.f8.length chx1_8), (45, .int .i64 (if (x1.f8.length : Int) < IntKind.i64.wrap (t0_2.f0.f5.f0.f0 - x1.f4) then (x1.f8.length : Int) else IntKind.i64.wrap (t0_2.f0.f5.f0.f0 - x1.f4)))] [] ?_
      replace hx1_8 := (hx1_8.mono hM0_8)
      refine g_sl 46 hx1_8 hb0_9 fun A0_10 c0_11 l0_11 => ?_
      refine seg [.p 1] [(6, .slice A0_10 ((x1.f8.drop (if (x1.f8.length : Int) < IntKind.i64.wrap (t0_2.f0.f5.f0.f0 - x1.f4) then (x1.f8.length : Int) else IntKind.i64.wrap (t0_2.f0.f5.f0.f0 - x1.f4)).toNat).take ((x1.f8.length : Int).toNat - (if (x1.f8.length : Int) < IntKind.i64.wrap (t0_2.f0.f5.f0.f0 - x1.f4) then (x1.f8.length : Int) else IntKind.i64.wrap (t0_2.f0.f5.f0.f0 - x1.f4)).toNat)).length c0_11)] [] ?_
      refine fin ?_
      refine rs [1, 1, 1, 1, 1, 0, 1, 0, 1] [.p 2] [(5, .int .i64 t0_2.f0.f5.f0.f0)] [] ?_
      replace hx1_9 := (hx1_9.mono hM0_8)
      replace hx1_11 := (hx1_11.mono hM0_8)
      replace hx1_13 := (hx1_13.mono hM0_8)
      replace hx1_14 := (hx1_14.mono hM0_8)
      replace hx1_15 := (hx1_15.mono hM0_8)
      exact to [0, 1, 2] (@f64_j2 _ _ _ M0_8 rc0_7 rcx0_15 b0_1 bx0 c0_6 ch0_4_10 ch0_4_7 ch0_4_8 chx0_10 chx0_7 chx0_8 chx1_11 chx1_13 chx1_14 chx1_15 chx1_8 chx1_9 c0_11 cx0_15 A0_5 Ah0_4_10 Ah0_4_7 Ah0_4_8 Ahx0_10 Ahx0_7 Ahx0_8 Ahx1_11 Ahx1_13 Ahx1_14 Ahx1_15 Ahx1_8 Ahx1_9 A0_10 Ax0_15 _ _ _ _ _ hm l0_11 h0_4_7 h0_4_8 h0_4_10 h0_4_11 h0_4_12 h0_8 hx1_8 hx1_9 hx1_11 hx1_13 hx1_14 hx1_15 hx1_16)
    · obtain ⟨t0_12, ht0_12, hm⟩ := bind_some hm
      refine rg [1, 1, 1, 1, 1, 0, 1, 1, 0] ?_
      refine seg [.p 3, .l 0, .p 1] [(52, .agg (cS26 t0_2.f0.f5 Ah0_4_7 ch0_4_7 Ah0_4_8 ch0_4_8).toArray), (53, .int .i64 x1.f4)] [] ?_
      refine g_call0 54 (f69_ok _ _ _ ht0_12 (kS26_mk (cs := (cS26 t0_2.f0.f5 Ah0_4_7 ch0_4_7 Ah0_4_8 ch0_4_8)) t0_2.f0.f5 rfl h0_4_7 h0_4_8)) ?_
      rintro _ _ _ ⟨rfl, rfl, rfl⟩ -
      refine seg [.p 5] [(8, .int .i64 t0_12.1), (9, errV 39 t0_12.2)] [] ?_
      refine fin ?_
      refine rg [1, 1, 1, 1, 1, 0, 1, 1, 1, 0] ?_
      refine seg [.p 1, .e 39 t0_12.2, .p 1] [(59, .bool ((t0_12.2 : Int) != 0))] [] ?_
      refine gs 59 hm (fun hm => ?_) fun hm => ?_
      · refine seg [.p 5] [(64, .bool true)] [] ?_
        refine fin ?_
        replace hx1_8 := (hx1_8.mono hM0_8)
        replace hx1_9 := (hx1_9.mono hM0_8)
        replace hx1_11 := (hx1_11.mono hM0_8)
        replace hx1_13 := (hx1_13.mono hM0_8)
        replace hx1_14 := (hx1_14.mono hM0_8)
        replace hx1_15 := (hx1_15.mono hM0_8)
        exact to [0, 1, 2] (@f64_j1 _ _ _ M0_8 rc0_7 rcx0_15 b0_1 bx0 c0_6 ch0_4_10 ch0_4_7 ch0_4_8 chx0_10 chx0_7 chx0_8 chx1_11 chx1_13 chx1_14 chx1_15 chx1_8 chx1_9 cx0_15 A0_5 Ah0_4_10 Ah0_4_7 Ah0_4_8 Ahx0_10 Ahx0_7 Ahx0_8 Ahx1_11 Ahx1_13 Ahx1_14 Ahx1_15 Ahx1_8 Ahx1_9 Ax0_15 _ _ _ _ hm hx1_8 h0_4_7 h0_4_8 h0_4_10 h0_4_11 h0_4_12 h0_8 hx1_8 hx1_9 hx1_11 hx1_13 hx1_14 hx1_15 hx1_16)
      · refine seg [.p 2, .l 2, .p 2] [(64, .bool ((t0_12.1 : Int) != x1.f5))] [] ?_
        refine fin ?_
        replace hx1_8 := (hx1_8.mono hM0_8)
        replace hx1_9 := (hx1_9.mono hM0_8)
        replace hx1_11 := (hx1_11.mono hM0_8)
        replace hx1_13 := (hx1_13.mono hM0_8)
        replace hx1_14 := (hx1_14.mono hM0_8)
        replace hx1_15 := (hx1_15.mono hM0_8)
        exact to [0, 1, 2] (@f64_j1 _ _ _ M0_8 rc0_7 rcx0_15 b0_1 bx0 c0_6 ch0_4_10 ch0_4_7 ch0_4_8 chx0_10 chx0_7 chx0_8 chx1_11 chx1_13 chx1_14 chx1_15 chx1_8 chx1_9 cx0_15 A0_5 Ah0_4_10 Ah0_4_7 Ah0_4_8 Ahx0_10 Ahx0_7 Ahx0_8 Ahx1_11 Ahx1_13 Ahx1_14 Ahx1_15 Ahx1_8 Ahx1_9 Ax0_15 _ _ _ _ hm hx1_8 h0_4_7 h0_4_8 h0_4_10 h0_4_11 h0_4_12 h0_8 hx1_8 hx1_9 hx1_11 hx1_13 hx1_14 hx1_15 hx1_16)

/-! ## heartwood/log.Compact -/
/-- heartwood/log.Compact: what is left behind a call. -/
abbrev R39 (M : Mem) (r : (S26 × Int)) : Value → Mem → List Res → Prop := fun v M' H' => ∃ (q0 : List Value), .tuple #[.agg q0.toArray, errV 39 r.2] = v ∧ H' = [] ∧ kS26.rep M' q0 r.1
noncomputable def c39 : Code := match Try.f39.body with | some c => c | none => .skip
theorem f39_ok {M : Mem} {csx0 : List Value} (x0 : S26) (x1 : Int) (r : (S26 × Int)) (hm : m39 x0 x1 = some r) (hx0 : kS26.rep M csx0 x0) : FnOk Try.prog 39 [.agg csx0.toArray, .int .i64 x1] M [] (R39 M r) := by
  obtain ⟨Ahx0_2, chx0_2, Ahx0_3, chx0_3, rfl, hx0_2, hx0_3⟩ := kS26_open hx0
  refine intro_ (c := c39) 32 Try.func39 fun w => ?_
  unfold m39 at hm
  refine rg [0] ?_
  refine g_bx 2 27 (.agg (cS26 x0 Ahx0_2 chx0_2 Ahx0_3 chx0_3).toArray) fun b0_1 => ?_
  refine g_al 4 27 (cS26 (S26.mk (S23.mk 0 0 []) []) none 0 none 0) fun b0_2 => ?_
  refine seg [.p 1] [] [] ?_
  refine fin ?_
  obtain ⟨t0_3, ht0_3, hm⟩ := bind_some hm
  refine rg [1, 0, 0] ?_
  refine seg [.l 0, .p 1] [(7, .agg (cS26 x0 Ahx0_2 chx0_2 Ahx0_3 chx0_3).toArray), (8, .int .i64 x1)] [] ?_
  refine g_call0 9 (f73_ok _ _ _ ht0_3 (kS26_mk (cs := (cS26 x0 Ahx0_2 chx0_2 Ahx0_3 chx0_3)) x0 rfl hx0_2 hx0_3)) ?_
  rintro _ _ _ ⟨rfl, rfl, rfl⟩ -
  refine seg [.p 1] [(6, errV 39 t0_3)] [] ?_
  refine fin ?_
  refine rs [1, 0, 1, 0] [.p 1, .e 39 t0_3] [(11, .bool ((t0_3 : Int) != 0))] [] ?_
  refine gi [1, 0, 1, 1] hm (fun hm => ?_) fun hm => ?_
  · refine rs [1, 0, 1, 1, 0, 0] [.b, .p 1, .s 1, .p 1] [(5, errV 39 t0_3)] [(1, .blk b0_2 (cS26 (S26.mk (S23.mk 0 0 []) []) none 0 none 0) 27)] ?_
    obtain rfl := Option.some.inj hm
    exact rtc (vs := [.agg (cS26 (S26.mk (S23.mk 0 0 []) []) none 0 none 0).toArray, errV 39 t0_3]) (v := .tuple #[.agg (cS26 (S26.mk (S23.mk 0 0 []) []) none 0 none 0).toArray, errV 39 t0_3]) [] [.cell 4 27, .tmp 5] (.cell 1 0 (by kernel_rfl) (by kernel_rfl) (.tmp (by kernel_rfl) .nil)) ⟨(cS26 (S26.mk (S23.mk 0 0 []) []) none 0 none 0), rfl, rfl, (kS26_mk (cs := (cS26 (S26.mk (S23.mk 0 0 []) []) none 0 none 0)) (S26.mk (S23.mk 0 0 []) []) rfl slNil slNil)⟩ rfl rfl
  · obtain ⟨hb0_4, hm⟩ := gd3 hm
    refine rgD [1, 1, 0] (PT.of [0, 5, 8, 17, 20, 32, 37, 40, 44, 48, 53, 56, 60, 15, 27, 28, 67, 68, 75, 76] .dn) [(1, 0), (4, 0), (9, 0), (13, 0)] [0] mixed plain_done ?_
    refine seg [.p 1, .l 0, .p 1, .l 0, .p 2, .l 0, .p 3, .l 0, .p 1] [(14, .int .i64 x1), (15, .agg (cS26 x0 Ahx0_2 chx0_2 Ahx0_3 chx0_3).toArray), (16, .int .i64 x1), (18, .agg (cS26 x0 Ahx0_2 chx0_2 Ahx0_3 chx0_3).toArray), (19, .int .i64 x1), (23, .slice Ahx0_3 x0.f1.length chx0_3), (28, .int .i64 (IntKind.i64.wrap (x1 - x0.f0.f0)))] [] ?_
    refine g_sl 29 hx0_3 hb0_4 fun A0_5 c0_6 l0_6 => ?_
    obtain ⟨t0_7, ht0_7, hm⟩ := bind_some hm
    refine g_call0 17 (f74_ok _ _ _ ht0_7 (kS26_mk (cs := (cS26 x0 Ahx0_2 chx0_2 Ahx0_3 chx0_3)) x0 rfl hx0_2 hx0_3)) ?_
    rintro _ _ _ ⟨rfl, rfl, rfl⟩ -
    obtain ⟨t0_8, ht0_8, hm⟩ := bind_some hm
    refine g_call0 20 (f75_ok _ _ _ ht0_8 (kS26_mk (cs := (cS26 x0 Ahx0_2 chx0_2 Ahx0_3 chx0_3)) x0 rfl hx0_2 hx0_3)) ?_
    rintro _ M0_11 _ ⟨A0_9, c0_10, rfl, rfl, h0_11⟩ hM0_11
    obtain ⟨t0_12, ht0_12, hm⟩ := bind_some hm
    refine seg [.b] [(21, .agg (cS23 (S23.mk x1 t0_7 t0_8) A0_9 c0_10).toArray)] [] ?_
    replace l0_6 := (l0_6.mono hM0_11)
    refine g_call0 30 (f76_ok _ _ ht0_12 l0_6) ?_
    rintro _ M0_16 _ ⟨A0_13, c0_14, cs0_15, rfl, rfl, h0_16⟩ hM0_16
    refine seg [.b, .s 1, .p 1] [(5, .nilIface)] [(1, .blk b0_2 (cS26 (S26.mk (S23.mk x1 t0_7 t0_8) t0_12) A0_9 c0_10 A0_13 c0_14) 27)] ?_
    refine fin ?_
    refine fzA 2 81 A0_13 c0_14 h0_16 fun Mh0_17 lh0_17 h0_17 => ?_
    obtain rfl := Option.some.inj hm
    replace h0_11 := ((h0_11.mono hM0_16).mono lh0_17)
    exact rtc (vs := [.agg (cS26 (S26.mk (S23.mk x1 t0_7 t0_8) t0_12) A0_9 c0_10 A0_13 c0_14).toArray, .nilIface]) (v := .tuple #[.agg (cS26 (S26.mk (S23.mk x1 t0_7 t0_8) t0_12) A0_9 c0_10 A0_13 c0_14).toArray, .nilIface]) [] [.cell 4 27, .tmp 5] (.cell 1 0 (by kernel_rfl) (by kernel_rfl) (.tmp (by kernel_rfl) .nil)) ⟨(cS26 (S26.mk (S23.mk x1 t0_7 t0_8) t0_12) A0_9 c0_10 A0_13 c0_14), rfl, rfl, (kS26_mk (cs := (cS26 (S26.mk (S23.mk x1 t0_7 t0_8) t0_12) A0_9 c0_10 A0_13 c0_14)) (S26.mk (S23.mk x1 t0_7 t0_8) t0_12) rfl h0_11 h0_17)⟩ rfl rfl

/-! ## (heartwood/raft.stepper).snap -/
/-- (heartwood/raft.stepper).snap: what is left behind a call. -/
abbrev R65 (M : Mem) (bx0 : Nat) (csx0 : List Value) (Ax0_15 : Option Addr) (x0 : S85) (cx0_15 : Nat) (rcx0_15 : List Value) (r : S85) : Value → Mem → List Res → Prop := fun v M' H' => ∃ (q0 : List Value) (w0_15 : Option Addr) (y0_15 : Nat) (z0_15 : List Value), .tuple #[] = v ∧ H' = [.blk bx0 q0 86, .row (.slice w0_15 r.f1.length y0_15) 47 17 r.f1.length z0_15] ∧ (oS85 w0_15 y0_15).rep M' q0 r ∧ Elems kS46 M' z0_15 r.f1
noncomputable def c65 : Code := match Try.f65.body with | some c => c | none => .skip
abbrev C65 (w0 : World) (M0 : Mem) (bx0 : Nat) (x0 : S85) (Ahx0_7 : Option Addr) (chx0_7 : Nat) (Ahx0_8 : Option Addr) (chx0_8 : Nat) (Ahx0_10 : Option Addr) (chx0_10 : Nat) (Ax0_15 : Option Addr) (cx0_15 : Nat) (rcx0_15 : List Value) : Ctx := ⟨121, w0, M0, [.blk bx0 (cS85 x0 Ahx0_7 chx0_7 Ahx0_8 chx0_8 Ahx0_10 chx0_10 Ax0_15 cx0_15) 86, .row (.slice Ax0_15 x0.f1.length cx0_15) 47 17 x0.f1.length rcx0_15]⟩
abbrev D65 (w0 : World) (M0 : Mem) (r : S85) (bx0 : Nat) (x0 : S85) (Ahx0_7 : Option Addr) (chx0_7 : Nat) (Ahx0_8 : Option Addr) (chx0_8 : Nat) (Ahx0_10 : Option Addr) (chx0_10 : Nat) (Ax0_15 : Option Addr) (cx0_15 : Nat) (rcx0_15 : List Value) : Post := Done Try.prog Try.f65 (C65 w0 M0 bx0 x0 Ahx0_7 chx0_7 Ahx0_8 chx0_8 Ahx0_10 chx0_10 Ax0_15 cx0_15 rcx0_15) (R65 M0 bx0 (cS85 x0 Ahx0_7 chx0_7 Ahx0_8 chx0_8 Ahx0_10 chx0_10 Ax0_15 cx0_15) Ax0_15 x0 cx0_15 rcx0_15 r)
theorem f65_j5 {w0 : World} {M0 : Mem} {r : S85} : ∀ {M : Mem} {csj1_438 rcj1_6 rcx0_15 : List Value} {b0_1 bj2_1 bx0 chj1_3_10 chj1_3_7 chj1_3_8 chx0_10 chx0_7 chx0_8 chx1_11 chx1_13 chx1_14 chx1_15 chx1_8 chx1_9 cj1_437 cj1_5 cj5_1_1_1_1_1_1_0_2_l3 cx0_15 : Nat} {Ahj1_3_10 Ahj1_3_7 Ahj1_3_8 Ahx0_10 Ahx0_7 Ahx0_8 Ahx1_11 Ahx1_13 Ahx1_14 Ahx1_15 Ahx1_8 Ahx1_9 Aj1_4 Aj1_436 Aj5_1_1_1_1_1_1_0_2_l3 Ax0_15 : Option Addr} (tj1_435 : List Int) (xj5_1_1_1_1_1_1_0_2_l3 : List S80) (x1 : S46) (tj1_1 x0 : S85) (_ : m65_j5 tj1_435 xj5_1_1_1_1_1_1_0_2_l3 x1 tj1_1 x0 = some r) (_ : SlAt (kint .i64) M Ahj1_3_7 chj1_3_7 tj1_1.f0.f5.f0.f2) (_ : SlAt kS80 M Ahj1_3_8 chj1_3_8 tj1_1.f0.f5.f1) (_ : SlAt (kint .i64) M Ahj1_3_10 chj1_3_10 tj1_1.f0.f7) (_ : tj1_1.f0.f8.length = 8) (_ : tj1_1.f0.f9.length = 8) (_ : Elems kS46 M rcj1_6 tj1_1.f1) (_ : SlAt kS80 M Ahx1_8 chx1_8 x1.f8) (_ : SlAt (kint .i64) M Ahx1_9 chx1_9 x1.f9) (_ : SlAt (kint .u8) M Ahx1_11 chx1_11 x1.f11) (_ : SlAt (kint .u8) M Ahx1_13 chx1_13 x1.f12.f1) (_ : SlAt (kint .u8) M Ahx1_14 chx1_14 x1.f12.f2) (_ : SlAt (kint .u8) M Ahx1_15 chx1_15 x1.f12.f3) (_ : Value.oneCell' x1.f12.f4 = true) (_ : SlAt kS80 M Aj5_1_1_1_1_1_1_0_2_l3 cj5_1_1_1_1_1_1_0_2_l3 xj5_1_1_1_1_1_1_0_2_l3) (_ : Elems (kint .i64) M csj1_438 tj1_435), AG Try.prog c65 [1, 1, 1, 1, 1, 1, 1, 1] (D65 w0 M0 r bx0 x0 Ahx0_7 chx0_7 Ahx0_8 chx0_8 Ahx0_10 chx0_10 Ax0_15 cx0_15 rcx0_15) (C65 w0 M0 bx0 x0 Ahx0_7 chx0_7 Ahx0_8 chx0_8 Ahx0_10 chx0_10 Ax0_15 cx0_15 rcx0_15) (env [(0, .pointer (some ⟨bx0, 0, none⟩)), (3, .pointer (some ⟨b0_1, 0, none⟩)), (4, .pointer (some ⟨bx0, 0, none⟩)), (6, .pointer (some ⟨bj2_1, 0, none⟩))]) M [.blk bx0 (cS85 tj1_1 Ahj1_3_7 chj1_3_7 Ahj1_3_8 chj1_3_8 Ahj1_3_10 chj1_3_10 Aj1_4 cj1_5) 86, .row (.slice Aj1_4 tj1_1.f1.length cj1_5) 47 17 tj1_1.f1.length rcj1_6, .blk b0_1 (cS46 x1 Ahx1_8 chx1_8 Ahx1_9 chx1_9 Ahx1_11 chx1_11 Ahx1_13 chx1_13 Ahx1_14 chx1_14 Ahx1_15 chx1_15) 47, .blk bj2_1 (cS26 (S26.mk (S23.mk x1.f4 x1.f5 tj1_435) xj5_1_1_1_1_1_1_0_2_l3) Aj1_436 cj1_437 Aj5_1_1_1_1_1_1_0_2_l3 cj5_1_1_1_1_1_1_0_2_l3) 27, .row (.slice Aj1_436 tj1_435.length cj1_437) 3 1 tj1_435.length csj1_438] := by
  intro M csj1_438 rcj1_6 rcx0_15 b0_1 bj2_1 bx0 chj1_3_10 chj1_3_7 chj1_3_8 chx0_10 chx0_7 chx0_8 chx1_11 chx1_13 chx1_14 chx1_15 chx1_8 chx1_9 cj1_437 cj1_5 cj5_1_1_1_1_1_1_0_2_l3 cx0_15 Ahj1_3_10 Ahj1_3_7 Ahj1_3_8 Ahx0_10 Ahx0_7 Ahx0_8 Ahx1_11 Ahx1_13 Ahx1_14 Ahx1_15 Ahx1_8 Ahx1_9 Aj1_4 Aj1_436 Aj5_1_1_1_1_1_1_0_2_l3 Ax0_15 tj1_435 xj5_1_1_1_1_1_1_0_2_l3 x1 tj1_1 x0 hm hj5_p0_l7 hj5_p0_l8 hj5_p0_l10 lj5_p0_l11 lj5_p0_l12 ej5_p0_15 hj5_0_0_l8 hj5_0_0_l9 hj5_0_0_l11 hj5_0_0_l13 hj5_0_0_l14 hj5_0_0_l15 oj5_0_0_l16 hj5_1_1_1_1_1_1_0_2_l3 ej5_1_1_1_1_1_0_6_0; unfold m65_j5 at hm
  obtain ⟨tj5_2, htj5_2, hm⟩ := bind_some hm
  refine rg [1, 1, 1, 1, 1, 1, 1, 1, 0, 0] ?_
  refine seg [.l 3] [(97, .agg (cS26 (S26.mk (S23.mk x1.f4 x1.f5 tj1_435) xj5_1_1_1_1_1_1_0_2_l3) Aj1_436 cj1_437 Aj5_1_1_1_1_1_1_0_2_l3 cj5_1_1_1_1_1_1_0_2_l3).toArray)] [] ?_
  refine fzI 4 3 Aj1_436 cj1_437 ej5_1_1_1_1_1_0_6_0 fun Mhj5_1 lhj5_1 hj5_1 => ?_
  replace hj5_1_1_1_1_1_1_0_2_l3 := (hj5_1_1_1_1_1_1_0_2_l3.mono lhj5_1)
  refine g_call0 98 (f40_ok _ _ htj5_2 (kS26_mk (cs := (cS26 (S26.mk (S23.mk x1.f4 x1.f5 tj1_435) xj5_1_1_1_1_1_1_0_2_l3) Aj1_436 cj1_437 Aj5_1_1_1_1_1_1_0_2_l3 cj5_1_1_1_1_1_1_0_2_l3)) (S26.mk (S23.mk x1.f4 x1.f5 tj1_435) xj5_1_1_1_1_1_1_0_2_l3) rfl hj5_1 hj5_1_1_1_1_1_1_0_2_l3)) ?_
  rintro _ _ _ ⟨rfl, rfl, rfl⟩ -
  refine seg [.e 39 tj5_2] [(99, .bool ((tj5_2 : Int) != 0))] [] ?_
  refine fin ?_
  refine gi [1, 1, 1, 1, 1, 1, 1, 1, 0, 1] hm (fun hm => ?_) fun hm => ?_
  · obtain rfl := Option.some.inj hm
    replace hj5_p0_l7 := (hj5_p0_l7.mono lhj5_1)
    replace hj5_p0_l8 := (hj5_p0_l8.mono lhj5_1)
    replace hj5_p0_l10 := (hj5_p0_l10.mono lhj5_1)
    replace ej5_p0_15 := (ej5_p0_15.mono lhj5_1)
    exact rt (v := .tuple #[]) [0, 1] ⟨(cS85 tj1_1 Ahj1_3_7 chj1_3_7 Ahj1_3_8 chj1_3_8 Ahj1_3_10 chj1_3_10 Aj1_4 cj1_5), Aj1_4, cj1_5, rcj1_6, rfl, rfl, (oS85_mk (cs := (cS85 tj1_1 Ahj1_3_7 chj1_3_7 Ahj1_3_8 chj1_3_8 Ahj1_3_10 chj1_3_10 Aj1_4 cj1_5)) tj1_1 rfl hj5_p0_l7 hj5_p0_l8 hj5_p0_l10 lj5_p0_l11 lj5_p0_l12), ej5_p0_15⟩
  · refine rgD [1, 1, 1, 1, 1, 1, 1, 1, 1, 0] (PT.of [0, 4, 9, 12, 17, 20, 24, 31, 32, 36, 43] .dn) [(2, 3), (4, 2)] [4, 6] mixed plain_done ?_
    refine seg [.p 2, .l 3, .p 1, .l 2, .p 2, .s 0, .p 2, .s 0] [] [(0, .blk bx0 (cS85 ({ tj1_1 with f0 := { tj1_1.f0 with f5 := (S26.mk (S23.mk x1.f4 x1.f5 tj1_435) xj5_1_1_1_1_1_1_0_2_l3), f6 := x1.f4 } }) Aj1_436 cj1_437 Aj5_1_1_1_1_1_1_0_2_l3 cj5_1_1_1_1_1_1_0_2_l3 Ahj1_3_10 chj1_3_10 Aj1_4 cj1_5) 86)] ?_
    refine fin ?_
    obtain ⟨tj5_3, htj5_3, hm⟩ := bind_some hm
    refine rg [1, 1, 1, 1, 1, 1, 1, 1, 1, 1, 0] ?_
    refine seg [.p 2, .l 2, .p 1, .l 2, .b] [(109, .pointer (some ⟨bx0, 0, none⟩)), (111, .int .i64 x1.f1), (114, .agg (cS46 (S46.mk 4 0 0 0 x1.f4 0 0 true [] [] 0 [] (S44.mk 0 [] [] [] (.slice none 0 0))) none 0 none 0 none 0 none 0 none 0 none 0).toArray)] [] ?_
    replace hj5_p0_l10 := (hj5_p0_l10.mono lhj5_1)
    replace ej5_p0_15 := (ej5_p0_15.mono lhj5_1)
    refine g_call 115 [0, 1] (f59_ok (bx0 := bx0) (Ax0_15 := Aj1_4) (cx0_15 := cj1_5) _ _ _ _ htj5_3 (oS85_mk (cs := (cS85 ({ tj1_1 with f0 := { tj1_1.f0 with f5 := (S26.mk (S23.mk x1.f4 x1.f5 tj1_435) xj5_1_1_1_1_1_1_0_2_l3), f6 := x1.f4 } }) Aj1_436 cj1_437 Aj5_1_1_1_1_1_1_0_2_l3 cj5_1_1_1_1_1_1_0_2_l3 Ahj1_3_10 chj1_3_10 Aj1_4 cj1_5)) ({ tj1_1 with f0 := { tj1_1.f0 with f5 := (S26.mk (S23.mk x1.f4 x1.f5 tj1_435) xj5_1_1_1_1_1_1_0_2_l3), f6 := x1.f4 } }) rfl hj5_1 hj5_1_1_1_1_1_1_0_2_l3 hj5_p0_l10 lj5_p0_l11 lj5_p0_l12) ej5_p0_15 (kS46_mk (cs := (cS46 (S46.mk 4 0 0 0 x1.f4 0 0 true [] [] 0 [] (S44.mk 0 [] [] [] (.slice none 0 0))) none 0 none 0 none 0 none 0 none 0 none 0)) (S46.mk 4 0 0 0 x1.f4 0 0 true [] [] 0 [] (S44.mk 0 [] [] [] (.slice none 0 0))) rfl slNil slNil slNil slNil slNil slNil rfl)) ?_
    rintro _ Mj5_9 _ ⟨csj5_4, Aj5_6, cj5_7, rcj5_8, rfl, rfl, hj5_5, hj5_9⟩ hMj5_9
    obtain ⟨Ahj5_5_7, chj5_5_7, Ahj5_5_8, chj5_5_8, Ahj5_5_10, chj5_5_10, rfl, hj5_5_7, hj5_5_8, hj5_5_10, hj5_5_11, hj5_5_12⟩ := oS85_open hj5_5
    refine fin ?_
    refine rg [1, 1, 1, 1, 1, 1, 1, 1, 1, 1, 1] ?_
    refine seg [.p 2, .l 2, .p 2, .s 0] [] [(0, .blk bx0 (cS85 ({ tj5_3 with f2 := x1.f4 }) Ahj5_5_7 chj5_5_7 Ahj5_5_8 chj5_5_8 Ahj5_5_10 chj5_5_10 Aj5_6 cj5_7) 86)] ?_
    refine finE ?_
    obtain rfl := Option.some.inj hm
    exact re (v := .tuple #[]) [0, 1] ⟨(cS85 ({ tj5_3 with f2 := x1.f4 }) Ahj5_5_7 chj5_5_7 Ahj5_5_8 chj5_5_8 Ahj5_5_10 chj5_5_10 Aj5_6 cj5_7), Aj5_6, cj5_7, rcj5_8, rfl, rfl, (oS85_mk (cs := (cS85 ({ tj5_3 with f2 := x1.f4 }) Ahj5_5_7 chj5_5_7 Ahj5_5_8 chj5_5_8 Ahj5_5_10 chj5_5_10 Aj5_6 cj5_7)) ({ tj5_3 with f2 := x1.f4 }) rfl hj5_5_7 hj5_5_8 hj5_5_10 hj5_5_11 hj5_5_12), hj5_9⟩
theorem f65_j4 {w0 : World} {M0 : Mem} {r : S85} : ∀ {M : Mem} {csj1_438 rcj1_6 rcx0_15 : List Value} {b0_1 bj2_1 bj3_661 bx0 chj1_3_10 chj1_3_7 chj1_3_8 chj3_423_2 chj3_423_3 chx0_10 chx0_7 chx0_8 chx1_11 chx1_13 chx1_14 chx1_15 chx1_8 chx1_9 cj1_437 cj1_5 cx0_15 : Nat} {Ahj1_3_10 Ahj1_3_7 Ahj1_3_8 Ahj3_423_2 Ahj3_423_3 Ahx0_10 Ahx0_7 Ahx0_8 Ahx1_11 Ahx1_13 Ahx1_14 Ahx1_15 Ahx1_8 Ahx1_9 Aj1_4 Aj1_436 Ax0_15 : Option Addr} (tj3_421 : (S26 × Int)) (tj1_435 : List Int) (x1 : S46) (tj1_1 x0 : S85) (_ : m65_j4 tj3_421 tj1_435 x1 tj1_1 x0 = some r) (_ : SlAt (kint .i64) M Ahj1_3_7 chj1_3_7 tj1_1.f0.f5.f0.f2) (_ : SlAt kS80 M Ahj1_3_8 chj1_3_8 tj1_1.f0.f5.f1) (_ : SlAt (kint .i64) M Ahj1_3_10 chj1_3_10 tj1_1.f0.f7) (_ : tj1_1.f0.f8.length = 8) (_ : tj1_1.f0.f9.length = 8) (_ : Elems kS46 M rcj1_6 tj1_1.f1) (_ : SlAt kS80 M Ahx1_8 chx1_8 x1.f8) (_ : SlAt (kint .i64) M Ahx1_9 chx1_9 x1.f9) (_ : SlAt (kint .u8) M Ahx1_11 chx1_11 x1.f11) (_ : SlAt (kint .u8) M Ahx1_13 chx1_13 x1.f12.f1) (_ : SlAt (kint .u8) M Ahx1_14 chx1_14 x1.f12.f2) (_ : SlAt (kint .u8) M Ahx1_15 chx1_15 x1.f12.f3) (_ : Value.oneCell' x1.f12.f4 = true) (_ : Elems (kint .i64) M csj1_438 tj1_435) (_ : SlAt (kint .i64) M Ahj3_423_2 chj3_423_2 tj3_421.1.f0.f2) (_ : SlAt kS80 M Ahj3_423_3 chj3_423_3 tj3_421.1.f1), AG Try.prog c65 [1, 1, 1, 1, 1, 1, 1, 0, 1, 1, 0, 1] (D65 w0 M0 r bx0 x0 Ahx0_7 chx0_7 Ahx0_8 chx0_8 Ahx0_10 chx0_10 Ax0_15 cx0_15 rcx0_15) (C65 w0 M0 bx0 x0 Ahx0_7 chx0_7 Ahx0_8 chx0_8 Ahx0_10 chx0_10 Ax0_15 cx0_15 rcx0_15) (env [(0, .pointer (some ⟨bx0, 0, none⟩)), (3, .pointer (some ⟨b0_1, 0, none⟩)), (4, .pointer (some ⟨bx0, 0, none⟩)), (6, .pointer (some ⟨bj2_1, 0, none⟩)), (9, .pointer (some ⟨bj3_661, 0, none⟩)), (10, errV 39 tj3_421.2)]) M [.blk bx0 (cS85 tj1_1 Ahj1_3_7 chj1_3_7 Ahj1_3_8 chj1_3_8 Ahj1_3_10 chj1_3_10 Aj1_4 cj1_5) 86, .row (.slice Aj1_4 tj1_1.f1.length cj1_5) 47 17 tj1_1.f1.length rcj1_6, .blk b0_1 (cS46 x1 Ahx1_8 chx1_8 Ahx1_9 chx1_9 Ahx1_11 chx1_11 Ahx1_13 chx1_13 Ahx1_14 chx1_14 Ahx1_15 chx1_15) 47, .blk bj2_1 (cS26 (S26.mk (S23.mk x1.f4 x1.f5 tj1_435) []) Aj1_436 cj1_437 none 0) 27, .row (.slice Aj1_436 tj1_435.length cj1_437) 3 1 tj1_435.length csj1_438, .blk bj3_661 (cS26 (S26.mk (S23.mk tj3_421.1.f0.f0 tj3_421.1.f0.f1 tj3_421.1.f0.f2) tj3_421.1.f1) Ahj3_423_2 chj3_423_2 Ahj3_423_3 chj3_423_3) 27] := by
  intro M csj1_438 rcj1_6 rcx0_15 b0_1 bj2_1 bj3_661 bx0 chj1_3_10 chj1_3_7 chj1_3_8 chj3_423_2 chj3_423_3 chx0_10 chx0_7 chx0_8 chx1_11 chx1_13 chx1_14 chx1_15 chx1_8 chx1_9 cj1_437 cj1_5 cx0_15 Ahj1_3_10 Ahj1_3_7 Ahj1_3_8 Ahj3_423_2 Ahj3_423_3 Ahx0_10 Ahx0_7 Ahx0_8 Ahx1_11 Ahx1_13 Ahx1_14 Ahx1_15 Ahx1_8 Ahx1_9 Aj1_4 Aj1_436 Ax0_15 tj3_421 tj1_435 x1 tj1_1 x0 hm hj4_p0_l7 hj4_p0_l8 hj4_p0_l10 lj4_p0_l11 lj4_p0_l12 ej4_p0_15 hj4_0_0_l8 hj4_0_0_l9 hj4_0_0_l11 hj4_0_0_l13 hj4_0_0_l14 hj4_0_0_l15 oj4_0_0_l16 ej4_1_1_1_1_1_0_6_0 hj4_1_1_1_1_1_1_1_0_1_1_0_0_10_l2 hj4_1_1_1_1_1_1_1_0_1_1_0_0_10_l3; unfold m65_j4 at hm
  refine rs [1, 1, 1, 1, 1, 1, 1, 0, 1, 1, 0, 1, 0] [.p 1, .e 39 tj3_421.2] [(93, .bool ((tj3_421.2 : Int) == 0))] [] ?_
  refine gi [1, 1, 1, 1, 1, 1, 1, 0, 1, 1, 0, 1, 1] hm (fun hm => ?_) fun hm => ?_
  · refine rs [1, 1, 1, 1, 1, 1, 1, 0, 1, 1, 0, 1, 1, 0] [.p 1, .l 5, .p 1, .s 3] [] [(3, .blk bj2_1 (cS26 (S26.mk (S23.mk x1.f4 x1.f5 tj1_435) tj3_421.1.f1) Aj1_436 cj1_437 Ahj3_423_3 chj3_423_3) 27)] ?_
    exact to [0, 1, 2, 3, 4] (@f65_j5 _ _ _ M csj1_438 rcj1_6 rcx0_15 b0_1 bj2_1 bx0 chj1_3_10 chj1_3_7 chj1_3_8 chx0_10 chx0_7 chx0_8 chx1_11 chx1_13 chx1_14 chx1_15 chx1_8 chx1_9 cj1_437 cj1_5 chj3_423_3 cx0_15 Ahj1_3_10 Ahj1_3_7 Ahj1_3_8 Ahx0_10 Ahx0_7 Ahx0_8 Ahx1_11 Ahx1_13 Ahx1_14 Ahx1_15 Ahx1_8 Ahx1_9 Aj1_4 Aj1_436 Ahj3_423_3 Ax0_15 _ _ _ _ _ hm hj4_p0_l7 hj4_p0_l8 hj4_p0_l10 lj4_p0_l11 lj4_p0_l12 ej4_p0_15 hj4_0_0_l8 hj4_0_0_l9 hj4_0_0_l11 hj4_0_0_l13 hj4_0_0_l14 hj4_0_0_l15 oj4_0_0_l16 hj4_1_1_1_1_1_1_1_0_1_1_0_0_10_l3 ej4_1_1_1_1_1_0_6_0)
  · exact to [0, 1, 2, 3, 4] (@f65_j5 _ _ _ M csj1_438 rcj1_6 rcx0_15 b0_1 bj2_1 bx0 chj1_3_10 chj1_3_7 chj1_3_8 chx0_10 chx0_7 chx0_8 chx1_11 chx1_13 chx1_14 chx1_15 chx1_8 chx1_9 cj1_437 cj1_5 0 cx0_15 Ahj1_3_10 Ahj1_3_7 Ahj1_3_8 Ahx0_10 Ahx0_7 Ahx0_8 Ahx1_11 Ahx1_13 Ahx1_14 Ahx1_15 Ahx1_8 Ahx1_9 Aj1_4 Aj1_436 none Ax0_15 _ _ _ _ _ hm hj4_p0_l7 hj4_p0_l8 hj4_p0_l10 lj4_p0_l11 lj4_p0_l12 ej4_p0_15 hj4_0_0_l8 hj4_0_0_l9 hj4_0_0_l11 hj4_0_0_l13 hj4_0_0_l14 hj4_0_0_l15 oj4_0_0_l16 slNil ej4_1_1_1_1_1_0_6_0)
theorem f65_j3 {w0 : World} {M0 : Mem} {r : S85} : ∀ {M : Mem} {csj1_438 rcj1_6 rcx0_15 : List Value} {b0_1 bj2_1 bx0 chj1_3_10 chj1_3_7 chj1_3_8 chx0_10 chx0_7 chx0_8 chx1_11 chx1_13 chx1_14 chx1_15 chx1_8 chx1_9 cj1_437 cj1_5 cx0_15 : Nat} {Ahj1_3_10 Ahj1_3_7 Ahj1_3_8 Ahx0_10 Ahx0_7 Ahx0_8 Ahx1_11 Ahx1_13 Ahx1_14 Ahx1_15 Ahx1_8 Ahx1_9 Aj1_4 Aj1_436 Ax0_15 : Option Addr} (xj3_s81 : Bool) (tj1_435 : List Int) (x1 : S46) (tj1_1 x0 : S85) (_ : m65_j3 xj3_s81 tj1_435 x1 tj1_1 x0 = some r) (_ : SlAt (kint .i64) M Ahj1_3_7 chj1_3_7 tj1_1.f0.f5.f0.f2) (_ : SlAt kS80 M Ahj1_3_8 chj1_3_8 tj1_1.f0.f5.f1) (_ : SlAt (kint .i64) M Ahj1_3_10 chj1_3_10 tj1_1.f0.f7) (_ : tj1_1.f0.f8.length = 8) (_ : tj1_1.f0.f9.length = 8) (_ : Elems kS46 M rcj1_6 tj1_1.f1) (_ : SlAt kS80 M Ahx1_8 chx1_8 x1.f8) (_ : SlAt (kint .i64) M Ahx1_9 chx1_9 x1.f9) (_ : SlAt (kint .u8) M Ahx1_11 chx1_11 x1.f11) (_ : SlAt (kint .u8) M Ahx1_13 chx1_13 x1.f12.f1) (_ : SlAt (kint .u8) M Ahx1_14 chx1_14 x1.f12.f2) (_ : SlAt (kint .u8) M Ahx1_15 chx1_15 x1.f12.f3) (_ : Value.oneCell' x1.f12.f4 = true) (_ : Elems (kint .i64) M csj1_438 tj1_435), AG Try.prog c65 [1, 1, 1, 1, 1, 1, 1, 0, 1, 1] (D65 w0 M0 r bx0 x0 Ahx0_7 chx0_7 Ahx0_8 chx0_8 Ahx0_10 chx0_10 Ax0_15 cx0_15 rcx0_15) (C65 w0 M0 bx0 x0 Ahx0_7 chx0_7 Ahx0_8 chx0_8 Ahx0_10 chx0_10 Ax0_15 cx0_15 rcx0_15) (env [(0, .pointer (some ⟨bx0, 0, none⟩)), (3, .pointer (some ⟨b0_1, 0, none⟩)), (4, .pointer (some ⟨bx0, 0, none⟩)), (6, .pointer (some ⟨bj2_1, 0, none⟩)), (81, .bool xj3_s81)]) M [.blk bx0 (cS85 tj1_1 Ahj1_3_7 chj1_3_7 Ahj1_3_8 chj1_3_8 Ahj1_3_10 chj1_3_10 Aj1_4 cj1_5) 86, .row (.slice Aj1_4 tj1_1.f1.length cj1_5) 47 17 tj1_1.f1.length rcj1_6, .blk b0_1 (cS46 x1 Ahx1_8 chx1_8 Ahx1_9 chx1_9 Ahx1_11 chx1_11 Ahx1_13 chx1_13 Ahx1_14 chx1_14 Ahx1_15 chx1_15) 47, .blk bj2_1 (cS26 (S26.mk (S23.mk x1.f4 x1.f5 tj1_435) []) Aj1_436 cj1_437 none 0) 27, .row (.slice Aj1_436 tj1_435.length cj1_437) 3 1 tj1_435.length csj1_438] := by
  intro M csj1_438 rcj1_6 rcx0_15 b0_1 bj2_1 bx0 chj1_3_10 chj1_3_7 chj1_3_8 chx0_10 chx0_7 chx0_8 chx1_11 chx1_13 chx1_14 chx1_15 chx1_8 chx1_9 cj1_437 cj1_5 cx0_15 Ahj1_3_10 Ahj1_3_7 Ahj1_3_8 Ahx0_10 Ahx0_7 Ahx0_8 Ahx1_11 Ahx1_13 Ahx1_14 Ahx1_15 Ahx1_8 Ahx1_9 Aj1_4 Aj1_436 Ax0_15 xj3_s81 tj1_435 x1 tj1_1 x0 hm hj3_p0_l7 hj3_p0_l8 hj3_p0_l10 lj3_p0_l11 lj3_p0_l12 ej3_p0_15 hj3_0_0_l8 hj3_0_0_l9 hj3_0_0_l11 hj3_0_0_l13 hj3_0_0_l14 hj3_0_0_l15 oj3_0_0_l16 ej3_1_1_1_1_1_0_6_0; unfold m65_j3 at hm
  refine gi [1, 1, 1, 1, 1, 1, 1, 0, 1, 1] hm (fun hm => ?_) fun hm => ?_
  · obtain ⟨tj3_421, htj3_421, hm⟩ := bind_some hm
    refine rgD [1, 1, 1, 1, 1, 1, 1, 0, 1, 1, 0, 0] (PT.of [0, 4, 8, 13, 16, 21] (.two 6 (PT.of [28, 32, 36, 43, 47, 48] .dn) 10 (PT.of [27, 28, 32, 36, 47, 48] .dn))) [(3, 0), (5, 2)] [0, 4] mixed plain_done ?_
    refine seg [.p 3, .l 0, .p 1, .l 2] [(86, .agg (cS26 tj1_1.f0.f5 Ahj1_3_7 chj1_3_7 Ahj1_3_8 chj1_3_8).toArray), (88, .int .i64 x1.f4)] [] ?_
    refine g2 ?_ ?_
    · refine g_call0 89 (f39_ok _ _ _ htj3_421 (kS26_mk (cs := (cS26 tj1_1.f0.f5 Ahj1_3_7 chj1_3_7 Ahj1_3_8 chj1_3_8)) tj1_1.f0.f5 rfl hj3_p0_l7 hj3_p0_l8)) ?_
      rintro _ Mj3_423 _ ⟨csj3_422, rfl, rfl, hj3_423⟩ hMj3_423
      obtain ⟨Ahj3_423_2, chj3_423_2, Ahj3_423_3, chj3_423_3, rfl, hj3_423_2, hj3_423_3⟩ := kS26_open hj3_423
      refine seg [.p 3] [(90, .agg (cS26 (S26.mk (S23.mk tj3_421.1.f0.f0 tj3_421.1.f0.f1 tj3_421.1.f0.f2) tj3_421.1.f1) Ahj3_423_2 chj3_423_2 Ahj3_423_3 chj3_423_3).toArray), (91, errV 39 tj3_421.2)] [] ?_
      refine g_al 9 27 (cS26 (S26.mk (S23.mk 0 0 []) []) none 0 none 0) fun bj3_661 => ?_
      refine seg [.s 5, .p 1] [(10, errV 39 tj3_421.2)] [(5, .blk bj3_661 (cS26 (S26.mk (S23.mk tj3_421.1.f0.f0 tj3_421.1.f0.f1 tj3_421.1.f0.f2) tj3_421.1.f1) Ahj3_423_2 chj3_423_2 Ahj3_423_3 chj3_423_3) 27)] ?_
      refine fin ?_
      replace hj3_p0_l7 := (hj3_p0_l7.mono hMj3_423)
      replace hj3_p0_l8 := (hj3_p0_l8.mono hMj3_423)
      replace hj3_p0_l10 := (hj3_p0_l10.mono hMj3_423)
      replace ej3_p0_15 := (ej3_p0_15.mono hMj3_423)
      replace hj3_0_0_l8 := (hj3_0_0_l8.mono hMj3_423)
      replace hj3_0_0_l9 := (hj3_0_0_l9.mono hMj3_423)
      replace hj3_0_0_l11 := (hj3_0_0_l11.mono hMj3_423)
      replace hj3_0_0_l13 := (hj3_0_0_l13.mono hMj3_423)
      replace hj3_0_0_l14 := (hj3_0_0_l14.mono hMj3_423)
      replace hj3_0_0_l15 := (hj3_0_0_l15.mono hMj3_423)
      replace ej3_1_1_1_1_1_0_6_0 := (ej3_1_1_1_1_1_0_6_0.mono hMj3_423)
      exact to [0, 1, 2, 3, 4, 5] (@f65_j4 _ _ _ Mj3_423 csj1_438 rcj1_6 rcx0_15 b0_1 bj2_1 bj3_661 bx0 chj1_3_10 chj1_3_7 chj1_3_8 chj3_423_2 chj3_423_3 chx0_10 chx0_7 chx0_8 chx1_11 chx1_13 chx1_14 chx1_15 chx1_8 chx1_9 cj1_437 cj1_5 cx0_15 Ahj1_3_10 Ahj1_3_7 Ahj1_3_8 Ahj3_423_2 Ahj3_423_3 Ahx0_10 Ahx0_7 Ahx0_8 Ahx1_11 Ahx1_13 Ahx1_14 Ahx1_15 Ahx1_8 Ahx1_9 Aj1_4 Aj1_436 Ax0_15 _ _ _ _ _ hm hj3_p0_l7 hj3_p0_l8 hj3_p0_l10 lj3_p0_l11 lj3_p0_l12 ej3_p0_15 hj3_0_0_l8 hj3_0_0_l9 hj3_0_0_l11 hj3_0_0_l13 hj3_0_0_l14 hj3_0_0_l15 oj3_0_0_l16 ej3_1_1_1_1_1_0_6_0 hj3_423_2 hj3_423_3)
    · refine g_al 9 27 (cS26 (S26.mk (S23.mk 0 0 []) []) none 0 none 0) fun bj3_661 => ?_
      refine g_call0 89 (f39_ok _ _ _ htj3_421 (kS26_mk (cs := (cS26 tj1_1.f0.f5 Ahj1_3_7 chj1_3_7 Ahj1_3_8 chj1_3_8)) tj1_1.f0.f5 rfl hj3_p0_l7 hj3_p0_l8)) ?_
      rintro _ Mj3_423 _ ⟨csj3_422, rfl, rfl, hj3_423⟩ hMj3_423
      obtain ⟨Ahj3_423_2, chj3_423_2, Ahj3_423_3, chj3_423_3, rfl, hj3_423_2, hj3_423_3⟩ := kS26_open hj3_423
      refine seg [.p 3, .s 5, .p 1] [(10, errV 39 tj3_421.2)] [(5, .blk bj3_661 (cS26 (S26.mk (S23.mk tj3_421.1.f0.f0 tj3_421.1.f0.f1 tj3_421.1.f0.f2) tj3_421.1.f1) Ahj3_423_2 chj3_423_2 Ahj3_423_3 chj3_423_3) 27)] ?_
      refine fin ?_
      replace hj3_p0_l7 := (hj3_p0_l7.mono hMj3_423)
      replace hj3_p0_l8 := (hj3_p0_l8.mono hMj3_423)
      replace hj3_p0_l10 := (hj3_p0_l10.mono hMj3_423)
      replace ej3_p0_15 := (ej3_p0_15.mono hMj3_423)
      replace hj3_0_0_l8 := (hj3_0_0_l8.mono hMj3_423)
      replace hj3_0_0_l9 := (hj3_0_0_l9.mono hMj3_423)
      replace hj3_0_0_l11 := (hj3_0_0_l11.mono hMj3_423)
      replace hj3_0_0_l13 := (hj3_0_0_l13.mono hMj3_423)
      replace hj3_0_0_l14 := (hj3_0_0_l14.mono hMj3_423)
      replace hj3_0_0_l15 := (hj3_0_0_l15.mono hMj3_423)
      replace ej3_1_1_1_1_1_0_6_0 := (ej3_1_1_1_1_1_0_6_0.mono hMj3_423)
      exact to [0, 1, 2, 3, 4, 5] (@f65_j4 _ _ _ Mj3_423 csj1_438 rcj1_6 rcx0_15 b0_1 bj2_1 bj3_661 bx0 chj1_3_10 chj1_3_7 chj1_3_8 chj3_423_2 chj3_423_3 chx0_10 chx0_7 chx0_8 chx1_11 chx1_13 chx1_14 chx1_15 chx1_8 chx1_9 cj1_437 cj1_5 cx0_15 Ahj1_3_10 Ahj1_3_7 Ahj1_3_8 Ahj3_423_2 Ahj3_423_3 Ahx0_10 Ahx0_7 Ahx0_8 Ahx1_11 Ahx1_13 Ahx1_14 Ahx1_15 Ahx1_8 Ahx1_9 Aj1_4 Aj1_436 Ax0_15 _ _ _ _ _ hm hj3_p0_l7 hj3_p0_l8 hj3_p0_l10 lj3_p0_l11 lj3_p0_l12 ej3_p0_15 hj3_0_0_l8 hj3_0_0_l9 hj3_0_0_l11 hj3_0_0_l13 hj3_0_0_l14 hj3_0_0_l15 oj3_0_0_l16 ej3_1_1_1_1_1_0_6_0 hj3_423_2 hj3_423_3)
  · exact to [0, 1, 2, 3, 4] (@f65_j5 _ _ _ M csj1_438 rcj1_6 rcx0_15 b0_1 bj2_1 bx0 chj1_3_10 chj1_3_7 chj1_3_8 chx0_10 chx0_7 chx0_8 chx1_11 chx1_13 chx1_14 chx1_15 chx1_8 chx1_9 cj1_437 cj1_5 0 cx0_15 Ahj1_3_10 Ahj1_3_7 Ahj1_3_8 Ahx0_10 Ahx0_7 Ahx0_8 Ahx1_11 Ahx1_13 Ahx1_14 Ahx1_15 Ahx1_8 Ahx1_9 Aj1_4 Aj1_436 none Ax0_15 _ _ _ _ _ hm hj3_p0_l7 hj3_p0_l8 hj3_p0_l10 lj3_p0_l11 lj3_p0_l12 ej3_p0_15 hj3_0_0_l8 hj3_0_0_l9 hj3_0_0_l11 hj3_0_0_l13 hj3_0_0_l14 hj3_0_0_l15 oj3_0_0_l16 slNil ej3_1_1_1_1_1_0_6_0)
theorem f65_j2 {w0 : World} {M0 : Mem} {r : S85} : ∀ {M : Mem} {csj1_438 rcj1_6 rcx0_15 : List Value} {b0_1 bj1_555 bx0 chj1_3_10 chj1_3_7 chj1_3_8 chx0_10 chx0_7 chx0_8 chx1_11 chx1_13 chx1_14 chx1_15 chx1_8 chx1_9 cj1_437 cj1_5 cx0_15 : Nat} {Ahj1_3_10 Ahj1_3_7 Ahj1_3_8 Ahx0_10 Ahx0_7 Ahx0_8 Ahx1_11 Ahx1_13 Ahx1_14 Ahx1_15 Ahx1_8 Ahx1_9 Aj1_4 Aj1_436 Ax0_15 : Option Addr} (tj1_435 : List Int) (x1 : S46) (tj1_1 x0 : S85) (_ : m65_j2 tj1_435 x1 tj1_1 x0 = some r) (_ : SlAt (kint .i64) M Ahj1_3_7 chj1_3_7 tj1_1.f0.f5.f0.f2) (_ : SlAt kS80 M Ahj1_3_8 chj1_3_8 tj1_1.f0.f5.f1) (_ : SlAt (kint .i64) M Ahj1_3_10 chj1_3_10 tj1_1.f0.f7) (_ : tj1_1.f0.f8.length = 8) (_ : tj1_1.f0.f9.length = 8) (_ : Elems kS46 M rcj1_6 tj1_1.f1) (_ : SlAt kS80 M Ahx1_8 chx1_8 x1.f8) (_ : SlAt (kint .i64) M Ahx1_9 chx1_9 x1.f9) (_ : SlAt (kint .u8) M Ahx1_11 chx1_11 x1.f11) (_ : SlAt (kint .u8) M Ahx1_13 chx1_13 x1.f12.f1) (_ : SlAt (kint .u8) M Ahx1_14 chx1_14 x1.f12.f2) (_ : SlAt (kint .u8) M Ahx1_15 chx1_15 x1.f12.f3) (_ : Value.oneCell' x1.f12.f4 = true) (_ : Elems (kint .i64) M csj1_438 tj1_435), AG Try.prog c65 [1, 1, 1, 1, 1, 1] (D65 w0 M0 r bx0 x0 Ahx0_7 chx0_7 Ahx0_8 chx0_8 Ahx0_10 chx0_10 Ax0_15 cx0_15 rcx0_15) (C65 w0 M0 bx0 x0 Ahx0_7 chx0_7 Ahx0_8 chx0_8 Ahx0_10 chx0_10 Ax0_15 cx0_15 rcx0_15) (env [(0, .pointer (some ⟨bx0, 0, none⟩)), (3, .pointer (some ⟨b0_1, 0, none⟩)), (4, .pointer (some ⟨bx0, 0, none⟩)), (5, .pointer (some ⟨bj1_555, 0, none⟩))]) M [.blk bx0 (cS85 tj1_1 Ahj1_3_7 chj1_3_7 Ahj1_3_8 chj1_3_8 Ahj1_3_10 chj1_3_10 Aj1_4 cj1_5) 86, .row (.slice Aj1_4 tj1_1.f1.length cj1_5) 47 17 tj1_1.f1.length rcj1_6, .blk b0_1 (cS46 x1 Ahx1_8 chx1_8 Ahx1_9 chx1_9 Ahx1_11 chx1_11 Ahx1_13 chx1_13 Ahx1_14 chx1_14 Ahx1_15 chx1_15) 47, .blk bj1_555 (cS23 (S23.mk x1.f4 x1.f5 tj1_435) Aj1_436 cj1_437) 24, .row (.slice Aj1_436 tj1_435.length cj1_437) 3 1 tj1_435.length csj1_438] := by
  intro M csj1_438 rcj1_6 rcx0_15 b0_1 bj1_555 bx0 chj1_3_10 chj1_3_7 chj1_3_8 chx0_10 chx0_7 chx0_8 chx1_11 chx1_13 chx1_14 chx1_15 chx1_8 chx1_9 cj1_437 cj1_5 cx0_15 Ahj1_3_10 Ahj1_3_7 Ahj1_3_8 Ahx0_10 Ahx0_7 Ahx0_8 Ahx1_11 Ahx1_13 Ahx1_14 Ahx1_15 Ahx1_8 Ahx1_9 Aj1_4 Aj1_436 Ax0_15 tj1_435 x1 tj1_1 x0 hm hj2_p0_l7 hj2_p0_l8 hj2_p0_l10 lj2_p0_l11 lj2_p0_l12 ej2_p0_15 hj2_0_0_l8 hj2_0_0_l9 hj2_0_0_l11 hj2_0_0_l13 hj2_0_0_l14 hj2_0_0_l15 oj2_0_0_l16 ej2_1_1_1_1_1_0_6_0; unfold m65_j2 at hm
  refine rg [1, 1, 1, 1, 1, 1, 0] ?_
  refine seg [.l 3, .b] [(63, .agg (cS26 (S26.mk (S23.mk x1.f4 x1.f5 tj1_435) []) Aj1_436 cj1_437 none 0).toArray)] [] ?_
  refine g_al 6 27 (cS26 (S26.mk (S23.mk 0 0 []) []) none 0 none 0) fun bj2_1 => ?_
  refine seg [.s 5] [] [(5, .blk bj2_1 (cS26 (S26.mk (S23.mk x1.f4 x1.f5 tj1_435) []) Aj1_436 cj1_437 none 0) 27)] ?_
  refine fin ?_
  obtain ⟨tj2_2, htj2_2, hm⟩ := bind_some hm
  refine rgD [1, 1, 1, 1, 1, 1, 1, 0, 0] (PT.of [0, 4, 8, 13, 16, 21, 27, 28, 32, 36, 40, 44] .dn) [(3, 0), (5, 2)] [0, 4] mixed plain_done ?_
  refine seg [.p 3, .l 0, .p 1, .l 2] [(68, .agg (cS26 tj1_1.f0.f5 Ahj1_3_7 chj1_3_7 Ahj1_3_8 chj1_3_8).toArray), (70, .int .i64 x1.f4)] [] ?_
  refine g_call0 71 (f69_ok _ _ _ htj2_2 (kS26_mk (cs := (cS26 tj1_1.f0.f5 Ahj1_3_7 chj1_3_7 Ahj1_3_8 chj1_3_8)) tj1_1.f0.f5 rfl hj2_p0_l7 hj2_p0_l8)) ?_
  rintro _ _ _ ⟨rfl, rfl, rfl⟩ -
  refine seg [.p 5] [(7, .int .i64 tj2_2.1), (8, errV 39 tj2_2.2)] [] ?_
  refine fin ?_
  refine rg [1, 1, 1, 1, 1, 1, 1, 0, 1, 0] ?_
  refine seg [.p 1, .e 39 tj2_2.2, .p 1] [(76, .bool ((tj2_2.2 : Int) == 0))] [] ?_
  refine gs 76 hm (fun hm => ?_) fun hm => ?_
  · refine seg [.p 2, .l 2, .p 2] [(81, .bool ((tj2_2.1 : Int) == x1.f5))] [] ?_
    refine fin ?_
    exact to [0, 1, 2, 5, 4] (@f65_j3 _ _ _ M csj1_438 rcj1_6 rcx0_15 b0_1 bj2_1 bx0 chj1_3_10 chj1_3_7 chj1_3_8 chx0_10 chx0_7 chx0_8 chx1_11 chx1_13 chx1_14 chx1_15 chx1_8 chx1_9 cj1_437 cj1_5 cx0_15 Ahj1_3_10 Ahj1_3_7 Ahj1_3_8 Ahx0_10 Ahx0_7 Ahx0_8 Ahx1_11 Ahx1_13 Ahx1_14 Ahx1_15 Ahx1_8 Ahx1_9 Aj1_4 Aj1_436 Ax0_15 _ _ _ _ _ hm hj2_p0_l7 hj2_p0_l8 hj2_p0_l10 lj2_p0_l11 lj2_p0_l12 ej2_p0_15 hj2_0_0_l8 hj2_0_0_l9 hj2_0_0_l11 hj2_0_0_l13 hj2_0_0_l14 hj2_0_0_l15 oj2_0_0_l16 ej2_1_1_1_1_1_0_6_0)
  · refine seg [.p 5] [(81, .bool false)] [] ?_
    refine fin ?_
    exact to [0, 1, 2, 5, 4] (@f65_j3 _ _ _ M csj1_438 rcj1_6 rcx0_15 b0_1 bj2_1 bx0 chj1_3_10 chj1_3_7 chj1_3_8 chx0_10 chx0_7 chx0_8 chx1_11 chx1_13 chx1_14 chx1_15 chx1_8 chx1_9 cj1_437 cj1_5 cx0_15 Ahj1_3_10 Ahj1_3_7 Ahj1_3_8 Ahx0_10 Ahx0_7 Ahx0_8 Ahx1_11 Ahx1_13 Ahx1_14 Ahx1_15 Ahx1_8 Ahx1_9 Aj1_4 Aj1_436 Ax0_15 _ _ _ _ _ hm hj2_p0_l7 hj2_p0_l8 hj2_p0_l10 lj2_p0_l11 lj2_p0_l12 ej2_p0_15 hj2_0_0_l8 hj2_0_0_l9 hj2_0_0_l11 hj2_0_0_l13 hj2_0_0_l14 hj2_0_0_l15 oj2_0_0_l16 ej2_1_1_1_1_1_0_6_0)
theorem f65_j1 {w0 : World} {M0 : Mem} {r : S85} : ∀ {M : Mem} {rcx0_15 : List Value} {b0_1 bx0 chx0_10 chx0_7 chx0_8 chx1_11 chx1_13 chx1_14 chx1_15 chx1_8 chx1_9 cx0_15 : Nat} {Ahx0_10 Ahx0_7 Ahx0_8 Ahx1_11 Ahx1_13 Ahx1_14 Ahx1_15 Ahx1_8 Ahx1_9 Ax0_15 : Option Addr} (xj1_s33 : Bool) (x1 : S46) (x0 : S85) (_ : m65_j1 xj1_s33 x1 x0 = some r) (_ : SlAt (kint .i64) M Ahx0_7 chx0_7 x0.f0.f5.f0.f2) (_ : SlAt kS80 M Ahx0_8 chx0_8 x0.f0.f5.f1) (_ : SlAt (kint .i64) M Ahx0_10 chx0_10 x0.f0.f7) (_ : x0.f0.f8.length = 8) (_ : x0.f0.f9.length = 8) (_ : Elems kS46 M rcx0_15 x0.f1) (_ : SlAt kS80 M Ahx1_8 chx1_8 x1.f8) (_ : SlAt (kint .i64) M Ahx1_9 chx1_9 x1.f9) (_ : SlAt (kint .u8) M Ahx1_11 chx1_11 x1.f11) (_ : SlAt (kint .u8) M Ahx1_13 chx1_13 x1.f12.f1) (_ : SlAt (kint .u8) M Ahx1_14 chx1_14 x1.f12.f2) (_ : SlAt (kint .u8) M Ahx1_15 chx1_15 x1.f12.f3) (_ : Value.oneCell' x1.f12.f4 = true), AG Try.prog c65 [1, 1, 0, 1] (D65 w0 M0 r bx0 x0 Ahx0_7 chx0_7 Ahx0_8 chx0_8 Ahx0_10 chx0_10 Ax0_15 cx0_15 rcx0_15) (C65 w0 M0 bx0 x0 Ahx0_7 chx0_7 Ahx0_8 chx0_8 Ahx0_10 chx0_10 Ax0_15 cx0_15 rcx0_15) (env [(0, .pointer (some ⟨bx0, 0, none⟩)), (3, .pointer (some ⟨b0_1, 0, none⟩)), (4, .pointer (some ⟨bx0, 0, none⟩)), (33, .bool xj1_s33)]) M [.blk bx0 (cS85 x0 Ahx0_7 chx0_7 Ahx0_8 chx0_8 Ahx0_10 chx0_10 Ax0_15 cx0_15) 86, .row (.slice Ax0_15 x0.f1.length cx0_15) 47 17 x0.f1.length rcx0_15, .blk b0_1 (cS46 x1 Ahx1_8 chx1_8 Ahx1_9 chx1_9 Ahx1_11 chx1_11 Ahx1_13 chx1_13 Ahx1_14 chx1_14 Ahx1_15 chx1_15) 47] := by
  intro M rcx0_15 b0_1 bx0 chx0_10 chx0_7 chx0_8 chx1_11 chx1_13 chx1_14 chx1_15 chx1_8 chx1_9 cx0_15 Ahx0_10 Ahx0_7 Ahx0_8 Ahx1_11 Ahx1_13 Ahx1_14 Ahx1_15 Ahx1_8 Ahx1_9 Ax0_15 xj1_s33 x1 x0 hm hj1_p0_l7 hj1_p0_l8 hj1_p0_l10 lj1_p0_l11 lj1_p0_l12 ej1_p0_15 hj1_0_0_l8 hj1_0_0_l9 hj1_0_0_l11 hj1_0_0_l13 hj1_0_0_l14 hj1_0_0_l15 oj1_0_0_l16; unfold m65_j1 at hm
  refine gi [1, 1, 0, 1] hm (fun hm => ?_) fun hm => ?_
  · obtain rfl := Option.some.inj hm
    exact rt (v := .tuple #[]) [0, 1] ⟨(cS85 x0 Ahx0_7 chx0_7 Ahx0_8 chx0_8 Ahx0_10 chx0_10 Ax0_15 cx0_15), Ax0_15, cx0_15, rcx0_15, rfl, rfl, (oS85_mk (cs := (cS85 x0 Ahx0_7 chx0_7 Ahx0_8 chx0_8 Ahx0_10 chx0_10 Ax0_15 cx0_15)) x0 rfl hj1_p0_l7 hj1_p0_l8 hj1_p0_l10 lj1_p0_l11 lj1_p0_l12), ej1_p0_15⟩
  · obtain ⟨tj1_1, htj1_1, hm⟩ := bind_some hm
    refine rg [1, 1, 1, 0] ?_
    refine seg [.p 2, .l 2] [(34, .pointer (some ⟨bx0, 0, none⟩)), (36, .int .i64 x1.f1)] [] ?_
    refine g_call 37 [0, 1] (f86_ok (bx0 := bx0) (Ax0_15 := Ax0_15) (cx0_15 := cx0_15) _ _ _ htj1_1 (oS85_mk (cs := (cS85 x0 Ahx0_7 chx0_7 Ahx0_8 chx0_8 Ahx0_10 chx0_10 Ax0_15 cx0_15)) x0 rfl hj1_p0_l7 hj1_p0_l8 hj1_p0_l10 lj1_p0_l11 lj1_p0_l12) ej1_p0_15) ?_
    rintro _ Mj1_7 _ ⟨csj1_2, Aj1_4, cj1_5, rcj1_6, rfl, rfl, hj1_3, hj1_7⟩ hMj1_7
    obtain ⟨Ahj1_3_7, chj1_3_7, Ahj1_3_8, chj1_3_8, Ahj1_3_10, chj1_3_10, rfl, hj1_3_7, hj1_3_8, hj1_3_10, hj1_3_11, hj1_3_12⟩ := oS85_open hj1_3
    refine fin ?_
    refine rgD [1, 1, 1, 1, 0, 0] (PT.of [0, 5, 8, 12, 16, 21, 24] .dn) [(1, 2), (5, 0)] [0, 4] mixed plain_done ?_
    refine seg [.p 1, .l 2, .p 3, .l 0, .p 1] [(44, .bool (decide ((x1.f4 : Int) ≤ tj1_1.f0.f6)))] [] ?_
    refine fin ?_
    refine gi [1, 1, 1, 1, 0, 1] hm (fun hm => ?_) fun hm => ?_
    · obtain ⟨tj1_8, htj1_8, hm⟩ := bind_some hm
      refine rgD [1, 1, 1, 1, 0, 1, 0, 0] (PT.of [0, 4, 9, 12, 16, 20, 25, 28, 35] .dn) [(2, 2), (6, 0)] [0, 4] mixed plain_done ?_
      refine seg [.p 2, .l 2, .p 3, .l 0, .b] [(45, .pointer (some ⟨bx0, 0, none⟩)), (47, .int .i64 x1.f1), (52, .agg (cS46 (S46.mk 4 0 0 0 tj1_1.f0.f6 0 0 true [] [] 0 [] (S44.mk 0 [] [] [] (.slice none 0 0))) none 0 none 0 none 0 none 0 none 0 none 0).toArray)] [] ?_
      refine g_call 53 [0, 1] (f59_ok (bx0 := bx0) (Ax0_15 := Aj1_4) (cx0_15 := cj1_5) _ _ _ _ htj1_8 (oS85_mk (cs := (cS85 tj1_1 Ahj1_3_7 chj1_3_7 Ahj1_3_8 chj1_3_8 Ahj1_3_10 chj1_3_10 Aj1_4 cj1_5)) tj1_1 rfl hj1_3_7 hj1_3_8 hj1_3_10 hj1_3_11 hj1_3_12) hj1_7 (kS46_mk (cs := (cS46 (S46.mk 4 0 0 0 tj1_1.f0.f6 0 0 true [] [] 0 [] (S44.mk 0 [] [] [] (.slice none 0 0))) none 0 none 0 none 0 none 0 none 0 none 0)) (S46.mk 4 0 0 0 tj1_1.f0.f6 0 0 true [] [] 0 [] (S44.mk 0 [] [] [] (.slice none 0 0))) rfl slNil slNil slNil slNil slNil slNil rfl)) ?_
      rintro _ Mj1_14 _ ⟨csj1_9, Aj1_11, cj1_12, rcj1_13, rfl, rfl, hj1_10, hj1_14⟩ hMj1_14
      obtain ⟨Ahj1_10_7, chj1_10_7, Ahj1_10_8, chj1_10_8, Ahj1_10_10, chj1_10_10, rfl, hj1_10_7, hj1_10_8, hj1_10_10, hj1_10_11, hj1_10_12⟩ := oS85_open hj1_10
      refine fin ?_
      obtain rfl := Option.some.inj hm
      exact rt (v := .tuple #[]) [0, 1] ⟨(cS85 tj1_8 Ahj1_10_7 chj1_10_7 Ahj1_10_8 chj1_10_8 Ahj1_10_10 chj1_10_10 Aj1_11 cj1_12), Aj1_11, cj1_12, rcj1_13, rfl, rfl, (oS85_mk (cs := (cS85 tj1_8 Ahj1_10_7 chj1_10_7 Ahj1_10_8 chj1_10_8 Ahj1_10_10 chj1_10_10 Aj1_11 cj1_12)) tj1_8 rfl hj1_10_7 hj1_10_8 hj1_10_10 hj1_10_11 hj1_10_12), hj1_14⟩
    · obtain ⟨tj1_435, htj1_435, hm⟩ := bind_some hm
      refine rgD [1, 1, 1, 1, 1, 0] (PT.of [0, 5, 8, 13, 16, 21] (.two 6 (PT.of [28, 35, 39] .dn) 8 (PT.of [27, 28, 39] .dn))) [(1, 2), (3, 2), (5, 2)] [4] mixed plain_done ?_
      refine seg [.p 1, .l 2, .p 1, .l 2, .p 1, .l 2] [(55, .int .i64 x1.f4), (57, .int .i64 x1.f5), (59, .slice Ahx1_9 x1.f9.length chx1_9)] [] ?_
      refine g2 ?_ ?_
      · replace hj1_0_0_l9 := (hj1_0_0_l9.mono hMj1_7)
        refine g_call0 60 (f61_ok _ _ htj1_435 hj1_0_0_l9) ?_
        rintro _ Mj1_439 _ ⟨Aj1_436, cj1_437, csj1_438, rfl, rfl, hj1_439⟩ hMj1_439
        refine seg [.b] [(61, .agg (cS23 (S23.mk x1.f4 x1.f5 tj1_435) Aj1_436 cj1_437).toArray)] [] ?_
        refine g_al 5 24 (cS23 (S23.mk 0 0 []) none 0) fun bj1_555 => ?_
        refine seg [.s 4] [] [(4, .blk bj1_555 (cS23 (S23.mk x1.f4 x1.f5 tj1_435) Aj1_436 cj1_437) 24)] ?_
        refine fin ?_
        replace hj1_3_7 := (hj1_3_7.mono hMj1_439)
        replace hj1_3_8 := (hj1_3_8.mono hMj1_439)
        replace hj1_3_10 := (hj1_3_10.mono hMj1_439)
        replace hj1_7 := (hj1_7.mono hMj1_439)
        replace hj1_0_0_l8 := ((hj1_0_0_l8.mono hMj1_7).mono hMj1_439)
        replace hj1_0_0_l9 := (hj1_0_0_l9.mono hMj1_439)
        replace hj1_0_0_l11 := ((hj1_0_0_l11.mono hMj1_7).mono hMj1_439)
        replace hj1_0_0_l13 := ((hj1_0_0_l13.mono hMj1_7).mono hMj1_439)
        replace hj1_0_0_l14 := ((hj1_0_0_l14.mono hMj1_7).mono hMj1_439)
        replace hj1_0_0_l15 := ((hj1_0_0_l15.mono hMj1_7).mono hMj1_439)
        exact to [0, 1, 2, 4, 3] (@f65_j2 _ _ _ Mj1_439 csj1_438 rcj1_6 rcx0_15 b0_1 bj1_555 bx0 chj1_3_10 chj1_3_7 chj1_3_8 chx0_10 chx0_7 chx0_8 chx1_11 chx1_13 chx1_14 chx1_15 chx1_8 chx1_9 cj1_437 cj1_5 cx0_15 Ahj1_3_10 Ahj1_3_7 Ahj1_3_8 Ahx0_10 Ahx0_7 Ahx0_8 Ahx1_11 Ahx1_13 Ahx1_14 Ahx1_15 Ahx1_8 Ahx1_9 Aj1_4 Aj1_436 Ax0_15 _ _ _ _ hm hj1_3_7 hj1_3_8 hj1_3_10 hj1_3_11 hj1_3_12 hj1_7 hj1_0_0_l8 hj1_0_0_l9 hj1_0_0_l11 hj1_0_0_l13 hj1_0_0_l14 hj1_0_0_l15 oj1_0_0_l16 hj1_439)
      · refine g_al 5 24 (cS23 (S23.mk 0 0 []) none 0) fun bj1_555 => ?_
        replace hj1_0_0_l9 := (hj1_0_0_l9.mono hMj1_7)
        refine g_call0 60 (f61_ok _ _ htj1_435 hj1_0_0_l9) ?_
        rintro _ Mj1_439 _ ⟨Aj1_436, cj1_437, csj1_438, rfl, rfl, hj1_439⟩ hMj1_439
        refine seg [.b, .s 3] [] [(3, .blk bj1_555 (cS23 (S23.mk x1.f4 x1.f5 tj1_435) Aj1_436 cj1_437) 24)] ?_
        refine fin ?_
        replace hj1_3_7 := (hj1_3_7.mono hMj1_439)
        replace hj1_3_8 := (hj1_3_8.mono hMj1_439)
        replace hj1_3_10 := (hj1_3_10.mono hMj1_439)
        replace hj1_7 := (hj1_7.mono hMj1_439)
        replace hj1_0_0_l8 := ((hj1_0_0_l8.mono hMj1_7).mono hMj1_439)
        replace hj1_0_0_l9 := (hj1_0_0_l9.mono hMj1_439)
        replace hj1_0_0_l11 := ((hj1_0_0_l11.mono hMj1_7).mono hMj1_439)
        replace hj1_0_0_l13 := ((hj1_0_0_l13.mono hMj1_7).mono hMj1_439)
        replace hj1_0_0_l14 := ((hj1_0_0_l14.mono hMj1_7).mono hMj1_439)
        replace hj1_0_0_l15 := ((hj1_0_0_l15.mono hMj1_7).mono hMj1_439)
        exact to [0, 1, 2, 3, 4] (@f65_j2 _ _ _ Mj1_439 csj1_438 rcj1_6 rcx0_15 b0_1 bj1_555 bx0 chj1_3_10 chj1_3_7 chj1_3_8 chx0_10 chx0_7 chx0_8 chx1_11 chx1_13 chx1_14 chx1_15 chx1_8 chx1_9 cj1_437 cj1_5 cx0_15 Ahj1_3_10 Ahj1_3_7 Ahj1_3_8 Ahx0_10 Ahx0_7 Ahx0_8 Ahx1_11 Ahx1_13 Ahx1_14 Ahx1_15 Ahx1_8 Ahx1_9 Aj1_4 Aj1_436 Ax0_15 _ _ _ _ hm hj1_3_7 hj1_3_8 hj1_3_10 hj1_3_11 hj1_3_12 hj1_7 hj1_0_0_l8 hj1_0_0_l9 hj1_0_0_l11 hj1_0_0_l13 hj1_0_0_l14 hj1_0_0_l15 oj1_0_0_l16 hj1_439)
theorem f65_ok {M : Mem} {bx0 : Nat} {csx0 : List Value} {Ax0_15 : Option Addr} {cx0_15 : Nat} {rcx0_15 : List Value} {csx1 : List Value} (x0 : S85) (x1 : S46) (r : S85) (hm : m65 x0 x1 = some r) (hx0 : (oS85 Ax0_15 cx0_15).rep M csx0 x0) (ex0_15 : Elems kS46 M rcx0_15 x0.f1) (hx1 : kS46.rep M csx1 x1) : FnOk Try.prog 65 [.pointer (some ⟨bx0, 0, none⟩), .agg csx1.toArray] M [.blk bx0 csx0 86, .row (.slice Ax0_15 x0.f1.length cx0_15) 47 17 x0.f1.length rcx0_15] (R65 M bx0 csx0 Ax0_15 x0 cx0_15 rcx0_15 r) := by
  obtain ⟨Ahx0_7, chx0_7, Ahx0_8, chx0_8, Ahx0_10, chx0_10, rfl, hx0_7, hx0_8, hx0_10, hx0_11, hx0_12⟩ := oS85_open hx0
  obtain ⟨Ahx1_8, chx1_8, Ahx1_9, chx1_9, Ahx1_11, chx1_11, Ahx1_13, chx1_13, Ahx1_14, chx1_14, Ahx1_15, chx1_15, rfl, hx1_8, hx1_9, hx1_11, hx1_13, hx1_14, hx1_15, hx1_16⟩ := kS46_open hx1
  refine intro_ (c := c65) 121 Try.func65 fun w => ?_
  unfold m65 at hm
  refine rg [0] ?_
  refine g_bx 3 47 (.agg (cS46 x1 Ahx1_8 chx1_8 Ahx1_9 chx1_9 Ahx1_11 chx1_11 Ahx1_13 chx1_13 Ahx1_14 chx1_14 Ahx1_15 chx1_15).toArray) fun b0_1 => ?_
  refine fin ?_
  refine rs [1, 0] [.p 4] [(4, .pointer (some ⟨bx0, 0, none⟩))] [] ?_
  refine rgD [1, 1, 0, 0] (PT.of [0, 4, 8, 13, 16, 20, 24, 29, 35, 36, 40, 44, 48, 53, 56, 60, 64, 69, 72, 76] .dn) [(3, 0), (7, 2), (13, 2), (17, 0)] [0, 4] mixed plain_done ?_
  refine seg [.p 3, .l 0, .p 2] [(19, .bool ((x0.f0.f3 : Int) == 2))] [] ?_
  refine gs 19 hm (fun hm => ?_) fun hm => ?_
  · refine seg [.p 14] [(33, .bool true)] [] ?_
    refine fin ?_
    exact to [0, 1, 2] (@f65_j1 _ _ _ M rcx0_15 b0_1 bx0 chx0_10 chx0_7 chx0_8 chx1_11 chx1_13 chx1_14 chx1_15 chx1_8 chx1_9 cx0_15 Ahx0_10 Ahx0_7 Ahx0_8 Ahx1_11 Ahx1_13 Ahx1_14 Ahx1_15 Ahx1_8 Ahx1_9 Ax0_15 _ _ _ hm hx0_7 hx0_8 hx0_10 hx0_11 hx0_12 ex0_15 hx1_8 hx1_9 hx1_11 hx1_13 hx1_14 hx1_15 hx1_16)
  · obtain ⟨t0_2, ht0_2, hm⟩ := bind_some hm
    refine seg [.p 1, .l 2] [(21, .slice Ahx1_9 x1.f9.length chx1_9)] [] ?_
    refine g_call0 22 (f78_ok _ _ ht0_2 hx1_9) ?_
    rintro _ _ _ ⟨rfl, rfl, rfl⟩ -
    refine seg [.p 3] [(25, .bool (!t0_2))] [] ?_
    refine gs 25 hm (fun hm => ?_) fun hm => ?_
    · refine seg [.p 8] [(33, .bool true)] [] ?_
      refine fin ?_
      exact to [0, 1, 2] (@f65_j1 _ _ _ M rcx0_15 b0_1 bx0 chx0_10 chx0_7 chx0_8 chx1_11 chx1_13 chx1_14 chx1_15 chx1_8 chx1_9 cx0_15 Ahx0_10 Ahx0_7 Ahx0_8 Ahx1_11 Ahx1_13 Ahx1_14 Ahx1_15 Ahx1_8 Ahx1_9 Ax0_15 _ _ _ hm hx0_7 hx0_8 hx0_10 hx0_11 hx0_12 ex0_15 hx1_8 hx1_9 hx1_11 hx1_13 hx1_14 hx1_15 hx1_16)
    · refine seg [.p 1, .l 2, .p 3, .l 0, .p 2] [(33, .bool (decide ((x1.f5 : Int) > x0.f0.f1)))] [] ?_
      refine fin ?_
      exact to [0, 1, 2] (@f65_j1 _ _ _ M rcx0_15 b0_1 bx0 chx0_10 chx0_7 chx0_8 chx1_11 chx1_13 chx1_14 chx1_15 chx1_8 chx1_9 cx0_15 Ahx0_10 Ahx0_7 Ahx0_8 Ahx1_11 Ahx1_13 Ahx1_14 Ahx1_15 Ahx1_8 Ahx1_9 Ax0_15 _ _ _ hm hx0_7 hx0_8 hx0_10 hx0_11 hx0_12 ex0_15 hx1_8 hx1_9 hx1_11 hx1_13 hx1_14 hx1_15 hx1_16)

/-! ## (heartwood/raft.stepper).ack -/
/-- (heartwood/raft.stepper).ack: what is left behind a call. -/
abbrev R66 (M : Mem) (bx0 : Nat) (csx0 : List Value) (Ax0_15 : Option Addr) (x0 : S85) (cx0_15 : Nat) (rcx0_15 : List Value) (r : S85) : Value → Mem → List Res → Prop := fun v M' H' => ∃ (q0 : List Value) (w0_15 : Option Addr) (y0_15 : Nat) (z0_15 : List Value), .tuple #[] = v ∧ H' = [.blk bx0 q0 86, .row (.slice w0_15 r.f1.length y0_15) 47 17 r.f1.length z0_15] ∧ (oS85 w0_15 y0_15).rep M' q0 r ∧ Elems kS46 M' z0_15 r.f1
noncomputable def c66 : Code := match Try.f66.body with | some c => c | none => .skip
abbrev C66 (w0 : World) (M0 : Mem) (bx0 : Nat) (x0 : S85) (Ahx0_7 : Option Addr) (chx0_7 : Nat) (Ahx0_8 : Option Addr) (chx0_8 : Nat) (Ahx0_10 : Option Addr) (chx0_10 : Nat) (Ax0_15 : Option Addr) (cx0_15 : Nat) (rcx0_15 : List Value) : Ctx := ⟨102, w0, M0, [.blk bx0 (cS85 x0 Ahx0_7 chx0_7 Ahx0_8 chx0_8 Ahx0_10 chx0_10 Ax0_15 cx0_15) 86, .row (.slice Ax0_15 x0.f1.length cx0_15) 47 17 x0.f1.length rcx0_15]⟩
abbrev D66 (w0 : World) (M0 : Mem) (r : S85) (bx0 : Nat) (x0 : S85) (Ahx0_7 : Option Addr) (chx0_7 : Nat) (Ahx0_8 : Option Addr) (chx0_8 : Nat) (Ahx0_10 : Option Addr) (chx0_10 : Nat) (Ax0_15 : Option Addr) (cx0_15 : Nat) (rcx0_15 : List Value) : Post := Done Try.prog Try.f66 (C66 w0 M0 bx0 x0 Ahx0_7 chx0_7 Ahx0_8 chx0_8 Ahx0_10 chx0_10 Ax0_15 cx0_15 rcx0_15) (R66 M0 bx0 (cS85 x0 Ahx0_7 chx0_7 Ahx0_8 chx0_8 Ahx0_10 chx0_10 Ax0_15 cx0_15) Ax0_15 x0 cx0_15 rcx0_15 r)
theorem f66_j1 {w0 : World} {M0 : Mem} {r : S85} : ∀ {M : Mem} {rc0_25 rcx0_15 : List Value} {b0_1 bx0 c0_24 ch0_22_10 ch0_22_7 ch0_22_8 chx0_10 chx0_7 chx0_8 chx1_11 chx1_13 chx1_14 chx1_15 chx1_8 chx1_9 cx0_15 : Nat} {A0_23 Ah0_22_10 Ah0_22_7 Ah0_22_8 Ahx0_10 Ahx0_7 Ahx0_8 Ahx1_11 Ahx1_13 Ahx1_14 Ahx1_15 Ahx1_8 Ahx1_9 Ax0_15 : Option Addr} (xj1_s97 : Bool) (x1 : S46) (t0_20 x0 : S85) (_ : m66_j1 xj1_s97 x1 t0_20 x0 = some r) (_ : SlAt (kint .i64) M Ah0_22_7 ch0_22_7 t0_20.f0.f5.f0.f2) (_ : SlAt kS80 M Ah0_22_8 ch0_22_8 t0_20.f0.f5.f1) (_ : SlAt (kint .i64) M Ah0_22_10 ch0_22_10 t0_20.f0.f7) (_ : t0_20.f0.f8.length = 8) (_ : t0_20.f0.f9.length = 8) (_ : Elems kS46 M rc0_25 t0_20.f1) (_ : SlAt kS80 M Ahx1_8 chx1_8 x1.f8) (_ : SlAt (kint .i64) M Ahx1_9 chx1_9 x1.f9) (_ : SlAt (kint .u8) M Ahx1_11 chx1_11 x1.f11) (_ : SlAt (kint .u8) M Ahx1_13 chx1_13 x1.f12.f1) (_ : SlAt (kint .u8) M Ahx1_14 chx1_14 x1.f12.f2) (_ : SlAt (kint .u8) M Ahx1_15 chx1_15 x1.f12.f3) (_ : Value.oneCell' x1.f12.f4 = true), AG Try.prog c66 [1, 1, 1, 1, 1, 1, 1, 1] (D66 w0 M0 r bx0 x0 Ahx0_7 chx0_7 Ahx0_8 chx0_8 Ahx0_10 chx0_10 Ax0_15 cx0_15 rcx0_15) (C66 w0 M0 bx0 x0 Ahx0_7 chx0_7 Ahx0_8 chx0_8 Ahx0_10 chx0_10 Ax0_15 cx0_15 rcx0_15) (env [(0, .pointer (some ⟨bx0, 0, none⟩)), (3, .pointer (some ⟨b0_1, 0, none⟩)), (97, .bool xj1_s97)]) M [.blk bx0 (cS85 t0_20 Ah0_22_7 ch0_22_7 Ah0_22_8 ch0_22_8 Ah0_22_10 ch0_22_10 A0_23 c0_24) 86, .row (.slice A0_23 t0_20.f1.length c0_24) 47 17 t0_20.f1.length rc0_25, .blk b0_1 (cS46 x1 Ahx1_8 chx1_8 Ahx1_9 chx1_9 Ahx1_11 chx1_11 Ahx1_13 chx1_13 Ahx1_14 chx1_14 Ahx1_15 chx1_15) 47] := by
  intro M rc0_25 rcx0_15 b0_1 bx0 c0_24 ch0_22_10 ch0_22_7 ch0_22_8 chx0_10 chx0_7 chx0_8 chx1_11 chx1_13 chx1_14 chx1_15 chx1_8 chx1_9 cx0_15 A0_23 Ah0_22_10 Ah0_22_7 Ah0_22_8 Ahx0_10 Ahx0_7 Ahx0_8 Ahx1_11 Ahx1_13 Ahx1_14 Ahx1_15 Ahx1_8 Ahx1_9 Ax0_15 xj1_s97 x1 t0_20 x0 hm hj1_p0_l7 hj1_p0_l8 hj1_p0_l10 lj1_p0_l11 lj1_p0_l12 ej1_p0_15 hj1_0_0_l8 hj1_0_0_l9 hj1_0_0_l11 hj1_0_0_l13 hj1_0_0_l14 hj1_0_0_l15 oj1_0_0_l16; unfold m66_j1 at hm
  refine gi [1, 1, 1, 1, 1, 1, 1, 1] hm (fun hm => ?_) fun hm => ?_
  · obtain ⟨tj1_1, htj1_1, hm⟩ := bind_some hm
    refine rg [1, 1, 1, 1, 1, 1, 1, 1, 0] ?_
    refine seg [.p 2, .l 2] [(98, .pointer (some ⟨bx0, 0, none⟩)), (100, .int .i64 x1.f1)] [] ?_
    refine g_call 101 [0, 1] (f55_ok (bx0 := bx0) (Ax0_15 := A0_23) (cx0_15 := c0_24) _ _ _ htj1_1 (oS85_mk (cs := (cS85 t0_20 Ah0_22_7 ch0_22_7 Ah0_22_8 ch0_22_8 Ah0_22_10 ch0_22_10 A0_23 c0_24)) t0_20 rfl hj1_p0_l7 hj1_p0_l8 hj1_p0_l10 lj1_p0_l11 lj1_p0_l12) ej1_p0_15) ?_
    rintro _ Mj1_7 _ ⟨csj1_2, Aj1_4, cj1_5, rcj1_6, rfl, rfl, hj1_3, hj1_7⟩ hMj1_7
    obtain ⟨Ahj1_3_7, chj1_3_7, Ahj1_3_8, chj1_3_8, Ahj1_3_10, chj1_3_10, rfl, hj1_3_7, hj1_3_8, hj1_3_10, hj1_3_11, hj1_3_12⟩ := oS85_open hj1_3
    refine finE ?_
    obtain rfl := Option.some.inj hm
    exact re (v := .tuple #[]) [0, 1] ⟨(cS85 tj1_1 Ahj1_3_7 chj1_3_7 Ahj1_3_8 chj1_3_8 Ahj1_3_10 chj1_3_10 Aj1_4 cj1_5), Aj1_4, cj1_5, rcj1_6, rfl, rfl, (oS85_mk (cs := (cS85 tj1_1 Ahj1_3_7 chj1_3_7 Ahj1_3_8 chj1_3_8 Ahj1_3_10 chj1_3_10 Aj1_4 cj1_5)) tj1_1 rfl hj1_3_7 hj1_3_8 hj1_3_10 hj1_3_11 hj1_3_12), hj1_7⟩
  · refine en ?_
    obtain rfl := Option.some.inj hm
    exact re (v := .tuple #[]) [0, 1] ⟨(cS85 t0_20 Ah0_22_7 ch0_22_7 Ah0_22_8 ch0_22_8 Ah0_22_10 ch0_22_10 A0_23 c0_24), A0_23, c0_24, rc0_25, rfl, rfl, (oS85_mk (cs := (cS85 t0_20 Ah0_22_7 ch0_22_7 Ah0_22_8 ch0_22_8 Ah0_22_10 ch0_22_10 A0_23 c0_24)) t0_20 rfl hj1_p0_l7 hj1_p0_l8 hj1_p0_l10 lj1_p0_l11 lj1_p0_l12), ej1_p0_15⟩
theorem f66_ok {M : Mem} {bx0 : Nat} {csx0 : List Value} {Ax0_15 : Option Addr} {cx0_15 : Nat} {rcx0_15 : List Value} {csx1 : List Value} (x0 : S85) (x1 : S46) (r : S85) (hm : m66 x0 x1 = some r) (hx0 : (oS85 Ax0_15 cx0_15).rep M csx0 x0) (ex0_15 : Elems kS46 M rcx0_15 x0.f1) (hx1 : kS46.rep M csx1 x1) : FnOk Try.prog 66 [.pointer (some ⟨bx0, 0, none⟩), .agg csx1.toArray] M [.blk bx0 csx0 86, .row (.slice Ax0_15 x0.f1.length cx0_15) 47 17 x0.f1.length rcx0_15] (R66 M bx0 csx0 Ax0_15 x0 cx0_15 rcx0_15 r) := by
  obtain ⟨Ahx0_7, chx0_7, Ahx0_8, chx0_8, Ahx0_10, chx0_10, rfl, hx0_7, hx0_8, hx0_10, hx0_11, hx0_12⟩ := oS85_open hx0
  obtain ⟨Ahx1_8, chx1_8, Ahx1_9, chx1_9, Ahx1_11, chx1_11, Ahx1_13, chx1_13, Ahx1_14, chx1_14, Ahx1_15, chx1_15, rfl, hx1_8, hx1_9, hx1_11, hx1_13, hx1_14, hx1_15, hx1_16⟩ := kS46_open hx1
  refine intro_ (c := c66) 102 Try.func66 fun w => ?_
  unfold m66 at hm
  refine rg [0] ?_
  refine g_bx 3 47 (.agg (cS46 x1 Ahx1_8 chx1_8 Ahx1_9 chx1_9 Ahx1_11 chx1_11 Ahx1_13 chx1_13 Ahx1_14 chx1_14 Ahx1_15 chx1_15).toArray) fun b0_1 => ?_
  refine fin ?_
  refine rs [1, 0] [.p 4] [(4, .pointer (some ⟨bx0, 0, none⟩))] [] ?_
  refine rs [1, 1, 0, 0] [.p 1, .l 2, .p 1] [(10, .bool (!x1.f7))] [] ?_
  refine gi [1, 1, 0, 1] hm (fun hm => ?_) fun hm => ?_
  · obtain ⟨hb0_2, hm⟩ := gd2 hm
    refine rgD [1, 1, 0, 1, 0, 0] (PT.of [0, 4, 9, 12, 17, 20, 24, 28, 33, 36, 40, 44, 49, 52, 56, 60, 64, 69, 72, 76, 80, 85, 88, 92, 96, 100, 104, 108, 115] .dn) [(2, 2), (4, 2), (8, 2), (12, 0), (17, 2), (21, 0)] [0, 4] mixed plain_done ?_
    refine seg [.p 2, .l 2, .p 1, .l 2, .p 3, .l 2, .p 2] [(11, .pointer (some ⟨bx0, 0, none⟩)), (13, .int .i64 x1.f1), (16, .int .i64 (IntKind.i64.wrap (x1.f4 + 1))), (19, .int .i64 x1.f1), (21, .pointer (some ⟨bx0, 11, none⟩))] [] ?_
    refine g_ixA 22 bx0 11 8 1 hb0_2 ?_
    refine g_la 23 0 11 8 .i64 hx0_11 hb0_2 ?_
    obtain ⟨hb0_3, hm⟩ := gd2 hm
    refine seg [.p 4, .l 2, .p 2] [(25, .int .i64 (if IntKind.i64.wrap ((x0.f0.f8.getD x1.f1.toNat 0) - 1) < IntKind.i64.wrap (x1.f4 + 1) then IntKind.i64.wrap ((x0.f0.f8.getD x1.f1.toNat 0) - 1) else IntKind.i64.wrap (x1.f4 + 1))), (28, .int .i64 x1.f1), (30, .pointer (some ⟨bx0, 19, none⟩))] [] ?_
    refine g_ixA 31 bx0 19 8 1 hb0_3 ?_
    refine g_la 32 0 19 8 .i64 hx0_12 hb0_3 ?_
    obtain ⟨hb0_4, hm⟩ := gd2 hm
    refine seg [.p 5] [(35, .int .i64 (if 1152921504606846976 < (if (if IntKind.i64.wrap ((x0.f0.f8.getD x1.f1.toNat 0) - 1) < IntKind.i64.wrap (x1.f4 + 1) then IntKind.i64.wrap ((x0.f0.f8.getD x1.f1.toNat 0) - 1) else IntKind.i64.wrap (x1.f4 + 1)) < IntKind.i64.wrap ((x0.f0.f9.getD x1.f1.toNat 0) + 1) then IntKind.i64.wrap ((x0.f0.f9.getD x1.f1.toNat 0) + 1) else (if IntKind.i64.wrap ((x0.f0.f8.getD x1.f1.toNat 0) - 1) < IntKind.i64.wrap (x1.f4 + 1) then IntKind.i64.wrap ((x0.f0.f8.getD x1.f1.toNat 0) - 1) else IntKind.i64.wrap (x1.f4 + 1))) then 1152921504606846976 else (if (if IntKind.i64.wrap ((x0.f0.f8.getD x1.f1.toNat 0) - 1) < IntKind.i64.wrap (x1.f4 + 1) then IntKind.i64.wrap ((x0.f0.f8.getD x1.f1.toNat 0) - 1) else IntKind.i64.wrap (x1.f4 + 1)) < IntKind.i64.wrap ((x0.f0.f9.getD x1.f1.toNat 0) + 1) then IntKind.i64.wrap ((x0.f0.f9.getD x1.f1.toNat 0) + 1) else (if IntKind.i64.wrap ((x0.f0.f8.getD x1.f1.toNat 0) - 1) < IntKind.i64.wrap (x1.f4 + 1) then IntKind.i64.wrap ((x0.f0.f8.getD x1.f1.toNat 0) - 1) else IntKind.i64.wrap (x1.f4 + 1))))), (37, .pointer (some ⟨bx0, 11, none⟩))] [] ?_
    refine g_ixA 38 bx0 11 8 1 hb0_4 ?_
    have n0_5 : (x0.f0.f8.set x1.f1.toNat (if 1152921504606846976 < (if (if IntKind.i64.wrap ((x0.f0.f8.getD x1.f1.toNat 0) - 1) < IntKind.i64.wrap (x1.f4 + 1) then IntKind.i64.wrap ((x0.f0.f8.getD x1.f1.toNat 0) - 1) else IntKind.i64.wrap (x1.f4 + 1)) < IntKind.i64.wrap ((x0.f0.f9.getD x1.f1.toNat 0) + 1) then IntKind.i64.wrap ((x0.f0.f9.getD x1.f1.toNat 0) + 1) else (if IntKind.i64.wrap ((x0.f0.f8.getD x1.f1.toNat 0) - 1) < IntKind.i64.wrap (x1.f4 + 1) then IntKind.i64.wrap ((x0.f0.f8.getD x1.f1.toNat 0) - 1) else IntKind.i64.wrap (x1.f4 + 1))) then 1152921504606846976 else (if (if IntKind.i64.wrap ((x0.f0.f8.getD x1.f1.toNat 0) - 1) < IntKind.i64.wrap (x1.f4 + 1) then IntKind.i64.wrap ((x0.f0.f8.getD x1.f1.toNat 0) - 1) else IntKind.i64.wrap (x1.f4 + 1)) < IntKind.i64.wrap ((x0.f0.f9.getD x1.f1.toNat 0) + 1) then IntKind.i64.wrap ((x0.f0.f9.getD x1.f1.toNat 0) + 1) else (if IntKind.i64.wrap ((x0.f0.f8.getD x1.f1.toNat 0) - 1) < IntKind.i64.wrap (x1.f4 + 1) then IntKind.i64.wrap ((x0.f0.f8.getD x1.f1.toNat 0) - 1) else IntKind.i64.wrap (x1.f4 + 1))))).length = 8 := len_set hx0_11
    refine g_sA 0 11 8 .i64 (if 1152921504606846976 < (if (if IntKind.i64.wrap ((x0.f0.f8.getD x1.f1.toNat 0) - 1) < IntKind.i64.wrap (x1.f4 + 1) then IntKind.i64.wrap ((x0.f0.f8.getD x1.f1.toNat 0) - 1) else IntKind.i64.wrap (x1.f4 + 1)) < IntKind.i64.wrap ((x0.f0.f9.getD x1.f1.toNat 0) + 1) then IntKind.i64.wrap ((x0.f0.f9.getD x1.f1.toNat 0) + 1) else (if IntKind.i64.wrap ((x0.f0.f8.getD x1.f1.toNat 0) - 1) < IntKind.i64.wrap (x1.f4 + 1) then IntKind.i64.wrap ((x0.f0.f8.getD x1.f1.toNat 0) - 1) else IntKind.i64.wrap (x1.f4 + 1))) then 1152921504606846976 else (if (if IntKind.i64.wrap ((x0.f0.f8.getD x1.f1.toNat 0) - 1) < IntKind.i64.wrap (x1.f4 + 1) then IntKind.i64.wrap ((x0.f0.f8.getD x1.f1.toNat 0) - 1) else IntKind.i64.wrap (x1.f4 + 1)) < IntKind.i64.wrap ((x0.f0.f9.getD x1.f1.toNat 0) + 1) then IntKind.i64.wrap ((x0.f0.f9.getD x1.f1.toNat 0) + 1) else (if IntKind.i64.wrap ((x0.f0.f8.getD x1.f1.toNat 0) - 1) < IntKind.i64.wrap (x1.f4 + 1) then IntKind.i64.wrap ((x0.f0.f8.getD x1.f1.toNat 0) - 1) else IntKind.i64.wrap (x1.f4 + 1)))) (.blk bx0 (cS85 ({ x0 with f0 := { x0.f0 with f8 := (x0.f0.f8.set x1.f1.toNat (if 1152921504606846976 < (if (if IntKind.i64.wrap ((x0.f0.f8.getD x1.f1.toNat 0) - 1) < IntKind.i64.wrap (x1.f4 + 1) then IntKind.i64.wrap ((x0.f0.f8.getD x1.f1.toNat 0) - 1) else IntKind.i64.wrap (x1.f4 + 1)) < IntKind.i64.wrap ((x0.f0.f9.getD x1.f1.toNat 0) + 1) then IntKind.i64.wrap ((x0.f0.f9.getD x1.f1.toNat 0) + 1) else (if IntKind.i64.wrap ((x0.f0.f8.getD x1.f1.toNat 0) - 1) < IntKind.i64.wrap (x1.f4 + 1) then IntKind.i64.wrap ((x0.f0.f8.getD x1.f1.toNat 0) - 1) else IntKind.i64.wrap (x1.f4 + 1))) then 1152921504606846976 else (if (if IntKind.i64.wrap ((x0.f0.f8.getD x1.f1.toNat 0) - 1) < IntKind.i64.wrap (x1.f4 + 1) then IntKind.i64.wrap ((x0.f0.f8.getD x1.f1.toNat 0) - 1) else IntKind.i64.wrap (x1.f4 + 1)) < IntKind.i64.wrap ((x0.f0.f9.getD x1.f1.toNat 0) + 1) then IntKind.i64.wrap ((x0.f0.f9.getD x1.f1.toNat 0) + 1) else (if IntKind.i64.wrap ((x0.f0.f8.getD x1.f1.toNat 0) - 1) < IntKind.i64.wrap (x1.f4 + 1) then IntKind.i64.wrap ((x0.f0.f8.getD x1.f1.toNat 0) - 1) else IntKind.i64.wrap (x1.f4 + 1))))) } }) Ahx0_7 chx0_7 Ahx0_8 chx0_8 Ahx0_10 chx0_10 Ax0_15 cx0_15) 86) hx0_11 hb0_4 ?_
    refine fin ?_
    obtain ⟨t0_6, ht0_6, hm⟩ := bind_some hm
    refine rg [1, 1, 0, 1, 0, 1, 0] ?_
    refine seg [.p 2, .l 2] [(39, .pointer (some ⟨bx0, 0, none⟩)), (41, .int .i64 x1.f1)] [] ?_
    refine g_call 42 [0, 1] (f55_ok (bx0 := bx0) (Ax0_15 := Ax0_15) (cx0_15 := cx0_15) _ _ _ ht0_6 (oS85_mk (cs := (cS85 ({ x0 with f0 := { x0.f0 with f8 := (x0.f0.f8.set x1.f1.toNat (if 1152921504606846976 < (if (if IntKind.i64.wrap ((x0.f0.f8.getD x1.f1.toNat 0) - 1) < IntKind.i64.wrap (x1.f4 + 1) then IntKind.i64.wrap ((x0.f0.f8.getD x1.f1.toNat 0) - 1) else IntKind.i64.wrap (x1.f4 + 1)) < IntKind.i64.wrap ((x0.f0.f9.getD x1.f1.toNat 0) + 1) then IntKind.i64.wrap ((x0.f0.f9.getD x1.f1.toNat 0) + 1) else (if IntKind.i64.wrap ((x0.f0.f8.getD x1.f1.toNat 0) - 1) < IntKind.i64.wrap (x1.f4 + 1) then IntKind.i64.wrap ((x0.f0.f8.getD x1.f1.toNat 0) - 1) else IntKind.i64.wrap (x1.f4 + 1))) then 1152921504606846976 else (if (if IntKind.i64.wrap ((x0.f0.f8.getD x1.f1.toNat 0) - 1) < IntKind.i64.wrap (x1.f4 + 1) then IntKind.i64.wrap ((x0.f0.f8.getD x1.f1.toNat 0) - 1) else IntKind.i64.wrap (x1.f4 + 1)) < IntKind.i64.wrap ((x0.f0.f9.getD x1.f1.toNat 0) + 1) then IntKind.i64.wrap ((x0.f0.f9.getD x1.f1.toNat 0) + 1) else (if IntKind.i64.wrap ((x0.f0.f8.getD x1.f1.toNat 0) - 1) < IntKind.i64.wrap (x1.f4 + 1) then IntKind.i64.wrap ((x0.f0.f8.getD x1.f1.toNat 0) - 1) else IntKind.i64.wrap (x1.f4 + 1))))) } }) Ahx0_7 chx0_7 Ahx0_8 chx0_8 Ahx0_10 chx0_10 Ax0_15 cx0_15)) ({ x0 with f0 := { x0.f0 with f8 := (x0.f0.f8.set x1.f1.toNat (if 1152921504606846976 < (if (if IntKind.i64.wrap ((x0.f0.f8.getD x1.f1.toNat 0) - 1) < IntKind.i64.wrap (x1.f4 + 1) then IntKind.i64.wrap ((x0.f0.f8.getD x1.f1.toNat 0) - 1) else IntKind.i64.wrap (x1.f4 + 1)) < IntKind.i64.wrap ((x0.f0.f9.getD x1.f1.toNat 0) + 1) then IntKind.i64.wrap ((x0.f0.f9.getD x1.f1.toNat 0) + 1) else (if IntKind.i64.wrap ((x0.f0.f8.getD x1.f1.toNat 0) - 1) < IntKind.i64.wrap (x1.f4 + 1) then IntKind.i64.wrap ((x0.f0.f8.getD x1.f1.toNat 0) - 1) else IntKind.i64.wrap (x1.f4 + 1))) then 1152921504606846976 else (if (if IntKind.i64.wrap ((x0.f0.f8.getD x1.f1.toNat 0) - 1) < IntKind.i64.wrap (x1.f4 + 1) then IntKind.i64.wrap ((x0.f0.f8.getD x1.f1.toNat 0) - 1) else IntKind.i64.wrap (x1.f4 + 1)) < IntKind.i64.wrap ((x0.f0.f9.getD x1.f1.toNat 0) + 1) then IntKind.i64.wrap ((x0.f0.f9.getD x1.f1.toNat 0) + 1) else (if IntKind.i64.wrap ((x0.f0.f8.getD x1.f1.toNat 0) - 1) < IntKind.i64.wrap (x1.f4 + 1) then IntKind.i64.wrap ((x0.f0.f8.getD x1.f1.toNat 0) - 1) else IntKind.i64.wrap (x1.f4 + 1))))) } }) rfl hx0_7 hx0_8 hx0_10 n0_5 hx0_12) ex0_15) ?_
    rintro _ M0_12 _ ⟨cs0_7, A0_9, c0_10, rc0_11, rfl, rfl, h0_8, h0_12⟩ hM0_12
    obtain ⟨Ah0_8_7, ch0_8_7, Ah0_8_8, ch0_8_8, Ah0_8_10, ch0_8_10, rfl, h0_8_7, h0_8_8, h0_8_10, h0_8_11, h0_8_12⟩ := oS85_open h0_8
    refine fin ?_
    obtain rfl := Option.some.inj hm
    exact rt (v := .tuple #[]) [0, 1] ⟨(cS85 t0_6 Ah0_8_7 ch0_8_7 Ah0_8_8 ch0_8_8 Ah0_8_10 ch0_8_10 A0_9 c0_10), A0_9, c0_10, rc0_11, rfl, rfl, (oS85_mk (cs := (cS85 t0_6 Ah0_8_7 ch0_8_7 Ah0_8_8 ch0_8_8 Ah0_8_10 ch0_8_10 A0_9 c0_10)) t0_6 rfl h0_8_7 h0_8_8 h0_8_10 h0_8_11 h0_8_12), h0_12⟩
  · obtain ⟨t0_13, ht0_13, hm⟩ := bind_some hm
    refine rgD [1, 1, 1, 0, 0] (PT.of [0, 5, 8, 15, 16] .dn) [(1, 2)] [4] mixed plain_done ?_
    refine seg [.p 1, .l 2, .p 1] [(44, .int .i64 x1.f4), (45, .pointer (some ⟨bx0, 0, none⟩))] [] ?_
    refine g_callK 46 [0, 1] (f36_ok (bx0 := bx0) (Ax0_15 := Ax0_15) (cx0_15 := cx0_15) _ _ ht0_13 (oS85_mk (cs := (cS85 x0 Ahx0_7 chx0_7 Ahx0_8 chx0_8 Ahx0_10 chx0_10 Ax0_15 cx0_15)) x0 rfl hx0_7 hx0_8 hx0_10 hx0_11 hx0_12) ex0_15) (by rintro _ _ _ ⟨rfl, rfl, rfl⟩; rfl) ?_
    rintro _ _ _ ⟨rfl, rfl, rfl⟩ -
    refine seg [.p 1] [(47, .bool (decide ((x1.f4 : Int) > t0_13)))] [] ?_
    refine fin ?_
    refine gi [1, 1, 1, 0, 1] hm (fun hm => ?_) fun hm => ?_
    · obtain rfl := Option.some.inj hm
      exact rt (v := .tuple #[]) [0, 1] ⟨(cS85 x0 Ahx0_7 chx0_7 Ahx0_8 chx0_8 Ahx0_10 chx0_10 Ax0_15 cx0_15), Ax0_15, cx0_15, rcx0_15, rfl, rfl, (oS85_mk (cs := (cS85 x0 Ahx0_7 chx0_7 Ahx0_8 chx0_8 Ahx0_10 chx0_10 Ax0_15 cx0_15)) x0 rfl hx0_7 hx0_8 hx0_10 hx0_11 hx0_12), ex0_15⟩
    · obtain ⟨hb0_14, hm⟩ := gd2 hm
      refine rgD [1, 1, 1, 1, 0] (PT.of [0, 4, 9, 12, 16, 21, 24, 28, 32, 37, 40, 45, 48, 52, 56, 60, 67] .dn) [(2, 2), (5, 2), (9, 0), (11, 2)] [0, 4] mixed plain_done ?_
      refine seg [.p 2, .l 2, .p 2, .l 2, .p 2] [(48, .pointer (some ⟨bx0, 0, none⟩)), (50, .int .i64 x1.f1), (53, .int .i64 x1.f1), (55, .pointer (some ⟨bx0, 19, none⟩))] [] ?_
      refine g_ixA 56 bx0 19 8 1 hb0_14 ?_
      refine g_la 57 0 19 8 .i64 hx0_12 hb0_14 ?_
      obtain ⟨hb0_15, hm⟩ := gd2 hm
      refine seg [.p 1, .l 2, .p 3] [(60, .int .i64 (if (x0.f0.f9.getD x1.f1.toNat 0) < x1.f4 then x1.f4 else (x0.f0.f9.getD x1.f1.toNat 0))), (62, .pointer (some ⟨bx0, 19, none⟩))] [] ?_
      refine g_ixA 63 bx0 19 8 1 hb0_15 ?_
      have n0_16 : (x0.f0.f9.set x1.f1.toNat (if (x0.f0.f9.getD x1.f1.toNat 0) < x1.f4 then x1.f4 else (x0.f0.f9.getD x1.f1.toNat 0))).length = 8 := len_set hx0_12
      refine g_sA 0 19 8 .i64 (if (x0.f0.f9.getD x1.f1.toNat 0) < x1.f4 then x1.f4 else (x0.f0.f9.getD x1.f1.toNat 0)) (.blk bx0 (cS85 ({ x0 with f0 := { x0.f0 with f9 := (x0.f0.f9.set x1.f1.toNat (if (x0.f0.f9.getD x1.f1.toNat 0) < x1.f4 then x1.f4 else (x0.f0.f9.getD x1.f1.toNat 0))) } }) Ahx0_7 chx0_7 Ahx0_8 chx0_8 Ahx0_10 chx0_10 Ax0_15 cx0_15) 86) hx0_12 hb0_15 ?_
      refine fin ?_
      obtain ⟨hb0_17, hm⟩ := gd2 hm
      refine rgD [1, 1, 1, 1, 1, 0] (PT.of [0, 4, 9, 12, 16, 21, 24, 28, 32, 37, 40, 44, 48, 52, 56, 63] .dn) [(2, 2), (5, 2), (9, 0)] [0, 4] mixed plain_done ?_
      refine seg [.p 2, .l 2, .p 2, .l 2, .p 2] [(64, .pointer (some ⟨bx0, 0, none⟩)), (66, .int .i64 x1.f1), (69, .int .i64 x1.f1), (71, .pointer (some ⟨bx0, 19, none⟩))] [] ?_
      refine g_ixA 72 bx0 19 8 1 hb0_17 ?_
      refine g_la 73 0 19 8 .i64 n0_16 hb0_17 ?_
      obtain ⟨hb0_18, hm⟩ := gd2 hm
      refine seg [.p 4] [(75, .int .i64 (if 1152921504606846976 < IntKind.i64.wrap (((x0.f0.f9.set x1.f1.toNat (if (x0.f0.f9.getD x1.f1.toNat 0) < x1.f4 then x1.f4 else (x0.f0.f9.getD x1.f1.toNat 0))).getD x1.f1.toNat 0) + 1) then 1152921504606846976 else IntKind.i64.wrap (((x0.f0.f9.set x1.f1.toNat (if (x0.f0.f9.getD x1.f1.toNat 0) < x1.f4 then x1.f4 else (x0.f0.f9.getD x1.f1.toNat 0))).getD x1.f1.toNat 0) + 1))), (77, .pointer (some ⟨bx0, 11, none⟩))] [] ?_
      refine g_ixA 78 bx0 11 8 1 hb0_18 ?_
      have n0_19 : (x0.f0.f8.set x1.f1.toNat (if 1152921504606846976 < IntKind.i64.wrap (((x0.f0.f9.set x1.f1.toNat (if (x0.f0.f9.getD x1.f1.toNat 0) < x1.f4 then x1.f4 else (x0.f0.f9.getD x1.f1.toNat 0))).getD x1.f1.toNat 0) + 1) then 1152921504606846976 else IntKind.i64.wrap (((x0.f0.f9.set x1.f1.toNat (if (x0.f0.f9.getD x1.f1.toNat 0) < x1.f4 then x1.f4 else (x0.f0.f9.getD x1.f1.toNat 0))).getD x1.f1.toNat 0) + 1))).length = 8 := len_set hx0_11
      refine g_sA 0 11 8 .i64 (if 1152921504606846976 < IntKind.i64.wrap (((x0.f0.f9.set x1.f1.toNat (if (x0.f0.f9.getD x1.f1.toNat 0) < x1.f4 then x1.f4 else (x0.f0.f9.getD x1.f1.toNat 0))).getD x1.f1.toNat 0) + 1) then 1152921504606846976 else IntKind.i64.wrap (((x0.f0.f9.set x1.f1.toNat (if (x0.f0.f9.getD x1.f1.toNat 0) < x1.f4 then x1.f4 else (x0.f0.f9.getD x1.f1.toNat 0))).getD x1.f1.toNat 0) + 1)) (.blk bx0 (cS85 ({ x0 with f0 := { x0.f0 with f8 := (x0.f0.f8.set x1.f1.toNat (if 1152921504606846976 < IntKind.i64.wrap (((x0.f0.f9.set x1.f1.toNat (if (x0.f0.f9.getD x1.f1.toNat 0) < x1.f4 then x1.f4 else (x0.f0.f9.getD x1.f1.toNat 0))).getD x1.f1.toNat 0) + 1) then 1152921504606846976 else IntKind.i64.wrap (((x0.f0.f9.set x1.f1.toNat (if (x0.f0.f9.getD x1.f1.toNat 0) < x1.f4 then x1.f4 else (x0.f0.f9.getD x1.f1.toNat 0))).getD x1.f1.toNat 0) + 1))), f9 := (x0.f0.f9.set x1.f1.toNat (if (x0.f0.f9.getD x1.f1.toNat 0) < x1.f4 then x1.f4 else (x0.f0.f9.getD x1.f1.toNat 0))) } }) Ahx0_7 chx0_7 Ahx0_8 chx0_8 Ahx0_10 chx0_10 Ax0_15 cx0_15) 86) hx0_11 hb0_18 ?_
      refine fin ?_
      obtain ⟨t0_20, ht0_20, hm⟩ := bind_some hm
      refine rg [1, 1, 1, 1, 1, 1, 0] ?_
      refine seg [.p 1] [(79, .pointer (some ⟨bx0, 0, none⟩))] [] ?_
      refine g_call 80 [0, 1] (f68_ok (bx0 := bx0) (Ax0_15 := Ax0_15) (cx0_15 := cx0_15) _ _ ht0_20 (oS85_mk (cs := (cS85 ({ x0 with f0 := { x0.f0 with f8 := (x0.f0.f8.set x1.f1.toNat (if 1152921504606846976 < IntKind.i64.wrap (((x0.f0.f9.set x1.f1.toNat (if (x0.f0.f9.getD x1.f1.toNat 0) < x1.f4 then x1.f4 else (x0.f0.f9.getD x1.f1.toNat 0))).getD x1.f1.toNat 0) + 1) then 1152921504606846976 else IntKind.i64.wrap (((x0.f0.f9.set x1.f1.toNat (if (x0.f0.f9.getD x1.f1.toNat 0) < x1.f4 then x1.f4 else (x0.f0.f9.getD x1.f1.toNat 0))).getD x1.f1.toNat 0) + 1))), f9 := (x0.f0.f9.set x1.f1.toNat (if (x0.f0.f9.getD x1.f1.toNat 0) < x1.f4 then x1.f4 else (x0.f0.f9.getD x1.f1.toNat 0))) } }) Ahx0_7 chx0_7 Ahx0_8 chx0_8 Ahx0_10 chx0_10 Ax0_15 cx0_15)) ({ x0 with f0 := { x0.f0 with f8 := (x0.f0.f8.set x1.f1.toNat (if 1152921504606846976 < IntKind.i64.wrap (((x0.f0.f9.set x1.f1.toNat (if (x0.f0.f9.getD x1.f1.toNat 0) < x1.f4 then x1.f4 else (x0.f0.f9.getD x1.f1.toNat 0))).getD x1.f1.toNat 0) + 1) then 1152921504606846976 else IntKind.i64.wrap (((x0.f0.f9.set x1.f1.toNat (if (x0.f0.f9.getD x1.f1.toNat 0) < x1.f4 then x1.f4 else (x0.f0.f9.getD x1.f1.toNat 0))).getD x1.f1.toNat 0) + 1))), f9 := (x0.f0.f9.set x1.f1.toNat (if (x0.f0.f9.getD x1.f1.toNat 0) < x1.f4 then x1.f4 else (x0.f0.f9.getD x1.f1.toNat 0))) } }) rfl hx0_7 hx0_8 hx0_10 n0_19 n0_16) ex0_15) ?_
      rintro _ M0_26 _ ⟨cs0_21, A0_23, c0_24, rc0_25, rfl, rfl, h0_22, h0_26⟩ hM0_26
      obtain ⟨Ah0_22_7, ch0_22_7, Ah0_22_8, ch0_22_8, Ah0_22_10, ch0_22_10, rfl, h0_22_7, h0_22_8, h0_22_10, h0_22_11, h0_22_12⟩ := oS85_open h0_22
      refine fin ?_
      refine rgD [1, 1, 1, 1, 1, 1, 1, 0] (PT.of [0, 4, 8, 13, 16, 20, 24, 28, 33, 36, 40, 44, 49, 52, 59, 60, 64] .dn) [(3, 0), (8, 2), (12, 0)] [0, 4] mixed plain_done ?_
      refine seg [.p 3, .l 0, .p 2] [(86, .bool ((t0_20.f0.f3 : Int) == 2))] [] ?_
      refine gs 86 hm (fun hm => ?_) fun hm => ?_
      · obtain ⟨hb0_27, hm⟩ := gd2 hm
        refine seg [.p 2, .l 2, .p 2] [(89, .int .i64 x1.f1), (91, .pointer (some ⟨bx0, 11, none⟩))] [] ?_
        refine g_ixA 92 bx0 11 8 1 hb0_27 ?_
        refine g_la 93 0 11 8 .i64 h0_22_11 hb0_27 ?_
        obtain ⟨t0_28, ht0_28, hm⟩ := bind_some hm
        refine seg [.p 1] [(94, .pointer (some ⟨bx0, 0, none⟩))] [] ?_
        refine g_callK 95 [0, 1] (f36_ok (bx0 := bx0) (Ax0_15 := A0_23) (cx0_15 := c0_24) _ _ ht0_28 (oS85_mk (cs := (cS85 t0_20 Ah0_22_7 ch0_22_7 Ah0_22_8 ch0_22_8 Ah0_22_10 ch0_22_10 A0_23 c0_24)) t0_20 rfl h0_22_7 h0_22_8 h0_22_10 h0_22_11 h0_22_12) h0_26) (by rintro _ _ _ ⟨rfl, rfl, rfl⟩; rfl) ?_
        rintro _ _ _ ⟨rfl, rfl, rfl⟩ -
        refine seg [.p 2] [(97, .bool (decide (((t0_20.f0.f8.getD x1.f1.toNat 0) : Int) ≤ t0_28)))] [] ?_
        refine fin ?_
        replace hx1_8 := (hx1_8.mono hM0_26)
        replace hx1_9 := (hx1_9.mono hM0_26)
        replace hx1_11 := (hx1_11.mono hM0_26)
        replace hx1_13 := (hx1_13.mono hM0_26)
        replace hx1_14 := (hx1_14.mono hM0_26)
        replace hx1_15 := (hx1_15.mono hM0_26)
        exact to [0, 1, 2] (@f66_j1 _ _ _ M0_26 rc0_25 rcx0_15 b0_1 bx0 c0_24 ch0_22_10 ch0_22_7 ch0_22_8 chx0_10 chx0_7 chx0_8 chx1_11 chx1_13 chx1_14 chx1_15 chx1_8 chx1_9 cx0_15 A0_23 Ah0_22_10 Ah0_22_7 Ah0_22_8 Ahx0_10 Ahx0_7 Ahx0_8 Ahx1_11 Ahx1_13 Ahx1_14 Ahx1_15 Ahx1_8 Ahx1_9 Ax0_15 _ _ _ _ hm h0_22_7 h0_22_8 h0_22_10 h0_22_11 h0_22_12 h0_26 hx1_8 hx1_9 hx1_11 hx1_13 hx1_14 hx1_15 hx1_16)
      · refine seg [.p 11] [(97, .bool false)] [] ?_
        refine fin ?_
        replace hx1_8 := (hx1_8.mono hM0_26)
        replace hx1_9 := (hx1_9.mono hM0_26)
        replace hx1_11 := (hx1_11.mono hM0_26)
        replace hx1_13 := (hx1_13.mono hM0_26)
        replace hx1_14 := (hx1_14.mono hM0_26)
        replace hx1_15 := (hx1_15.mono hM0_26)
        exact to [0, 1, 2] (@f66_j1 _ _ _ M0_26 rc0_25 rcx0_15 b0_1 bx0 c0_24 ch0_22_10 ch0_22_7 ch0_22_8 chx0_10 chx0_7 chx0_8 chx1_11 chx1_13 chx1_14 chx1_15 chx1_8 chx1_9 cx0_15 A0_23 Ah0_22_10 Ah0_22_7 Ah0_22_8 Ahx0_10 Ahx0_7 Ahx0_8 Ahx1_11 Ahx1_13 Ahx1_14 Ahx1_15 Ahx1_8 Ahx1_9 Ax0_15 _ _ _ _ hm h0_22_7 h0_22_8 h0_22_10 h0_22_11 h0_22_12 h0_26 hx1_8 hx1_9 hx1_11 hx1_13 hx1_14 hx1_15 hx1_16)

/-! ## (heartwood/raft.stepper).msg -/
/-- (heartwood/raft.stepper).msg: what is left behind a call. -/
abbrev R35 (M : Mem) (bx0 : Nat) (csx0 : List Value) (Ax0_15 : Option Addr) (x0 : S85) (cx0_15 : Nat) (rcx0_15 : List Value) (r : S85) : Value → Mem → List Res → Prop := fun v M' H' => ∃ (q0 : List Value) (w0_15 : Option Addr) (y0_15 : Nat) (z0_15 : List Value), .tuple #[] = v ∧ H' = [.blk bx0 q0 86, .row (.slice w0_15 r.f1.length y0_15) 47 17 r.f1.length z0_15] ∧ (oS85 w0_15 y0_15).rep M' q0 r ∧ Elems kS46 M' z0_15 r.f1
noncomputable def c35 : Code := match Try.f35.body with | some c => c | none => .skip
abbrev C35 (w0 : World) (M0 : Mem) (bx0 : Nat) (x0 : S85) (Ahx0_7 : Option Addr) (chx0_7 : Nat) (Ahx0_8 : Option Addr) (chx0_8 : Nat) (Ahx0_10 : Option Addr) (chx0_10 : Nat) (Ax0_15 : Option Addr) (cx0_15 : Nat) (rcx0_15 : List Value) : Ctx := ⟨178, w0, M0, [.blk bx0 (cS85 x0 Ahx0_7 chx0_7 Ahx0_8 chx0_8 Ahx0_10 chx0_10 Ax0_15 cx0_15) 86, .row (.slice Ax0_15 x0.f1.length cx0_15) 47 17 x0.f1.length rcx0_15]⟩
abbrev D35 (w0 : World) (M0 : Mem) (r : S85) (bx0 : Nat) (x0 : S85) (Ahx0_7 : Option Addr) (chx0_7 : Nat) (Ahx0_8 : Option Addr) (chx0_8 : Nat) (Ahx0_10 : Option Addr) (chx0_10 : Nat) (Ax0_15 : Option Addr) (cx0_15 : Nat) (rcx0_15 : List Value) : Post := Done Try.prog Try.f35 (C35 w0 M0 bx0 x0 Ahx0_7 chx0_7 Ahx0_8 chx0_8 Ahx0_10 chx0_10 Ax0_15 cx0_15 rcx0_15) (R35 M0 bx0 (cS85 x0 Ahx0_7 chx0_7 Ahx0_8 chx0_8 Ahx0_10 chx0_10 Ax0_15 cx0_15) Ax0_15 x0 cx0_15 rcx0_15 r)
theorem f35_j7 {w0 : World} {M0 : Mem} {r : S85} : ∀ {M : Mem} {rcx0_15 : List Value} {b0_1 bx0 chx0_10 chx0_7 chx0_8 chx1_11 chx1_13 chx1_14 chx1_15 chx1_8 chx1_9 cj2_p0_l10 cx0_15 : Nat} {Ahx0_10 Ahx0_7 Ahx0_8 Ahx1_11 Ahx1_13 Ahx1_14 Ahx1_15 Ahx1_8 Ahx1_9 Aj2_p0_l10 Ax0_15 : Option Addr} (xj7_s174 : Bool) (xj2_p0_l1 xj2_p0_l2 xj2_p0_l3 xj2_p0_l4 : Int) (xj2_p0_l10 : List Int) (x1 : S46) (x0 : S85) (_ : m35_j7 xj7_s174 xj2_p0_l1 xj2_p0_l2 xj2_p0_l3 xj2_p0_l4 xj2_p0_l10 x1 x0 = some r) (_ : SlAt (kint .i64) M Ahx0_7 chx0_7 x0.f0.f5.f0.f2) (_ : SlAt kS80 M Ahx0_8 chx0_8 x0.f0.f5.f1) (_ : SlAt (kint .i64) M Aj2_p0_l10 cj2_p0_l10 xj2_p0_l10) (_ : x0.f0.f8.length = 8) (_ : x0.f0.f9.length = 8) (_ : Elems kS46 M rcx0_15 x0.f1) (_ : SlAt kS80 M Ahx1_8 chx1_8 x1.f8) (_ : SlAt (kint .i64) M Ahx1_9 chx1_9 x1.f9) (_ : SlAt (kint .u8) M Ahx1_11 chx1_11 x1.f11) (_ : SlAt (kint .u8) M Ahx1_13 chx1_13 x1.f12.f1) (_ : SlAt (kint .u8) M Ahx1_14 chx1_14 x1.f12.f2) (_ : SlAt (kint .u8) M Ahx1_15 chx1_15 x1.f12.f3) (_ : Value.oneCell' x1.f12.f4 = true), AG Try.prog c35 [1, 1, 1, 1, 1, 1, 0, 1, 1, 1, 1, 1, 1, 1, 1, 1, 0, 1] (D35 w0 M0 r bx0 x0 Ahx0_7 chx0_7 Ahx0_8 chx0_8 Ahx0_10 chx0_10 Ax0_15 cx0_15 rcx0_15) (C35 w0 M0 bx0 x0 Ahx0_7 chx0_7 Ahx0_8 chx0_8 Ahx0_10 chx0_10 Ax0_15 cx0_15 rcx0_15) (env [(0, .pointer (some ⟨bx0, 0, none⟩)), (3, .pointer (some ⟨b0_1, 0, none⟩)), (174, .bool xj7_s174)]) M [.blk bx0 (cS85 ({ x0 with f0 := { x0.f0 with f1 := xj2_p0_l1, f2 := xj2_p0_l2, f3 := xj2_p0_l3, f4 := xj2_p0_l4, f7 := xj2_p0_l10 } }) Ahx0_7 chx0_7 Ahx0_8 chx0_8 Aj2_p0_l10 cj2_p0_l10 Ax0_15 cx0_15) 86, .row (.slice Ax0_15 x0.f1.length cx0_15) 47 17 x0.f1.length rcx0_15, .blk b0_1 (cS46 x1 Ahx1_8 chx1_8 Ahx1_9 chx1_9 Ahx1_11 chx1_11 Ahx1_13 chx1_13 Ahx1_14 chx1_14 Ahx1_15 chx1_15) 47] := by
  intro M rcx0_15 b0_1 bx0 chx0_10 chx0_7 chx0_8 chx1_11 chx1_13 chx1_14 chx1_15 chx1_8 chx1_9 cj2_p0_l10 cx0_15 Ahx0_10 Ahx0_7 Ahx0_8 Ahx1_11 Ahx1_13 Ahx1_14 Ahx1_15 Ahx1_8 Ahx1_9 Aj2_p0_l10 Ax0_15 xj7_s174 xj2_p0_l1 xj2_p0_l2 xj2_p0_l3 xj2_p0_l4 xj2_p0_l10 x1 x0 hm hj7_p0_l7 hj7_p0_l8 hj7_p0_l10 lj7_p0_l11 lj7_p0_l12 ej7_p0_15 hj7_0_0_l8 hj7_0_0_l9 hj7_0_0_l11 hj7_0_0_l13 hj7_0_0_l14 hj7_0_0_l15 oj7_0_0_l16; unfold m35_j7 at hm
  refine gi [1, 1, 1, 1, 1, 1, 0, 1, 1, 1, 1, 1, 1, 1, 1, 1, 0, 1] hm (fun hm => ?_) fun hm => ?_
  · obtain ⟨tj7_1, htj7_1, hm⟩ := bind_some hm
    refine rg [1, 1, 1, 1, 1, 1, 0, 1, 1, 1, 1, 1, 1, 1, 1, 1, 0, 1, 0] ?_
    refine seg [.p 1, .l 2] [(175, .pointer (some ⟨bx0, 0, none⟩)), (176, .agg (cS46 x1 Ahx1_8 chx1_8 Ahx1_9 chx1_9 Ahx1_11 chx1_11 Ahx1_13 chx1_13 Ahx1_14 chx1_14 Ahx1_15 chx1_15).toArray)] [] ?_
    refine g_call 177 [0, 1] (f66_ok (bx0 := bx0) (Ax0_15 := Ax0_15) (cx0_15 := cx0_15) _ _ _ htj7_1 (oS85_mk (cs := (cS85 ({ x0 with f0 := { x0.f0 with f1 := xj2_p0_l1, f2 := xj2_p0_l2, f3 := xj2_p0_l3, f4 := xj2_p0_l4, f7 := xj2_p0_l10 } }) Ahx0_7 chx0_7 Ahx0_8 chx0_8 Aj2_p0_l10 cj2_p0_l10 Ax0_15 cx0_15)) ({ x0 with f0 := { x0.f0 with f1 := xj2_p0_l1, f2 := xj2_p0_l2, f3 := xj2_p0_l3, f4 := xj2_p0_l4, f7 := xj2_p0_l10 } }) rfl hj7_p0_l7 hj7_p0_l8 hj7_p0_l10 lj7_p0_l11 lj7_p0_l12) ej7_p0_15 (kS46_mk (cs := (cS46 x1 Ahx1_8 chx1_8 Ahx1_9 chx1_9 Ahx1_11 chx1_11 Ahx1_13 chx1_13 Ahx1_14 chx1_14 Ahx1_15 chx1_15)) x1 rfl hj7_0_0_l8 hj7_0_0_l9 hj7_0_0_l11 hj7_0_0_l13 hj7_0_0_l14 hj7_0_0_l15 oj7_0_0_l16)) ?_
    rintro _ Mj7_7 _ ⟨csj7_2, Aj7_4, cj7_5, rcj7_6, rfl, rfl, hj7_3, hj7_7⟩ hMj7_7
    obtain ⟨Ahj7_3_7, chj7_3_7, Ahj7_3_8, chj7_3_8, Ahj7_3_10, chj7_3_10, rfl, hj7_3_7, hj7_3_8, hj7_3_10, hj7_3_11, hj7_3_12⟩ := oS85_open hj7_3
    refine finE ?_
    obtain rfl := Option.some.inj hm
    exact re (v := .tuple #[]) [0, 1] ⟨(cS85 tj7_1 Ahj7_3_7 chj7_3_7 Ahj7_3_8 chj7_3_8 Ahj7_3_10 chj7_3_10 Aj7_4 cj7_5), Aj7_4, cj7_5, rcj7_6, rfl, rfl, (oS85_mk (cs := (cS85 tj7_1 Ahj7_3_7 chj7_3_7 Ahj7_3_8 chj7_3_8 Ahj7_3_10 chj7_3_10 Aj7_4 cj7_5)) tj7_1 rfl hj7_3_7 hj7_3_8 hj7_3_10 hj7_3_11 hj7_3_12), hj7_7⟩
  · refine en ?_
    obtain rfl := Option.some.inj hm
    exact re (v := .tuple #[]) [0, 1] ⟨(cS85 ({ x0 with f0 := { x0.f0 with f1 := xj2_p0_l1, f2 := xj2_p0_l2, f3 := xj2_p0_l3, f4 := xj2_p0_l4, f7 := xj2_p0_l10 } }) Ahx0_7 chx0_7 Ahx0_8 chx0_8 Aj2_p0_l10 cj2_p0_l10 Ax0_15 cx0_15), Ax0_15, cx0_15, rcx0_15, rfl, rfl, (oS85_mk (cs := (cS85 ({ x0 with f0 := { x0.f0 with f1 := xj2_p0_l1, f2 := xj2_p0_l2, f3 := xj2_p0_l3, f4 := xj2_p0_l4, f7 := xj2_p0_l10 } }) Ahx0_7 chx0_7 Ahx0_8 chx0_8 Aj2_p0_l10 cj2_p0_l10 Ax0_15 cx0_15)) ({ x0 with f0 := { x0.f0 with f1 := xj2_p0_l1, f2 := xj2_p0_l2, f3 := xj2_p0_l3, f4 := xj2_p0_l4, f7 := xj2_p0_l10 } }) rfl hj7_p0_l7 hj7_p0_l8 hj7_p0_l10 lj7_p0_l11 lj7_p0_l12), ej7_p0_15⟩
theorem f35_j6 {w0 : World} {M0 : Mem} {r : S85} : ∀ {M : Mem} {rcx0_15 : List Value} {bx0 chx0_10 chx0_7 chx0_8 cj6_p0_l10 cx0_15 : Nat} {Ahx0_10 Ahx0_7 Ahx0_8 Aj6_p0_l10 Ax0_15 : Option Addr} (xj2_p0_l1 xj2_p0_l2 xj2_p0_l3 xj2_p0_l4 : Int) (xj6_p0_l10 : List Int) (x0 : S85) (_ : m35_j6 xj2_p0_l1 xj2_p0_l2 xj2_p0_l3 xj2_p0_l4 xj6_p0_l10 x0 = some r) (_ : SlAt (kint .i64) M Ahx0_7 chx0_7 x0.f0.f5.f0.f2) (_ : SlAt kS80 M Ahx0_8 chx0_8 x0.f0.f5.f1) (_ : SlAt (kint .i64) M Aj6_p0_l10 cj6_p0_l10 xj6_p0_l10) (_ : x0.f0.f8.length = 8) (_ : x0.f0.f9.length = 8) (_ : Elems kS46 M rcx0_15 x0.f1), AG Try.prog c35 [1, 1, 1, 1, 1, 1, 0, 1, 1, 1, 0, 1, 0, 1] (D35 w0 M0 r bx0 x0 Ahx0_7 chx0_7 Ahx0_8 chx0_8 Ahx0_10 chx0_10 Ax0_15 cx0_15 rcx0_15) (C35 w0 M0 bx0 x0 Ahx0_7 chx0_7 Ahx0_8 chx0_8 Ahx0_10 chx0_10 Ax0_15 cx0_15 rcx0_15) (env [(0, .pointer (some ⟨bx0, 0, none⟩)), (4, .pointer (some ⟨bx0, 0, none⟩))]) M [.blk bx0 (cS85 ({ x0 with f0 := { x0.f0 with f1 := xj2_p0_l1, f2 := xj2_p0_l2, f3 := xj2_p0_l3, f4 := xj2_p0_l4, f7 := xj6_p0_l10 } }) Ahx0_7 chx0_7 Ahx0_8 chx0_8 Aj6_p0_l10 cj6_p0_l10 Ax0_15 cx0_15) 86, .row (.slice Ax0_15 x0.f1.length cx0_15) 47 17 x0.f1.length rcx0_15] := by
  intro M rcx0_15 bx0 chx0_10 chx0_7 chx0_8 cj6_p0_l10 cx0_15 Ahx0_10 Ahx0_7 Ahx0_8 Aj6_p0_l10 Ax0_15 xj2_p0_l1 xj2_p0_l2 xj2_p0_l3 xj2_p0_l4 xj6_p0_l10 x0 hm hj6_p0_l7 hj6_p0_l8 hj6_p0_l10 lj6_p0_l11 lj6_p0_l12 ej6_p0_15; unfold m35_j6 at hm
  obtain ⟨tj6_1, htj6_1, hm⟩ := bind_some hm
  refine rgD [1, 1, 1, 1, 1, 1, 0, 1, 1, 1, 0, 1, 0, 1, 0] (PT.of [0, 8, 12, 16, 21, 7, 27] .dn) [(5, 0)] [0] mixed plain_done ?_
  refine seg [.p 4, .l 0] [(142, .pointer (some ⟨bx0, 0, none⟩)), (147, .slice Aj6_p0_l10 xj6_p0_l10.length cj6_p0_l10)] [] ?_
  refine g_callK 143 [0, 1] (f57_ok (bx0 := bx0) (Ax0_15 := Ax0_15) (cx0_15 := cx0_15) _ _ htj6_1 (oS85_mk (cs := (cS85 ({ x0 with f0 := { x0.f0 with f1 := xj2_p0_l1, f2 := xj2_p0_l2, f3 := xj2_p0_l3, f4 := xj2_p0_l4, f7 := xj6_p0_l10 } }) Ahx0_7 chx0_7 Ahx0_8 chx0_8 Aj6_p0_l10 cj6_p0_l10 Ax0_15 cx0_15)) ({ x0 with f0 := { x0.f0 with f1 := xj2_p0_l1, f2 := xj2_p0_l2, f3 := xj2_p0_l3, f4 := xj2_p0_l4, f7 := xj6_p0_l10 } }) rfl hj6_p0_l7 hj6_p0_l8 hj6_p0_l10 lj6_p0_l11 lj6_p0_l12) ej6_p0_15) (by rintro _ _ _ ⟨_, _, rfl, rfl, _⟩; rfl) ?_
  rintro _ Mj6_4 _ ⟨Aj6_2, cj6_3, rfl, rfl, hj6_4⟩ hMj6_4
  obtain ⟨tj6_5, htj6_5, hm⟩ := bind_some hm
  replace hj6_p0_l10 := (hj6_p0_l10.mono hMj6_4)
  refine g_call0 148 (f62_ok _ _ _ htj6_5 hj6_4 hj6_p0_l10) ?_
  rintro _ _ _ ⟨rfl, rfl, rfl⟩ -
  refine fin ?_
  refine gi [1, 1, 1, 1, 1, 1, 0, 1, 1, 1, 0, 1, 0, 1, 1] hm (fun hm => ?_) fun hm => ?_
  · obtain ⟨tj6_6, htj6_6, hm⟩ := bind_some hm
    refine rg [1, 1, 1, 1, 1, 1, 0, 1, 1, 1, 0, 1, 0, 1, 1, 0] ?_
    refine seg [.p 1] [(149, .pointer (some ⟨bx0, 0, none⟩))] [] ?_
    replace hj6_p0_l7 := (hj6_p0_l7.mono hMj6_4)
    replace hj6_p0_l8 := (hj6_p0_l8.mono hMj6_4)
    replace ej6_p0_15 := (ej6_p0_15.mono hMj6_4)
    refine g_call 150 [0, 1] (f63_ok (bx0 := bx0) (Ax0_15 := Ax0_15) (cx0_15 := cx0_15) _ _ htj6_6 (oS85_mk (cs := (cS85 ({ x0 with f0 := { x0.f0 with f1 := xj2_p0_l1, f2 := xj2_p0_l2, f3 := xj2_p0_l3, f4 := xj2_p0_l4, f7 := xj6_p0_l10 } }) Ahx0_7 chx0_7 Ahx0_8 chx0_8 Aj6_p0_l10 cj6_p0_l10 Ax0_15 cx0_15)) ({ x0 with f0 := { x0.f0 with f1 := xj2_p0_l1, f2 := xj2_p0_l2, f3 := xj2_p0_l3, f4 := xj2_p0_l4, f7 := xj6_p0_l10 } }) rfl hj6_p0_l7 hj6_p0_l8 hj6_p0_l10 lj6_p0_l11 lj6_p0_l12) ej6_p0_15) ?_
    rintro _ Mj6_12 _ ⟨csj6_7, Aj6_9, cj6_10, rcj6_11, rfl, rfl, hj6_8, hj6_12⟩ hMj6_12
    obtain ⟨Ahj6_8_7, chj6_8_7, Ahj6_8_8, chj6_8_8, Ahj6_8_10, chj6_8_10, rfl, hj6_8_7, hj6_8_8, hj6_8_10, hj6_8_11, hj6_8_12⟩ := oS85_open hj6_8
    refine finE ?_
    obtain rfl := Option.some.inj hm
    exact re (v := .tuple #[]) [0, 1] ⟨(cS85 tj6_6 Ahj6_8_7 chj6_8_7 Ahj6_8_8 chj6_8_8 Ahj6_8_10 chj6_8_10 Aj6_9 cj6_10), Aj6_9, cj6_10, rcj6_11, rfl, rfl, (oS85_mk (cs := (cS85 tj6_6 Ahj6_8_7 chj6_8_7 Ahj6_8_8 chj6_8_8 Ahj6_8_10 chj6_8_10 Aj6_9 cj6_10)) tj6_6 rfl hj6_8_7 hj6_8_8 hj6_8_10 hj6_8_11 hj6_8_12), hj6_12⟩
  · refine en ?_
    obtain rfl := Option.some.inj hm
    replace hj6_p0_l7 := (hj6_p0_l7.mono hMj6_4)
    replace hj6_p0_l8 := (hj6_p0_l8.mono hMj6_4)
    replace ej6_p0_15 := (ej6_p0_15.mono hMj6_4)
    exact re (v := .tuple #[]) [0, 1] ⟨(cS85 ({ x0 with f0 := { x0.f0 with f1 := xj2_p0_l1, f2 := xj2_p0_l2, f3 := xj2_p0_l3, f4 := xj2_p0_l4, f7 := xj6_p0_l10 } }) Ahx0_7 chx0_7 Ahx0_8 chx0_8 Aj6_p0_l10 cj6_p0_l10 Ax0_15 cx0_15), Ax0_15, cx0_15, rcx0_15, rfl, rfl, (oS85_mk (cs := (cS85 ({ x0 with f0 := { x0.f0 with f1 := xj2_p0_l1, f2 := xj2_p0_l2, f3 := xj2_p0_l3, f4 := xj2_p0_l4, f7 := xj6_p0_l10 } }) Ahx0_7 chx0_7 Ahx0_8 chx0_8 Aj6_p0_l10 cj6_p0_l10 Ax0_15 cx0_15)) ({ x0 with f0 := { x0.f0 with f1 := xj2_p0_l1, f2 := xj2_p0_l2, f3 := xj2_p0_l3, f4 := xj2_p0_l4, f7 := xj6_p0_l10 } }) rfl hj6_p0_l7 hj6_p0_l8 hj6_p0_l10 lj6_p0_l11 lj6_p0_l12), ej6_p0_15⟩
theorem f35_j5 {w0 : World} {M0 : Mem} {r : S85} : ∀ {M : Mem} {rcx0_15 : List Value} {b0_1 bx0 chx0_10 chx0_7 chx0_8 chx1_11 chx1_13 chx1_14 chx1_15 chx1_8 chx1_9 cj2_p0_l10 cx0_15 : Nat} {Ahx0_10 Ahx0_7 Ahx0_8 Ahx1_11 Ahx1_13 Ahx1_14 Ahx1_15 Ahx1_8 Ahx1_9 Aj2_p0_l10 Ax0_15 : Option Addr} (xj5_s121 : Bool) (xj2_p0_l1 xj2_p0_l2 xj2_p0_l3 xj2_p0_l4 : Int) (xj2_p0_l10 : List Int) (x1 : S46) (x0 : S85) (_ : m35_j5 xj5_s121 xj2_p0_l1 xj2_p0_l2 xj2_p0_l3 xj2_p0_l4 xj2_p0_l10 x1 x0 = some r) (_ : SlAt (kint .i64) M Ahx0_7 chx0_7 x0.f0.f5.f0.f2) (_ : SlAt kS80 M Ahx0_8 chx0_8 x0.f0.f5.f1) (_ : SlAt (kint .i64) M Aj2_p0_l10 cj2_p0_l10 xj2_p0_l10) (_ : x0.f0.f8.length = 8) (_ : x0.f0.f9.length = 8) (_ : Elems kS46 M rcx0_15 x0.f1) (_ : SlAt kS80 M Ahx1_8 chx1_8 x1.f8) (_ : SlAt (kint .i64) M Ahx1_9 chx1_9 x1.f9) (_ : SlAt (kint .u8) M Ahx1_11 chx1_11 x1.f11) (_ : SlAt (kint .u8) M Ahx1_13 chx1_13 x1.f12.f1) (_ : SlAt (kint .u8) M Ahx1_14 chx1_14 x1.f12.f2) (_ : SlAt (kint .u8) M Ahx1_15 chx1_15 x1.f12.f3) (_ : Value.oneCell' x1.f12.f4 = true), AG Try.prog c35 [1, 1, 1, 1, 1, 1, 0, 1, 1, 1, 0, 1] (D35 w0 M0 r bx0 x0 Ahx0_7 chx0_7 Ahx0_8 chx0_8 Ahx0_10 chx0_10 Ax0_15 cx0_15 rcx0_15) (C35 w0 M0 bx0 x0 Ahx0_7 chx0_7 Ahx0_8 chx0_8 Ahx0_10 chx0_10 Ax0_15 cx0_15 rcx0_15) (env [(0, .pointer (some ⟨bx0, 0, none⟩)), (3, .pointer (some ⟨b0_1, 0, none⟩)), (4, .pointer (some ⟨bx0, 0, none⟩)), (121, .bool xj5_s121)]) M [.blk bx0 (cS85 ({ x0 with f0 := { x0.f0 with f1 := xj2_p0_l1, f2 := xj2_p0_l2, f3 := xj2_p0_l3, f4 := xj2_p0_l4, f7 := xj2_p0_l10 } }) Ahx0_7 chx0_7 Ahx0_8 chx0_8 Aj2_p0_l10 cj2_p0_l10 Ax0_15 cx0_15) 86, .row (.slice Ax0_15 x0.f1.length cx0_15) 47 17 x0.f1.length rcx0_15, .blk b0_1 (cS46 x1 Ahx1_8 chx1_8 Ahx1_9 chx1_9 Ahx1_11 chx1_11 Ahx1_13 chx1_13 Ahx1_14 chx1_14 Ahx1_15 chx1_15) 47] := by
  intro M rcx0_15 b0_1 bx0 chx0_10 chx0_7 chx0_8 chx1_11 chx1_13 chx1_14 chx1_15 chx1_8 chx1_9 cj2_p0_l10 cx0_15 Ahx0_10 Ahx0_7 Ahx0_8 Ahx1_11 Ahx1_13 Ahx1_14 Ahx1_15 Ahx1_8 Ahx1_9 Aj2_p0_l10 Ax0_15 xj5_s121 xj2_p0_l1 xj2_p0_l2 xj2_p0_l3 xj2_p0_l4 xj2_p0_l10 x1 x0 hm hj5_p0_l7 hj5_p0_l8 hj5_p0_l10 lj5_p0_l11 lj5_p0_l12 ej5_p0_15 hj5_0_0_l8 hj5_0_0_l9 hj5_0_0_l11 hj5_0_0_l13 hj5_0_0_l14 hj5_0_0_l15 oj5_0_0_l16; unfold m35_j5 at hm
  refine gi [1, 1, 1, 1, 1, 1, 0, 1, 1, 1, 0, 1] hm (fun hm => ?_) fun hm => ?_
  · obtain ⟨tj5_1, htj5_1, hm⟩ := bind_some hm
    refine rgD [1, 1, 1, 1, 1, 1, 0, 1, 1, 1, 0, 1, 0, 0, 0] (PT.of [0, 4, 8, 13, 16, 21, 27, 28] .dn) [(3, 0), (5, 2)] [0, 4] mixed plain_done ?_
    refine seg [.p 3, .l 0, .p 1, .l 2] [(125, .slice Aj2_p0_l10 xj2_p0_l10.length cj2_p0_l10), (127, .int .i64 x1.f1)] [] ?_
    refine g_call0 128 (f43_ok _ _ _ htj5_1 hj5_p0_l10) ?_
    rintro _ _ _ ⟨rfl, rfl, rfl⟩ -
    refine seg [.p 1] [(129, .bool (!tj5_1))] [] ?_
    refine fin ?_
    refine gi [1, 1, 1, 1, 1, 1, 0, 1, 1, 1, 0, 1, 0, 0, 1] hm (fun hm => ?_) fun hm => ?_
    · obtain ⟨tj5_362, htj5_362, hm⟩ := bind_some hm
      obtain ⟨hbj5_602, hm⟩ := gd2 hm
      refine rgD [1, 1, 1, 1, 1, 1, 0, 1, 1, 1, 0, 1, 0, 0, 1, 0] (PT.of [0, 4, 8, 12, 17, 24, 29] (.two 5 (PT.of [35, 39, 40, 44, 51] .dn) 8 (PT.of [23, 39, 40, 44, 51] .dn))) [(4, 0), (7, 2)] [0, 4] mixed plain_done ?_
      refine seg [.p 4, .l 0, .p 1, .l 2] [(130, .pointer (some ⟨bx0, 0, none⟩)), (134, .slice Aj2_p0_l10 xj2_p0_l10.length cj2_p0_l10), (137, .int .i64 x1.f1)] [] ?_
      refine g2 ?_ ?_
      · refine g_call0 135 (f61_ok _ _ htj5_362 hj5_p0_l10) ?_
        rintro _ Mj5_366 _ ⟨Aj5_363, cj5_364, csj5_365, rfl, rfl, hj5_366⟩ hMj5_366
        have ej5_542 : Elems (kint .i64) Mj5_366 [.int .i64 x1.f1] ([x1.f1] : List Int) := (elCons (d := (kint .i64)) (M := Mj5_366) (a := [.int .i64 x1.f1]) (x := x1.f1) rfl elNil)
        refine g_bs 138 3 1 1 [.int .i64 x1.f1] fun bj5_543 => ?_
        refine g_apR 139 3 3 8 4 Aj5_363 cj5_364 (some ⟨bj5_543, 0, none⟩) 1 hj5_366 ej5_542 hbj5_602 fun Aj5_603 cj5_604 csj5_605 ej5_602 => ?_
        refine seg [.p 2, .s 0] [] [(0, .blk bx0 (cS85 ({ x0 with f0 := { x0.f0 with f1 := xj2_p0_l1, f2 := xj2_p0_l2, f3 := xj2_p0_l3, f4 := xj2_p0_l4, f7 := (tj5_362 ++ ([x1.f1] : List Int)) } }) Ahx0_7 chx0_7 Ahx0_8 chx0_8 Aj5_603 cj5_604 Ax0_15 cx0_15) 86)] ?_
        refine fin ?_
        refine fzA 3 3 Aj5_603 cj5_604 ej5_602 fun Mhj5_902 lhj5_902 hj5_902 => ?_
        replace hj5_p0_l7 := ((hj5_p0_l7.mono hMj5_366).mono lhj5_902)
        replace hj5_p0_l8 := ((hj5_p0_l8.mono hMj5_366).mono lhj5_902)
        replace ej5_p0_15 := ((ej5_p0_15.mono hMj5_366).mono lhj5_902)
        exact to [0, 1] (@f35_j6 _ _ _ Mhj5_902 rcx0_15 bx0 chx0_10 chx0_7 chx0_8 cj5_604 cx0_15 Ahx0_10 Ahx0_7 Ahx0_8 Aj5_603 Ax0_15 _ _ _ _ _ _ hm hj5_p0_l7 hj5_p0_l8 hj5_902 lj5_p0_l11 lj5_p0_l12 ej5_p0_15)
      · have ej5_542 : Elems (kint .i64) M [.int .i64 x1.f1] ([x1.f1] : List Int) := (elCons (d := (kint .i64)) (M := M) (a := [.int .i64 x1.f1]) (x := x1.f1) rfl elNil)
        refine g_bs 138 3 1 1 [.int .i64 x1.f1] fun bj5_543 => ?_
        refine g_call0 135 (f61_ok _ _ htj5_362 hj5_p0_l10) ?_
        rintro _ Mj5_366 _ ⟨Aj5_363, cj5_364, csj5_365, rfl, rfl, hj5_366⟩ hMj5_366
        replace ej5_542 := (ej5_542.mono hMj5_366)
        refine g_apR 139 4 3 8 3 Aj5_363 cj5_364 (some ⟨bj5_543, 0, none⟩) 1 hj5_366 ej5_542 hbj5_602 fun Aj5_603 cj5_604 csj5_605 ej5_602 => ?_
        refine seg [.p 2, .s 0] [] [(0, .blk bx0 (cS85 ({ x0 with f0 := { x0.f0 with f1 := xj2_p0_l1, f2 := xj2_p0_l2, f3 := xj2_p0_l3, f4 := xj2_p0_l4, f7 := (tj5_362 ++ ([x1.f1] : List Int)) } }) Ahx0_7 chx0_7 Ahx0_8 chx0_8 Aj5_603 cj5_604 Ax0_15 cx0_15) 86)] ?_
        refine fin ?_
        refine fzA 4 3 Aj5_603 cj5_604 ej5_602 fun Mhj5_902 lhj5_902 hj5_902 => ?_
        replace hj5_p0_l7 := ((hj5_p0_l7.mono hMj5_366).mono lhj5_902)
        replace hj5_p0_l8 := ((hj5_p0_l8.mono hMj5_366).mono lhj5_902)
        replace ej5_p0_15 := ((ej5_p0_15.mono hMj5_366).mono lhj5_902)
        exact to [0, 1] (@f35_j6 _ _ _ Mhj5_902 rcx0_15 bx0 chx0_10 chx0_7 chx0_8 cj5_604 cx0_15 Ahx0_10 Ahx0_7 Ahx0_8 Aj5_603 Ax0_15 _ _ _ _ _ _ hm hj5_p0_l7 hj5_p0_l8 hj5_902 lj5_p0_l11 lj5_p0_l12 ej5_p0_15)
    · exact to [0, 1] (@f35_j6 _ _ _ M rcx0_15 bx0 chx0_10 chx0_7 chx0_8 cj2_p0_l10 cx0_15 Ahx0_10 Ahx0_7 Ahx0_8 Aj2_p0_l10 Ax0_15 _ _ _ _ _ _ hm hj5_p0_l7 hj5_p0_l8 hj5_p0_l10 lj5_p0_l11 lj5_p0_l12 ej5_p0_15)
  · refine en ?_
    obtain rfl := Option.some.inj hm
    exact re (v := .tuple #[]) [0, 1] ⟨(cS85 ({ x0 with f0 := { x0.f0 with f1 := xj2_p0_l1, f2 := xj2_p0_l2, f3 := xj2_p0_l3, f4 := xj2_p0_l4, f7 := xj2_p0_l10 } }) Ahx0_7 chx0_7 Ahx0_8 chx0_8 Aj2_p0_l10 cj2_p0_l10 Ax0_15 cx0_15), Ax0_15, cx0_15, rcx0_15, rfl, rfl, (oS85_mk (cs := (cS85 ({ x0 with f0 := { x0.f0 with f1 := xj2_p0_l1, f2 := xj2_p0_l2, f3 := xj2_p0_l3, f4 := xj2_p0_l4, f7 := xj2_p0_l10 } }) Ahx0_7 chx0_7 Ahx0_8 chx0_8 Aj2_p0_l10 cj2_p0_l10 Ax0_15 cx0_15)) ({ x0 with f0 := { x0.f0 with f1 := xj2_p0_l1, f2 := xj2_p0_l2, f3 := xj2_p0_l3, f4 := xj2_p0_l4, f7 := xj2_p0_l10 } }) rfl hj5_p0_l7 hj5_p0_l8 hj5_p0_l10 lj5_p0_l11 lj5_p0_l12), ej5_p0_15⟩
theorem f35_j4 {w0 : World} {M0 : Mem} {r : S85} : ∀ {M : Mem} {csj4_p0_15 rcx0_15 : List Value} {bx0 chx0_10 chx0_7 chx0_8 cj4_p0_15 cj4_p0_l10 cj4_p0_l7 cj4_p0_l8 cx0_15 : Nat} {Ahx0_10 Ahx0_7 Ahx0_8 Aj4_p0_15 Aj4_p0_l10 Aj4_p0_l7 Aj4_p0_l8 Ax0_15 : Option Addr} (xj4_p0_l0 xj4_p0_l1 xj4_p0_l13 xj4_p0_l14 xj4_p0_l16 xj4_p0_l2 xj4_p0_l3 xj4_p0_l4 xj4_p0_l5 xj4_p0_l6 xj4_p0_l9 : Int) (xj4_p0_l10 xj4_p0_l11 xj4_p0_l12 xj4_p0_l7 : List Int) (xj4_p0_15 : List S46) (xj4_p0_l8 : List S80) (x0 : S85) (_ : m35_j4 xj4_p0_l0 xj4_p0_l1 xj4_p0_l13 xj4_p0_l14 xj4_p0_l16 xj4_p0_l2 xj4_p0_l3 xj4_p0_l4 xj4_p0_l5 xj4_p0_l6 xj4_p0_l9 xj4_p0_l10 xj4_p0_l11 xj4_p0_l12 xj4_p0_l7 xj4_p0_15 xj4_p0_l8 x0 = some r) (_ : SlAt (kint .i64) M Aj4_p0_l7 cj4_p0_l7 xj4_p0_l7) (_ : SlAt kS80 M Aj4_p0_l8 cj4_p0_l8 xj4_p0_l8) (_ : SlAt (kint .i64) M Aj4_p0_l10 cj4_p0_l10 xj4_p0_l10) (_ : xj4_p0_l11.length = 8) (_ : xj4_p0_l12.length = 8) (_ : Elems kS46 M csj4_p0_15 xj4_p0_15), AG Try.prog c35 [1, 1, 1, 1, 0, 1, 0, 1] (D35 w0 M0 r bx0 x0 Ahx0_7 chx0_7 Ahx0_8 chx0_8 Ahx0_10 chx0_10 Ax0_15 cx0_15 rcx0_15) (C35 w0 M0 bx0 x0 Ahx0_7 chx0_7 Ahx0_8 chx0_8 Ahx0_10 chx0_10 Ax0_15 cx0_15 rcx0_15) (env []) M [.blk bx0 (cS85 (S85.mk (S31.mk xj4_p0_l0 xj4_p0_l1 xj4_p0_l2 xj4_p0_l3 xj4_p0_l4 (S26.mk (S23.mk xj4_p0_l5 xj4_p0_l6 xj4_p0_l7) xj4_p0_l8) xj4_p0_l9 xj4_p0_l10 xj4_p0_l11 xj4_p0_l12 xj4_p0_l13 xj4_p0_l14) xj4_p0_15 xj4_p0_l16) Aj4_p0_l7 cj4_p0_l7 Aj4_p0_l8 cj4_p0_l8 Aj4_p0_l10 cj4_p0_l10 Aj4_p0_15 cj4_p0_15) 86, .row (.slice Aj4_p0_15 xj4_p0_15.length cj4_p0_15) 47 17 xj4_p0_15.length csj4_p0_15] := by
  intro M csj4_p0_15 rcx0_15 bx0 chx0_10 chx0_7 chx0_8 cj4_p0_15 cj4_p0_l10 cj4_p0_l7 cj4_p0_l8 cx0_15 Ahx0_10 Ahx0_7 Ahx0_8 Aj4_p0_15 Aj4_p0_l10 Aj4_p0_l7 Aj4_p0_l8 Ax0_15 xj4_p0_l0 xj4_p0_l1 xj4_p0_l13 xj4_p0_l14 xj4_p0_l16 xj4_p0_l2 xj4_p0_l3 xj4_p0_l4 xj4_p0_l5 xj4_p0_l6 xj4_p0_l9 xj4_p0_l10 xj4_p0_l11 xj4_p0_l12 xj4_p0_l7 xj4_p0_15 xj4_p0_l8 x0 hm hj4_p0_l7 hj4_p0_l8 hj4_p0_l10 lj4_p0_l11 lj4_p0_l12 ej4_p0_15; unfold m35_j4 at hm
  obtain rfl := Option.some.inj hm
  exact rt (v := .tuple #[]) [0, 1] ⟨(cS85 (S85.mk (S31.mk xj4_p0_l0 xj4_p0_l1 xj4_p0_l2 xj4_p0_l3 xj4_p0_l4 (S26.mk (S23.mk xj4_p0_l5 xj4_p0_l6 xj4_p0_l7) xj4_p0_l8) xj4_p0_l9 xj4_p0_l10 xj4_p0_l11 xj4_p0_l12 xj4_p0_l13 xj4_p0_l14) xj4_p0_15 xj4_p0_l16) Aj4_p0_l7 cj4_p0_l7 Aj4_p0_l8 cj4_p0_l8 Aj4_p0_l10 cj4_p0_l10 Aj4_p0_15 cj4_p0_15), Aj4_p0_15, cj4_p0_15, csj4_p0_15, rfl, rfl, (oS85_mk (cs := (cS85 (S85.mk (S31.mk xj4_p0_l0 xj4_p0_l1 xj4_p0_l2 xj4_p0_l3 xj4_p0_l4 (S26.mk (S23.mk xj4_p0_l5 xj4_p0_l6 xj4_p0_l7) xj4_p0_l8) xj4_p0_l9 xj4_p0_l10 xj4_p0_l11 xj4_p0_l12 xj4_p0_l13 xj4_p0_l14) xj4_p0_15 xj4_p0_l16) Aj4_p0_l7 cj4_p0_l7 Aj4_p0_l8 cj4_p0_l8 Aj4_p0_l10 cj4_p0_l10 Aj4_p0_15 cj4_p0_15)) (S85.mk (S31.mk xj4_p0_l0 xj4_p0_l1 xj4_p0_l2 xj4_p0_l3 xj4_p0_l4 (S26.mk (S23.mk xj4_p0_l5 xj4_p0_l6 xj4_p0_l7) xj4_p0_l8) xj4_p0_l9 xj4_p0_l10 xj4_p0_l11 xj4_p0_l12 xj4_p0_l13 xj4_p0_l14) xj4_p0_15 xj4_p0_l16) rfl hj4_p0_l7 hj4_p0_l8 hj4_p0_l10 lj4_p0_l11 lj4_p0_l12), ej4_p0_15⟩
theorem f35_j3 {w0 : World} {M0 : Mem} {r : S85} : ∀ {M : Mem} {rcx0_15 : List Value} {b0_1 bx0 chx0_10 chx0_7 chx0_8 chx1_11 chx1_13 chx1_14 chx1_15 chx1_8 chx1_9 cj2_p0_l10 cx0_15 : Nat} {Ahx0_10 Ahx0_7 Ahx0_8 Ahx1_11 Ahx1_13 Ahx1_14 Ahx1_15 Ahx1_8 Ahx1_9 Aj2_p0_l10 Ax0_15 : Option Addr} (xj3_s94 : Bool) (xj2_p0_l1 xj2_p0_l2 xj2_p0_l3 xj2_p0_l4 : Int) (xj2_p0_l10 : List Int) (x1 : S46) (x0 : S85) (_ : m35_j3 xj3_s94 xj2_p0_l1 xj2_p0_l2 xj2_p0_l3 xj2_p0_l4 xj2_p0_l10 x1 x0 = some r) (_ : SlAt (kint .i64) M Ahx0_7 chx0_7 x0.f0.f5.f0.f2) (_ : SlAt kS80 M Ahx0_8 chx0_8 x0.f0.f5.f1) (_ : SlAt (kint .i64) M Aj2_p0_l10 cj2_p0_l10 xj2_p0_l10) (_ : x0.f0.f8.length = 8) (_ : x0.f0.f9.length = 8) (_ : Elems kS46 M rcx0_15 x0.f1) (_ : SlAt kS80 M Ahx1_8 chx1_8 x1.f8) (_ : SlAt (kint .i64) M Ahx1_9 chx1_9 x1.f9) (_ : SlAt (kint .u8) M Ahx1_11 chx1_11 x1.f11) (_ : SlAt (kint .u8) M Ahx1_13 chx1_13 x1.f12.f1) (_ : SlAt (kint .u8) M Ahx1_14 chx1_14 x1.f12.f2) (_ : SlAt (kint .u8) M Ahx1_15 chx1_15 x1.f12.f3) (_ : Value.oneCell' x1.f12.f4 = true), AG Try.prog c35 [1, 1, 1, 1, 0, 1, 0, 0, 1, 0, 1, 1, 1] (D35 w0 M0 r bx0 x0 Ahx0_7 chx0_7 Ahx0_8 chx0_8 Ahx0_10 chx0_10 Ax0_15 cx0_15 rcx0_15) (C35 w0 M0 bx0 x0 Ahx0_7 chx0_7 Ahx0_8 chx0_8 Ahx0_10 chx0_10 Ax0_15 cx0_15 rcx0_15) (env [(0, .pointer (some ⟨bx0, 0, none⟩)), (3, .pointer (some ⟨b0_1, 0, none⟩)), (94, .bool xj3_s94)]) M [.blk bx0 (cS85 ({ x0 with f0 := { x0.f0 with f1 := xj2_p0_l1, f2 := xj2_p0_l2, f3 := xj2_p0_l3, f4 := xj2_p0_l4, f7 := xj2_p0_l10 } }) Ahx0_7 chx0_7 Ahx0_8 chx0_8 Aj2_p0_l10 cj2_p0_l10 Ax0_15 cx0_15) 86, .row (.slice Ax0_15 x0.f1.length cx0_15) 47 17 x0.f1.length rcx0_15, .blk b0_1 (cS46 x1 Ahx1_8 chx1_8 Ahx1_9 chx1_9 Ahx1_11 chx1_11 Ahx1_13 chx1_13 Ahx1_14 chx1_14 Ahx1_15 chx1_15) 47] := by
  intro M rcx0_15 b0_1 bx0 chx0_10 chx0_7 chx0_8 chx1_11 chx1_13 chx1_14 chx1_15 chx1_8 chx1_9 cj2_p0_l10 cx0_15 Ahx0_10 Ahx0_7 Ahx0_8 Ahx1_11 Ahx1_13 Ahx1_14 Ahx1_15 Ahx1_8 Ahx1_9 Aj2_p0_l10 Ax0_15 xj3_s94 xj2_p0_l1 xj2_p0_l2 xj2_p0_l3 xj2_p0_l4 xj2_p0_l10 x1 x0 hm hj3_p0_l7 hj3_p0_l8 hj3_p0_l10 lj3_p0_l11 lj3_p0_l12 ej3_p0_15 hj3_0_0_l8 hj3_0_0_l9 hj3_0_0_l11 hj3_0_0_l13 hj3_0_0_l14 hj3_0_0_l15 oj3_0_0_l16; unfold m35_j3 at hm
  refine gi [1, 1, 1, 1, 0, 1, 0, 0, 1, 0, 1, 1, 1] hm (fun hm => ?_) fun hm => ?_
  · obtain ⟨tj3_1, htj3_1, hm⟩ := bind_some hm
    refine rgD [1, 1, 1, 1, 0, 1, 0, 0, 1, 0, 1, 1, 1, 0] (PT.of [0, 4, 9, 12, 19, 20, 27] .dn) [(2, 2)] [4] mixed plain_done ?_
    refine seg [.p 2, .l 2, .p 1] [(97, .pointer (some ⟨bx0, 0, none⟩)), (99, .int .i64 x1.f1), (100, .pointer (some ⟨bx0, 0, none⟩))] [] ?_
    refine g_callK 101 [0, 1] (f36_ok (bx0 := bx0) (Ax0_15 := Ax0_15) (cx0_15 := cx0_15) _ _ htj3_1 (oS85_mk (cs := (cS85 ({ x0 with f0 := { x0.f0 with f1 := xj2_p0_l1, f2 := xj2_p0_l2, f3 := xj2_p0_l3, f4 := xj2_p0_l4, f7 := xj2_p0_l10 } }) Ahx0_7 chx0_7 Ahx0_8 chx0_8 Aj2_p0_l10 cj2_p0_l10 Ax0_15 cx0_15)) ({ x0 with f0 := { x0.f0 with f1 := xj2_p0_l1, f2 := xj2_p0_l2, f3 := xj2_p0_l3, f4 := xj2_p0_l4, f7 := xj2_p0_l10 } }) rfl hj3_p0_l7 hj3_p0_l8 hj3_p0_l10 lj3_p0_l11 lj3_p0_l12) ej3_p0_15) (by rintro _ _ _ ⟨rfl, rfl, rfl⟩; rfl) ?_
    rintro _ _ _ ⟨rfl, rfl, rfl⟩ -
    obtain ⟨tj3_2, htj3_2, hm⟩ := bind_some hm
    refine seg [.b] [(102, .agg (cS46 (S46.mk 4 0 0 0 tj3_1 0 0 false [] [] 0 [] (S44.mk 0 [] [] [] (.slice none 0 0))) none 0 none 0 none 0 none 0 none 0 none 0).toArray)] [] ?_
    refine g_call 103 [0, 1] (f59_ok (bx0 := bx0) (Ax0_15 := Ax0_15) (cx0_15 := cx0_15) _ _ _ _ htj3_2 (oS85_mk (cs := (cS85 ({ x0 with f0 := { x0.f0 with f1 := xj2_p0_l1, f2 := xj2_p0_l2, f3 := xj2_p0_l3, f4 := xj2_p0_l4, f7 := xj2_p0_l10 } }) Ahx0_7 chx0_7 Ahx0_8 chx0_8 Aj2_p0_l10 cj2_p0_l10 Ax0_15 cx0_15)) ({ x0 with f0 := { x0.f0 with f1 := xj2_p0_l1, f2 := xj2_p0_l2, f3 := xj2_p0_l3, f4 := xj2_p0_l4, f7 := xj2_p0_l10 } }) rfl hj3_p0_l7 hj3_p0_l8 hj3_p0_l10 lj3_p0_l11 lj3_p0_l12) ej3_p0_15 (kS46_mk (cs := (cS46 (S46.mk 4 0 0 0 tj3_1 0 0 false [] [] 0 [] (S44.mk 0 [] [] [] (.slice none 0 0))) none 0 none 0 none 0 none 0 none 0 none 0)) (S46.mk 4 0 0 0 tj3_1 0 0 false [] [] 0 [] (S44.mk 0 [] [] [] (.slice none 0 0))) rfl slNil slNil slNil slNil slNil slNil rfl)) ?_
    rintro _ Mj3_8 _ ⟨csj3_3, Aj3_5, cj3_6, rcj3_7, rfl, rfl, hj3_4, hj3_8⟩ hMj3_8
    obtain ⟨Ahj3_4_7, chj3_4_7, Ahj3_4_8, chj3_4_8, Ahj3_4_10, chj3_4_10, rfl, hj3_4_7, hj3_4_8, hj3_4_10, hj3_4_11, hj3_4_12⟩ := oS85_open hj3_4
    refine fin ?_
    exact to [0, 1] (@f35_j4 _ _ _ Mj3_8 rcj3_7 rcx0_15 bx0 chx0_10 chx0_7 chx0_8 cj3_6 chj3_4_10 chj3_4_7 chj3_4_8 cx0_15 Ahx0_10 Ahx0_7 Ahx0_8 Aj3_5 Ahj3_4_10 Ahj3_4_7 Ahj3_4_8 Ax0_15 _ _ _ _ _ _ _ _ _ _ _ _ _ _ _ _ _ _ hm hj3_4_7 hj3_4_8 hj3_4_10 hj3_4_11 hj3_4_12 hj3_8)
  · exact to [0, 1] (@f35_j4 _ _ _ M rcx0_15 rcx0_15 bx0 chx0_10 chx0_7 chx0_8 cx0_15 cj2_p0_l10 chx0_7 chx0_8 cx0_15 Ahx0_10 Ahx0_7 Ahx0_8 Ax0_15 Aj2_p0_l10 Ahx0_7 Ahx0_8 Ax0_15 _ _ _ _ _ _ _ _ _ _ _ _ _ _ _ _ _ _ hm hj3_p0_l7 hj3_p0_l8 hj3_p0_l10 lj3_p0_l11 lj3_p0_l12 ej3_p0_15)
theorem f35_j2 {w0 : World} {M0 : Mem} {r : S85} : ∀ {M : Mem} {rcx0_15 : List Value} {b0_1 bx0 chx0_10 chx0_7 chx0_8 chx1_11 chx1_13 chx1_14 chx1_15 chx1_8 chx1_9 cj2_p0_l10 cx0_15 : Nat} {Ahx0_10 Ahx0_7 Ahx0_8 Ahx1_11 Ahx1_13 Ahx1_14 Ahx1_15 Ahx1_8 Ahx1_9 Aj2_p0_l10 Ax0_15 : Option Addr} (xj2_p0_l1 xj2_p0_l2 xj2_p0_l3 xj2_p0_l4 : Int) (xj2_p0_l10 : List Int) (x1 : S46) (x0 : S85) (_ : m35_j2 xj2_p0_l1 xj2_p0_l2 xj2_p0_l3 xj2_p0_l4 xj2_p0_l10 x1 x0 = some r) (_ : SlAt (kint .i64) M Ahx0_7 chx0_7 x0.f0.f5.f0.f2) (_ : SlAt kS80 M Ahx0_8 chx0_8 x0.f0.f5.f1) (_ : SlAt (kint .i64) M Aj2_p0_l10 cj2_p0_l10 xj2_p0_l10) (_ : x0.f0.f8.length = 8) (_ : x0.f0.f9.length = 8) (_ : Elems kS46 M rcx0_15 x0.f1) (_ : SlAt kS80 M Ahx1_8 chx1_8 x1.f8) (_ : SlAt (kint .i64) M Ahx1_9 chx1_9 x1.f9) (_ : SlAt (kint .u8) M Ahx1_11 chx1_11 x1.f11) (_ : SlAt (kint .u8) M Ahx1_13 chx1_13 x1.f12.f1) (_ : SlAt (kint .u8) M Ahx1_14 chx1_14 x1.f12.f2) (_ : SlAt (kint .u8) M Ahx1_15 chx1_15 x1.f12.f3) (_ : Value.oneCell' x1.f12.f4 = true), AG Try.prog c35 [1, 1, 1, 1] (D35 w0 M0 r bx0 x0 Ahx0_7 chx0_7 Ahx0_8 chx0_8 Ahx0_10 chx0_10 Ax0_15 cx0_15 rcx0_15) (C35 w0 M0 bx0 x0 Ahx0_7 chx0_7 Ahx0_8 chx0_8 Ahx0_10 chx0_10 Ax0_15 cx0_15 rcx0_15) (env [(0, .pointer (some ⟨bx0, 0, none⟩)), (3, .pointer (some ⟨b0_1, 0, none⟩)), (4, .pointer (some ⟨bx0, 0, none⟩))]) M [.blk bx0 (cS85 ({ x0 with f0 := { x0.f0 with f1 := xj2_p0_l1, f2 := xj2_p0_l2, f3 := xj2_p0_l3, f4 := xj2_p0_l4, f7 := xj2_p0_l10 } }) Ahx0_7 chx0_7 Ahx0_8 chx0_8 Aj2_p0_l10 cj2_p0_l10 Ax0_15 cx0_15) 86, .row (.slice Ax0_15 x0.f1.length cx0_15) 47 17 x0.f1.length rcx0_15, .blk b0_1 (cS46 x1 Ahx1_8 chx1_8 Ahx1_9 chx1_9 Ahx1_11 chx1_11 Ahx1_13 chx1_13 Ahx1_14 chx1_14 Ahx1_15 chx1_15) 47] := by
  intro M rcx0_15 b0_1 bx0 chx0_10 chx0_7 chx0_8 chx1_11 chx1_13 chx1_14 chx1_15 chx1_8 chx1_9 cj2_p0_l10 cx0_15 Ahx0_10 Ahx0_7 Ahx0_8 Ahx1_11 Ahx1_13 Ahx1_14 Ahx1_15 Ahx1_8 Ahx1_9 Aj2_p0_l10 Ax0_15 xj2_p0_l1 xj2_p0_l2 xj2_p0_l3 xj2_p0_l4 xj2_p0_l10 x1 x0 hm hj2_p0_l7 hj2_p0_l8 hj2_p0_l10 lj2_p0_l11 lj2_p0_l12 ej2_p0_15 hj2_0_0_l8 hj2_0_0_l9 hj2_0_0_l11 hj2_0_0_l13 hj2_0_0_l14 hj2_0_0_l15 oj2_0_0_l16; unfold m35_j2 at hm
  refine rgD [1, 1, 1, 1, 0, 0] (PT.of [0, 5, 8, 12, 16, 21, 24] .dn) [(1, 2), (5, 0)] [0, 4] mixed plain_done ?_
  refine seg [.p 1, .l 2, .p 3, .l 0, .p 1] [(84, .bool (decide ((x1.f3 : Int) < xj2_p0_l1)))] [] ?_
  refine fin ?_
  refine gi [1, 1, 1, 1, 0, 1] hm (fun hm => ?_) fun hm => ?_
  · refine rs [1, 1, 1, 1, 0, 1, 0, 0, 0] [.p 1, .l 2] [(86, .int .i64 x1.f0)] [] ?_
    refine rs [1, 1, 1, 1, 0, 1, 0, 0, 1, 0, 0] [.p 2] [(87, .bool ((x1.f0 : Int) == 1))] [] ?_
    refine gi [1, 1, 1, 1, 0, 1, 0, 0, 1, 0, 1] hm (fun hm => ?_) fun hm => ?_
    · obtain ⟨tj2_1, htj2_1, hm⟩ := bind_some hm
      refine rg [1, 1, 1, 1, 0, 1, 0, 0, 1, 0, 1, 0] ?_
      refine seg [.p 2, .l 2, .b] [(89, .pointer (some ⟨bx0, 0, none⟩)), (91, .int .i64 x1.f1), (92, .agg (cS46 (S46.mk 2 0 0 0 0 0 0 false [] [] 0 [] (S44.mk 0 [] [] [] (.slice none 0 0))) none 0 none 0 none 0 none 0 none 0 none 0).toArray)] [] ?_
      refine g_call 93 [0, 1] (f59_ok (bx0 := bx0) (Ax0_15 := Ax0_15) (cx0_15 := cx0_15) _ _ _ _ htj2_1 (oS85_mk (cs := (cS85 ({ x0 with f0 := { x0.f0 with f1 := xj2_p0_l1, f2 := xj2_p0_l2, f3 := xj2_p0_l3, f4 := xj2_p0_l4, f7 := xj2_p0_l10 } }) Ahx0_7 chx0_7 Ahx0_8 chx0_8 Aj2_p0_l10 cj2_p0_l10 Ax0_15 cx0_15)) ({ x0 with f0 := { x0.f0 with f1 := xj2_p0_l1, f2 := xj2_p0_l2, f3 := xj2_p0_l3, f4 := xj2_p0_l4, f7 := xj2_p0_l10 } }) rfl hj2_p0_l7 hj2_p0_l8 hj2_p0_l10 lj2_p0_l11 lj2_p0_l12) ej2_p0_15 (kS46_mk (cs := (cS46 (S46.mk 2 0 0 0 0 0 0 false [] [] 0 [] (S44.mk 0 [] [] [] (.slice none 0 0))) none 0 none 0 none 0 none 0 none 0 none 0)) (S46.mk 2 0 0 0 0 0 0 false [] [] 0 [] (S44.mk 0 [] [] [] (.slice none 0 0))) rfl slNil slNil slNil slNil slNil slNil rfl)) ?_
      rintro _ Mj2_7 _ ⟨csj2_2, Aj2_4, cj2_5, rcj2_6, rfl, rfl, hj2_3, hj2_7⟩ hMj2_7
      obtain ⟨Ahj2_3_7, chj2_3_7, Ahj2_3_8, chj2_3_8, Ahj2_3_10, chj2_3_10, rfl, hj2_3_7, hj2_3_8, hj2_3_10, hj2_3_11, hj2_3_12⟩ := oS85_open hj2_3
      refine fin ?_
      exact to [0, 1] (@f35_j4 _ _ _ Mj2_7 rcj2_6 rcx0_15 bx0 chx0_10 chx0_7 chx0_8 cj2_5 chj2_3_10 chj2_3_7 chj2_3_8 cx0_15 Ahx0_10 Ahx0_7 Ahx0_8 Aj2_4 Ahj2_3_10 Ahj2_3_7 Ahj2_3_8 Ax0_15 _ _ _ _ _ _ _ _ _ _ _ _ _ _ _ _ _ _ hm hj2_3_7 hj2_3_8 hj2_3_10 hj2_3_11 hj2_3_12 hj2_7)
    · refine rs [1, 1, 1, 1, 0, 1, 0, 0, 1, 0, 1, 1, 0, 0] [.p 2] [(94, .bool ((x1.f0 : Int) == 3))] [] ?_
      refine gi [1, 1, 1, 1, 0, 1, 0, 0, 1, 0, 1, 1, 0, 1] hm (fun hm => ?_) fun hm => ?_
      · exact to [0, 1, 2] (@f35_j3 _ _ _ M rcx0_15 b0_1 bx0 chx0_10 chx0_7 chx0_8 chx1_11 chx1_13 chx1_14 chx1_15 chx1_8 chx1_9 cj2_p0_l10 cx0_15 Ahx0_10 Ahx0_7 Ahx0_8 Ahx1_11 Ahx1_13 Ahx1_14 Ahx1_15 Ahx1_8 Ahx1_9 Aj2_p0_l10 Ax0_15 _ _ _ _ _ _ _ _ hm hj2_p0_l7 hj2_p0_l8 hj2_p0_l10 lj2_p0_l11 lj2_p0_l12 ej2_p0_15 hj2_0_0_l8 hj2_0_0_l9 hj2_0_0_l11 hj2_0_0_l13 hj2_0_0_l14 hj2_0_0_l15 oj2_0_0_l16)
      · refine rs [1, 1, 1, 1, 0, 1, 0, 0, 1, 0, 1, 1, 0, 1, 1] [.p 2] [(94, .bool ((x1.f0 : Int) == 5))] [] ?_
        exact to [0, 1, 2] (@f35_j3 _ _ _ M rcx0_15 b0_1 bx0 chx0_10 chx0_7 chx0_8 chx1_11 chx1_13 chx1_14 chx1_15 chx1_8 chx1_9 cj2_p0_l10 cx0_15 Ahx0_10 Ahx0_7 Ahx0_8 Ahx1_11 Ahx1_13 Ahx1_14 Ahx1_15 Ahx1_8 Ahx1_9 Aj2_p0_l10 Ax0_15 _ _ _ _ _ _ _ _ hm hj2_p0_l7 hj2_p0_l8 hj2_p0_l10 lj2_p0_l11 lj2_p0_l12 ej2_p0_15 hj2_0_0_l8 hj2_0_0_l9 hj2_0_0_l11 hj2_0_0_l13 hj2_0_0_l14 hj2_0_0_l15 oj2_0_0_l16)
  · refine rs [1, 1, 1, 1, 1, 0] [.p 1, .l 2] [(105, .int .i64 x1.f0)] [] ?_
    refine rs [1, 1, 1, 1, 1, 1, 0, 0] [.p 2] [(106, .bool ((x1.f0 : Int) == 1))] [] ?_
    refine gi [1, 1, 1, 1, 1, 1, 0, 1] hm (fun hm => ?_) fun hm => ?_
    · obtain ⟨tj2_8, htj2_8, hm⟩ := bind_some hm
      refine rg [1, 1, 1, 1, 1, 1, 0, 1, 0] ?_
      refine seg [.p 1, .l 2] [(108, .pointer (some ⟨bx0, 0, none⟩)), (109, .agg (cS46 x1 Ahx1_8 chx1_8 Ahx1_9 chx1_9 Ahx1_11 chx1_11 Ahx1_13 chx1_13 Ahx1_14 chx1_14 Ahx1_15 chx1_15).toArray)] [] ?_
      refine g_call 110 [0, 1] (f60_ok (bx0 := bx0) (Ax0_15 := Ax0_15) (cx0_15 := cx0_15) _ _ _ htj2_8 (oS85_mk (cs := (cS85 ({ x0 with f0 := { x0.f0 with f1 := xj2_p0_l1, f2 := xj2_p0_l2, f3 := xj2_p0_l3, f4 := xj2_p0_l4, f7 := xj2_p0_l10 } }) Ahx0_7 chx0_7 Ahx0_8 chx0_8 Aj2_p0_l10 cj2_p0_l10 Ax0_15 cx0_15)) ({ x0 with f0 := { x0.f0 with f1 := xj2_p0_l1, f2 := xj2_p0_l2, f3 := xj2_p0_l3, f4 := xj2_p0_l4, f7 := xj2_p0_l10 } }) rfl hj2_p0_l7 hj2_p0_l8 hj2_p0_l10 lj2_p0_l11 lj2_p0_l12) ej2_p0_15 (kS46_mk (cs := (cS46 x1 Ahx1_8 chx1_8 Ahx1_9 chx1_9 Ahx1_11 chx1_11 Ahx1_13 chx1_13 Ahx1_14 chx1_14 Ahx1_15 chx1_15)) x1 rfl hj2_0_0_l8 hj2_0_0_l9 hj2_0_0_l11 hj2_0_0_l13 hj2_0_0_l14 hj2_0_0_l15 oj2_0_0_l16)) ?_
      rintro _ Mj2_14 _ ⟨csj2_9, Aj2_11, cj2_12, rcj2_13, rfl, rfl, hj2_10, hj2_14⟩ hMj2_14
      obtain ⟨Ahj2_10_7, chj2_10_7, Ahj2_10_8, chj2_10_8, Ahj2_10_10, chj2_10_10, rfl, hj2_10_7, hj2_10_8, hj2_10_10, hj2_10_11, hj2_10_12⟩ := oS85_open hj2_10
      refine finE ?_
      obtain rfl := Option.some.inj hm
      exact re (v := .tuple #[]) [0, 1] ⟨(cS85 tj2_8 Ahj2_10_7 chj2_10_7 Ahj2_10_8 chj2_10_8 Ahj2_10_10 chj2_10_10 Aj2_11 cj2_12), Aj2_11, cj2_12, rcj2_13, rfl, rfl, (oS85_mk (cs := (cS85 tj2_8 Ahj2_10_7 chj2_10_7 Ahj2_10_8 chj2_10_8 Ahj2_10_10 chj2_10_10 Aj2_11 cj2_12)) tj2_8 rfl hj2_10_7 hj2_10_8 hj2_10_10 hj2_10_11 hj2_10_12), hj2_14⟩
    · refine rs [1, 1, 1, 1, 1, 1, 0, 1, 1, 0] [.p 2] [(111, .bool ((x1.f0 : Int) == 2))] [] ?_
      refine gi [1, 1, 1, 1, 1, 1, 0, 1, 1, 1] hm (fun hm => ?_) fun hm => ?_
      · refine rg [1, 1, 1, 1, 1, 1, 0, 1, 1, 1, 0, 0] ?_
        refine seg [.p 3, .l 0, .p 2] [(118, .bool ((xj2_p0_l3 : Int) == 1))] [] ?_
        refine gs 118 hm (fun hm => ?_) fun hm => ?_
        · refine seg [.p 1, .l 2, .p 1] [(121, .bool x1.f7)] [] ?_
          refine fin ?_
          exact to [0, 1, 2] (@f35_j5 _ _ _ M rcx0_15 b0_1 bx0 chx0_10 chx0_7 chx0_8 chx1_11 chx1_13 chx1_14 chx1_15 chx1_8 chx1_9 cj2_p0_l10 cx0_15 Ahx0_10 Ahx0_7 Ahx0_8 Ahx1_11 Ahx1_13 Ahx1_14 Ahx1_15 Ahx1_8 Ahx1_9 Aj2_p0_l10 Ax0_15 _ _ _ _ _ _ _ _ hm hj2_p0_l7 hj2_p0_l8 hj2_p0_l10 lj2_p0_l11 lj2_p0_l12 ej2_p0_15 hj2_0_0_l8 hj2_0_0_l9 hj2_0_0_l11 hj2_0_0_l13 hj2_0_0_l14 hj2_0_0_l15 oj2_0_0_l16)
        · refine seg [.p 3] [(121, .bool false)] [] ?_
          refine fin ?_
          exact to [0, 1, 2] (@f35_j5 _ _ _ M rcx0_15 b0_1 bx0 chx0_10 chx0_7 chx0_8 chx1_11 chx1_13 chx1_14 chx1_15 chx1_8 chx1_9 cj2_p0_l10 cx0_15 Ahx0_10 Ahx0_7 Ahx0_8 Ahx1_11 Ahx1_13 Ahx1_14 Ahx1_15 Ahx1_8 Ahx1_9 Aj2_p0_l10 Ax0_15 _ _ _ _ _ _ _ _ hm hj2_p0_l7 hj2_p0_l8 hj2_p0_l10 lj2_p0_l11 lj2_p0_l12 ej2_p0_15 hj2_0_0_l8 hj2_0_0_l9 hj2_0_0_l11 hj2_0_0_l13 hj2_0_0_l14 hj2_0_0_l15 oj2_0_0_l16)
      · refine rs [1, 1, 1, 1, 1, 1, 0, 1, 1, 1, 1, 0] [.p 2] [(151, .bool ((x1.f0 : Int) == 3))] [] ?_
        refine gi [1, 1, 1, 1, 1, 1, 0, 1, 1, 1, 1, 1] hm (fun hm => ?_) fun hm => ?_
        · obtain ⟨tj2_15, htj2_15, hm⟩ := bind_some hm
          refine rg [1, 1, 1, 1, 1, 1, 0, 1, 1, 1, 1, 1, 0] ?_
          refine seg [.p 1, .l 2] [(153, .pointer (some ⟨bx0, 0, none⟩)), (154, .agg (cS46 x1 Ahx1_8 chx1_8 Ahx1_9 chx1_9 Ahx1_11 chx1_11 Ahx1_13 chx1_13 Ahx1_14 chx1_14 Ahx1_15 chx1_15).toArray)] [] ?_
          refine g_call 155 [0, 1] (f64_ok (bx0 := bx0) (Ax0_15 := Ax0_15) (cx0_15 := cx0_15) _ _ _ htj2_15 (oS85_mk (cs := (cS85 ({ x0 with f0 := { x0.f0 with f1 := xj2_p0_l1, f2 := xj2_p0_l2, f3 := xj2_p0_l3, f4 := xj2_p0_l4, f7 := xj2_p0_l10 } }) Ahx0_7 chx0_7 Ahx0_8 chx0_8 Aj2_p0_l10 cj2_p0_l10 Ax0_15 cx0_15)) ({ x0 with f0 := { x0.f0 with f1 := xj2_p0_l1, f2 := xj2_p0_l2, f3 := xj2_p0_l3, f4 := xj2_p0_l4, f7 := xj2_p0_l10 } }) rfl hj2_p0_l7 hj2_p0_l8 hj2_p0_l10 lj2_p0_l11 lj2_p0_l12) ej2_p0_15 (kS46_mk (cs := (cS46 x1 Ahx1_8 chx1_8 Ahx1_9 chx1_9 Ahx1_11 chx1_11 Ahx1_13 chx1_13 Ahx1_14 chx1_14 Ahx1_15 chx1_15)) x1 rfl hj2_0_0_l8 hj2_0_0_l9 hj2_0_0_l11 hj2_0_0_l13 hj2_0_0_l14 hj2_0_0_l15 oj2_0_0_l16)) ?_
          rintro _ Mj2_21 _ ⟨csj2_16, Aj2_18, cj2_19, rcj2_20, rfl, rfl, hj2_17, hj2_21⟩ hMj2_21
          obtain ⟨Ahj2_17_7, chj2_17_7, Ahj2_17_8, chj2_17_8, Ahj2_17_10, chj2_17_10, rfl, hj2_17_7, hj2_17_8, hj2_17_10, hj2_17_11, hj2_17_12⟩ := oS85_open hj2_17
          refine finE ?_
          obtain rfl := Option.some.inj hm
          exact re (v := .tuple #[]) [0, 1] ⟨(cS85 tj2_15 Ahj2_17_7 chj2_17_7 Ahj2_17_8 chj2_17_8 Ahj2_17_10 chj2_17_10 Aj2_18 cj2_19), Aj2_18, cj2_19, rcj2_20, rfl, rfl, (oS85_mk (cs := (cS85 tj2_15 Ahj2_17_7 chj2_17_7 Ahj2_17_8 chj2_17_8 Ahj2_17_10 chj2_17_10 Aj2_18 cj2_19)) tj2_15 rfl hj2_17_7 hj2_17_8 hj2_17_10 hj2_17_11 hj2_17_12), hj2_21⟩
        · refine rs [1, 1, 1, 1, 1, 1, 0, 1, 1, 1, 1, 1, 1, 0] [.p 2] [(156, .bool ((x1.f0 : Int) == 5))] [] ?_
          refine gi [1, 1, 1, 1, 1, 1, 0, 1, 1, 1, 1, 1, 1, 1] hm (fun hm => ?_) fun hm => ?_
          · obtain ⟨tj2_22, htj2_22, hm⟩ := bind_some hm
            refine rg [1, 1, 1, 1, 1, 1, 0, 1, 1, 1, 1, 1, 1, 1, 0] ?_
            refine seg [.p 1, .l 2] [(158, .pointer (some ⟨bx0, 0, none⟩)), (159, .agg (cS46 x1 Ahx1_8 chx1_8 Ahx1_9 chx1_9 Ahx1_11 chx1_11 Ahx1_13 chx1_13 Ahx1_14 chx1_14 Ahx1_15 chx1_15).toArray)] [] ?_
            refine g_call 160 [0, 1] (f65_ok (bx0 := bx0) (Ax0_15 := Ax0_15) (cx0_15 := cx0_15) _ _ _ htj2_22 (oS85_mk (cs := (cS85 ({ x0 with f0 := { x0.f0 with f1 := xj2_p0_l1, f2 := xj2_p0_l2, f3 := xj2_p0_l3, f4 := xj2_p0_l4, f7 := xj2_p0_l10 } }) Ahx0_7 chx0_7 Ahx0_8 chx0_8 Aj2_p0_l10 cj2_p0_l10 Ax0_15 cx0_15)) ({ x0 with f0 := { x0.f0 with f1 := xj2_p0_l1, f2 := xj2_p0_l2, f3 := xj2_p0_l3, f4 := xj2_p0_l4, f7 := xj2_p0_l10 } }) rfl hj2_p0_l7 hj2_p0_l8 hj2_p0_l10 lj2_p0_l11 lj2_p0_l12) ej2_p0_15 (kS46_mk (cs := (cS46 x1 Ahx1_8 chx1_8 Ahx1_9 chx1_9 Ahx1_11 chx1_11 Ahx1_13 chx1_13 Ahx1_14 chx1_14 Ahx1_15 chx1_15)) x1 rfl hj2_0_0_l8 hj2_0_0_l9 hj2_0_0_l11 hj2_0_0_l13 hj2_0_0_l14 hj2_0_0_l15 oj2_0_0_l16)) ?_
            rintro _ Mj2_28 _ ⟨csj2_23, Aj2_25, cj2_26, rcj2_27, rfl, rfl, hj2_24, hj2_28⟩ hMj2_28
            obtain ⟨Ahj2_24_7, chj2_24_7, Ahj2_24_8, chj2_24_8, Ahj2_24_10, chj2_24_10, rfl, hj2_24_7, hj2_24_8, hj2_24_10, hj2_24_11, hj2_24_12⟩ := oS85_open hj2_24
            refine finE ?_
            obtain rfl := Option.some.inj hm
            exact re (v := .tuple #[]) [0, 1] ⟨(cS85 tj2_22 Ahj2_24_7 chj2_24_7 Ahj2_24_8 chj2_24_8 Ahj2_24_10 chj2_24_10 Aj2_25 cj2_26), Aj2_25, cj2_26, rcj2_27, rfl, rfl, (oS85_mk (cs := (cS85 tj2_22 Ahj2_24_7 chj2_24_7 Ahj2_24_8 chj2_24_8 Ahj2_24_10 chj2_24_10 Aj2_25 cj2_26)) tj2_22 rfl hj2_24_7 hj2_24_8 hj2_24_10 hj2_24_11 hj2_24_12), hj2_28⟩
          · refine rs [1, 1, 1, 1, 1, 1, 0, 1, 1, 1, 1, 1, 1, 1, 1, 0] [.p 2] [(161, .bool ((x1.f0 : Int) == 4))] [] ?_
            refine gi [1, 1, 1, 1, 1, 1, 0, 1, 1, 1, 1, 1, 1, 1, 1, 1] hm (fun hm => ?_) fun hm => ?_
            · refine rgD [1, 1, 1, 1, 1, 1, 0, 1, 1, 1, 1, 1, 1, 1, 1, 1, 0, 0] (PT.of [0, 4, 8, 13, 16, 20, 24, 32, 37, 31, 43, 44] .dn) [(3, 0), (9, 2)] [0, 4] mixed plain_done ?_
              refine seg [.p 3, .l 0, .p 2] [(168, .bool ((xj2_p0_l3 : Int) == 2))] [] ?_
              refine gs 168 hm (fun hm => ?_) fun hm => ?_
              · obtain ⟨tj2_29, htj2_29, hm⟩ := bind_some hm
                refine seg [.p 2, .l 2] [(169, .pointer (some ⟨bx0, 0, none⟩)), (172, .int .i64 x1.f1)] [] ?_
                refine g_callK 170 [0, 1] (f57_ok (bx0 := bx0) (Ax0_15 := Ax0_15) (cx0_15 := cx0_15) _ _ htj2_29 (oS85_mk (cs := (cS85 ({ x0 with f0 := { x0.f0 with f1 := xj2_p0_l1, f2 := xj2_p0_l2, f3 := xj2_p0_l3, f4 := xj2_p0_l4, f7 := xj2_p0_l10 } }) Ahx0_7 chx0_7 Ahx0_8 chx0_8 Aj2_p0_l10 cj2_p0_l10 Ax0_15 cx0_15)) ({ x0 with f0 := { x0.f0 with f1 := xj2_p0_l1, f2 := xj2_p0_l2, f3 := xj2_p0_l3, f4 := xj2_p0_l4, f7 := xj2_p0_l10 } }) rfl hj2_p0_l7 hj2_p0_l8 hj2_p0_l10 lj2_p0_l11 lj2_p0_l12) ej2_p0_15) (by rintro _ _ _ ⟨_, _, rfl, rfl, _⟩; rfl) ?_
                rintro _ Mj2_32 _ ⟨Aj2_30, cj2_31, rfl, rfl, hj2_32⟩ hMj2_32
                obtain ⟨tj2_33, htj2_33, hm⟩ := bind_some hm
                refine g_call0 173 (f56_ok _ _ _ htj2_33 hj2_32) ?_
                rintro _ _ _ ⟨rfl, rfl, rfl⟩ -
                refine seg [.p 1] [(174, .bool tj2_33)] [] ?_
                refine fin ?_
                replace hj2_p0_l7 := (hj2_p0_l7.mono hMj2_32)
                replace hj2_p0_l8 := (hj2_p0_l8.mono hMj2_32)
                replace hj2_p0_l10 := (hj2_p0_l10.mono hMj2_32)
                replace ej2_p0_15 := (ej2_p0_15.mono hMj2_32)
                replace hj2_0_0_l8 := (hj2_0_0_l8.mono hMj2_32)
                replace hj2_0_0_l9 := (hj2_0_0_l9.mono hMj2_32)
                replace hj2_0_0_l11 := (hj2_0_0_l11.mono hMj2_32)
                replace hj2_0_0_l13 := (hj2_0_0_l13.mono hMj2_32)
                replace hj2_0_0_l14 := (hj2_0_0_l14.mono hMj2_32)
                replace hj2_0_0_l15 := (hj2_0_0_l15.mono hMj2_32)
                exact to [0, 1, 2] (@f35_j7 _ _ _ Mj2_32 rcx0_15 b0_1 bx0 chx0_10 chx0_7 chx0_8 chx1_11 chx1_13 chx1_14 chx1_15 chx1_8 chx1_9 cj2_p0_l10 cx0_15 Ahx0_10 Ahx0_7 Ahx0_8 Ahx1_11 Ahx1_13 Ahx1_14 Ahx1_15 Ahx1_8 Ahx1_9 Aj2_p0_l10 Ax0_15 _ _ _ _ _ _ _ _ hm hj2_p0_l7 hj2_p0_l8 hj2_p0_l10 lj2_p0_l11 lj2_p0_l12 ej2_p0_15 hj2_0_0_l8 hj2_0_0_l9 hj2_0_0_l11 hj2_0_0_l13 hj2_0_0_l14 hj2_0_0_l15 oj2_0_0_l16)
              · refine seg [.p 6] [(174, .bool false)] [] ?_
                refine fin ?_
                exact to [0, 1, 2] (@f35_j7 _ _ _ M rcx0_15 b0_1 bx0 chx0_10 chx0_7 chx0_8 chx1_11 chx1_13 chx1_14 chx1_15 chx1_8 chx1_9 cj2_p0_l10 cx0_15 Ahx0_10 Ahx0_7 Ahx0_8 Ahx1_11 Ahx1_13 Ahx1_14 Ahx1_15 Ahx1_8 Ahx1_9 Aj2_p0_l10 Ax0_15 _ _ _ _ _ _ _ _ hm hj2_p0_l7 hj2_p0_l8 hj2_p0_l10 lj2_p0_l11 lj2_p0_l12 ej2_p0_15 hj2_0_0_l8 hj2_0_0_l9 hj2_0_0_l11 hj2_0_0_l13 hj2_0_0_l14 hj2_0_0_l15 oj2_0_0_l16)
            · refine en ?_
              obtain rfl := Option.some.inj hm
              exact re (v := .tuple #[]) [0, 1] ⟨(cS85 ({ x0 with f0 := { x0.f0 with f1 := xj2_p0_l1, f2 := xj2_p0_l2, f3 := xj2_p0_l3, f4 := xj2_p0_l4, f7 := xj2_p0_l10 } }) Ahx0_7 chx0_7 Ahx0_8 chx0_8 Aj2_p0_l10 cj2_p0_l10 Ax0_15 cx0_15), Ax0_15, cx0_15, rcx0_15, rfl, rfl, (oS85_mk (cs := (cS85 ({ x0 with f0 := { x0.f0 with f1 := xj2_p0_l1, f2 := xj2_p0_l2, f3 := xj2_p0_l3, f4 := xj2_p0_l4, f7 := xj2_p0_l10 } }) Ahx0_7 chx0_7 Ahx0_8 chx0_8 Aj2_p0_l10 cj2_p0_l10 Ax0_15 cx0_15)) ({ x0 with f0 := { x0.f0 with f1 := xj2_p0_l1, f2 := xj2_p0_l2, f3 := xj2_p0_l3, f4 := xj2_p0_l4, f7 := xj2_p0_l10 } }) rfl hj2_p0_l7 hj2_p0_l8 hj2_p0_l10 lj2_p0_l11 lj2_p0_l12), ej2_p0_15⟩
theorem f35_j1 {w0 : World} {M0 : Mem} {r : S85} : ∀ {M : Mem} {rcx0_15 : List Value} {b0_1 bx0 chx0_10 chx0_7 chx0_8 chx1_11 chx1_13 chx1_14 chx1_15 chx1_8 chx1_9 cx0_15 : Nat} {Ahx0_10 Ahx0_7 Ahx0_8 Ahx1_11 Ahx1_13 Ahx1_14 Ahx1_15 Ahx1_8 Ahx1_9 Ax0_15 : Option Addr} (xj1_s53 : Bool) (x1 : S46) (x0 : S85) (_ : m35_j1 xj1_s53 x1 x0 = some r) (_ : SlAt (kint .i64) M Ahx0_7 chx0_7 x0.f0.f5.f0.f2) (_ : SlAt kS80 M Ahx0_8 chx0_8 x0.f0.f5.f1) (_ : SlAt (kint .i64) M Ahx0_10 chx0_10 x0.f0.f7) (_ : x0.f0.f8.length = 8) (_ : x0.f0.f9.length = 8) (_ : Elems kS46 M rcx0_15 x0.f1) (_ : SlAt kS80 M Ahx1_8 chx1_8 x1.f8) (_ : SlAt (kint .i64) M Ahx1_9 chx1_9 x1.f9) (_ : SlAt (kint .u8) M Ahx1_11 chx1_11 x1.f11) (_ : SlAt (kint .u8) M Ahx1_13 chx1_13 x1.f12.f1) (_ : SlAt (kint .u8) M Ahx1_14 chx1_14 x1.f12.f2) (_ : SlAt (kint .u8) M Ahx1_15 chx1_15 x1.f12.f3) (_ : Value.oneCell' x1.f12.f4 = true), AG Try.prog c35 [1, 1, 0, 1] (D35 w0 M0 r bx0 x0 Ahx0_7 chx0_7 Ahx0_8 chx0_8 Ahx0_10 chx0_10 Ax0_15 cx0_15 rcx0_15) (C35 w0 M0 bx0 x0 Ahx0_7 chx0_7 Ahx0_8 chx0_8 Ahx0_10 chx0_10 Ax0_15 cx0_15 rcx0_15) (env [(0, .pointer (some ⟨bx0, 0, none⟩)), (3, .pointer (some ⟨b0_1, 0, none⟩)), (4, .pointer (some ⟨bx0, 0, none⟩)), (53, .bool xj1_s53)]) M [.blk bx0 (cS85 x0 Ahx0_7 chx0_7 Ahx0_8 chx0_8 Ahx0_10 chx0_10 Ax0_15 cx0_15) 86, .row (.slice Ax0_15 x0.f1.length cx0_15) 47 17 x0.f1.length rcx0_15, .blk b0_1 (cS46 x1 Ahx1_8 chx1_8 Ahx1_9 chx1_9 Ahx1_11 chx1_11 Ahx1_13 chx1_13 Ahx1_14 chx1_14 Ahx1_15 chx1_15) 47] := by
  intro M rcx0_15 b0_1 bx0 chx0_10 chx0_7 chx0_8 chx1_11 chx1_13 chx1_14 chx1_15 chx1_8 chx1_9 cx0_15 Ahx0_10 Ahx0_7 Ahx0_8 Ahx1_11 Ahx1_13 Ahx1_14 Ahx1_15 Ahx1_8 Ahx1_9 Ax0_15 xj1_s53 x1 x0 hm hj1_p0_l7 hj1_p0_l8 hj1_p0_l10 lj1_p0_l11 lj1_p0_l12 ej1_p0_15 hj1_0_0_l8 hj1_0_0_l9 hj1_0_0_l11 hj1_0_0_l13 hj1_0_0_l14 hj1_0_0_l15 oj1_0_0_l16; unfold m35_j1 at hm
  refine gi [1, 1, 0, 1] hm (fun hm => ?_) fun hm => ?_
  · obtain rfl := Option.some.inj hm
    exact rt (v := .tuple #[]) [0, 1] ⟨(cS85 x0 Ahx0_7 chx0_7 Ahx0_8 chx0_8 Ahx0_10 chx0_10 Ax0_15 cx0_15), Ax0_15, cx0_15, rcx0_15, rfl, rfl, (oS85_mk (cs := (cS85 x0 Ahx0_7 chx0_7 Ahx0_8 chx0_8 Ahx0_10 chx0_10 Ax0_15 cx0_15)) x0 rfl hj1_p0_l7 hj1_p0_l8 hj1_p0_l10 lj1_p0_l11 lj1_p0_l12), ej1_p0_15⟩
  · refine rgD [1, 1, 1, 0, 0] (PT.of [0, 5, 8, 12, 16, 21, 24] .dn) [(1, 2), (5, 0)] [0, 4] mixed plain_done ?_
    refine seg [.p 1, .l 2, .p 3, .l 0, .p 1] [(60, .bool (decide ((x1.f3 : Int) > x0.f0.f1)))] [] ?_
    refine fin ?_
    refine gi [1, 1, 1, 0, 1] hm (fun hm => ?_) fun hm => ?_
    · refine rs [1, 1, 1, 0, 1, 0] [.p 6, .l 2, .p 2, .s 0, .p 2, .s 0, .p 2, .s 0, .p 2, .s 0, .p 2, .s 0] [] [(0, .blk bx0 (cS85 ({ x0 with f0 := { x0.f0 with f1 := x1.f3, f2 := 0, f3 := 0, f4 := 0, f7 := [] } }) Ahx0_7 chx0_7 Ahx0_8 chx0_8 none 0 Ax0_15 cx0_15) 86)] ?_
      exact to [0, 1, 2] (@f35_j2 _ _ _ M rcx0_15 b0_1 bx0 chx0_10 chx0_7 chx0_8 chx1_11 chx1_13 chx1_14 chx1_15 chx1_8 chx1_9 0 cx0_15 Ahx0_10 Ahx0_7 Ahx0_8 Ahx1_11 Ahx1_13 Ahx1_14 Ahx1_15 Ahx1_8 Ahx1_9 none Ax0_15 _ _ _ _ _ _ _ hm hj1_p0_l7 hj1_p0_l8 slNil lj1_p0_l11 lj1_p0_l12 ej1_p0_15 hj1_0_0_l8 hj1_0_0_l9 hj1_0_0_l11 hj1_0_0_l13 hj1_0_0_l14 hj1_0_0_l15 oj1_0_0_l16)
    · exact to [0, 1, 2] (@f35_j2 _ _ _ M rcx0_15 b0_1 bx0 chx0_10 chx0_7 chx0_8 chx1_11 chx1_13 chx1_14 chx1_15 chx1_8 chx1_9 chx0_10 cx0_15 Ahx0_10 Ahx0_7 Ahx0_8 Ahx1_11 Ahx1_13 Ahx1_14 Ahx1_15 Ahx1_8 Ahx1_9 Ahx0_10 Ax0_15 _ _ _ _ _ _ _ hm hj1_p0_l7 hj1_p0_l8 hj1_p0_l10 lj1_p0_l11 lj1_p0_l12 ej1_p0_15 hj1_0_0_l8 hj1_0_0_l9 hj1_0_0_l11 hj1_0_0_l13 hj1_0_0_l14 hj1_0_0_l15 oj1_0_0_l16)
theorem f35_ok {M : Mem} {bx0 : Nat} {csx0 : List Value} {Ax0_15 : Option Addr} {cx0_15 : Nat} {rcx0_15 : List Value} {csx1 : List Value} (x0 : S85) (x1 : S46) (r : S85) (hm : m35 x0 x1 = some r) (hx0 : (oS85 Ax0_15 cx0_15).rep M csx0 x0) (ex0_15 : Elems kS46 M rcx0_15 x0.f1) (hx1 : kS46.rep M csx1 x1) : FnOk Try.prog 35 [.pointer (some ⟨bx0, 0, none⟩), .agg csx1.toArray] M [.blk bx0 csx0 86, .row (.slice Ax0_15 x0.f1.length cx0_15) 47 17 x0.f1.length rcx0_15] (R35 M bx0 csx0 Ax0_15 x0 cx0_15 rcx0_15 r) := by
  obtain ⟨Ahx0_7, chx0_7, Ahx0_8, chx0_8, Ahx0_10, chx0_10, rfl, hx0_7, hx0_8, hx0_10, hx0_11, hx0_12⟩ := oS85_open hx0
  obtain ⟨Ahx1_8, chx1_8, Ahx1_9, chx1_9, Ahx1_11, chx1_11, Ahx1_13, chx1_13, Ahx1_14, chx1_14, Ahx1_15, chx1_15, rfl, hx1_8, hx1_9, hx1_11, hx1_13, hx1_14, hx1_15, hx1_16⟩ := kS46_open hx1
  refine intro_ (c := c35) 178 Try.func35 fun w => ?_
  unfold m35 at hm
  refine rg [0] ?_
  refine g_bx 3 47 (.agg (cS46 x1 Ahx1_8 chx1_8 Ahx1_9 chx1_9 Ahx1_11 chx1_11 Ahx1_13 chx1_13 Ahx1_14 chx1_14 Ahx1_15 chx1_15).toArray) fun b0_1 => ?_
  refine fin ?_
  refine rs [1, 0] [.p 4] [(4, .pointer (some ⟨bx0, 0, none⟩))] [] ?_
  refine rgD [1, 1, 0, 0] (PT.of [0, 5, 8, 12, 16, 21, 24, 28, 32, 37, 40, 44, 48, 53, 56, 60, 64, 68, 73, 79, 80, 84, 88, 92, 97, 103, 104, 108, 112, 116, 121, 127, 128, 132, 136, 140, 145, 151, 152, 156, 160, 164, 169, 175, 176, 180] .dn) [(1, 2), (5, 0), (9, 2), (13, 0), (18, 2), (24, 2), (30, 2), (36, 2), (42, 2)] [0, 4] mixed plain_done ?_
  refine seg [.p 1, .l 2, .p 3, .l 0, .p 2] [(15, .bool ((x1.f2 : Int) != x0.f0.f0))] [] ?_
  refine gs 15 hm (fun hm => ?_) fun hm => ?_
  · refine seg [.p 38] [(53, .bool true)] [] ?_
    refine fin ?_
    exact to [0, 1, 2] (@f35_j1 _ _ _ M rcx0_15 b0_1 bx0 chx0_10 chx0_7 chx0_8 chx1_11 chx1_13 chx1_14 chx1_15 chx1_8 chx1_9 cx0_15 Ahx0_10 Ahx0_7 Ahx0_8 Ahx1_11 Ahx1_13 Ahx1_14 Ahx1_15 Ahx1_8 Ahx1_9 Ax0_15 _ _ _ hm hx0_7 hx0_8 hx0_10 hx0_11 hx0_12 ex0_15 hx1_8 hx1_9 hx1_11 hx1_13 hx1_14 hx1_15 hx1_16)
  · refine seg [.p 1, .l 2, .p 3, .l 0, .p 3] [(24, .bool ((x1.f1 : Int) == x0.f0.f0))] [] ?_
    refine gs 24 hm (fun hm => ?_) fun hm => ?_
    · refine seg [.p 29] [(53, .bool true)] [] ?_
      refine fin ?_
      exact to [0, 1, 2] (@f35_j1 _ _ _ M rcx0_15 b0_1 bx0 chx0_10 chx0_7 chx0_8 chx1_11 chx1_13 chx1_14 chx1_15 chx1_8 chx1_9 cx0_15 Ahx0_10 Ahx0_7 Ahx0_8 Ahx1_11 Ahx1_13 Ahx1_14 Ahx1_15 Ahx1_8 Ahx1_9 Ax0_15 _ _ _ hm hx0_7 hx0_8 hx0_10 hx0_11 hx0_12 ex0_15 hx1_8 hx1_9 hx1_11 hx1_13 hx1_14 hx1_15 hx1_16)
    · obtain ⟨t0_2, ht0_2, hm⟩ := bind_some hm
      refine seg [.p 1, .l 2] [(26, .int .i64 x1.f1)] [] ?_
      refine g_call0 27 (f42_ok (M := M) _ _ _ _ ht0_2) ?_
      rintro _ _ _ ⟨rfl, rfl, rfl⟩ -
      refine seg [.p 3] [(30, .bool (!t0_2))] [] ?_
      refine gs 30 hm (fun hm => ?_) fun hm => ?_
      · refine seg [.p 23] [(53, .bool true)] [] ?_
        refine fin ?_
        exact to [0, 1, 2] (@f35_j1 _ _ _ M rcx0_15 b0_1 bx0 chx0_10 chx0_7 chx0_8 chx1_11 chx1_13 chx1_14 chx1_15 chx1_8 chx1_9 cx0_15 Ahx0_10 Ahx0_7 Ahx0_8 Ahx1_11 Ahx1_13 Ahx1_14 Ahx1_15 Ahx1_8 Ahx1_9 Ax0_15 _ _ _ hm hx0_7 hx0_8 hx0_10 hx0_11 hx0_12 ex0_15 hx1_8 hx1_9 hx1_11 hx1_13 hx1_14 hx1_15 hx1_16)
      · obtain ⟨t0_3, ht0_3, hm⟩ := bind_some hm
        refine seg [.p 1, .l 2] [(32, .int .i64 x1.f3)] [] ?_
        refine g_call0 33 (f42_ok (M := M) _ _ _ _ ht0_3) ?_
        rintro _ _ _ ⟨rfl, rfl, rfl⟩ -
        refine seg [.p 3] [(36, .bool (!t0_3))] [] ?_
        refine gs 36 hm (fun hm => ?_) fun hm => ?_
        · refine seg [.p 17] [(53, .bool true)] [] ?_
          refine fin ?_
          exact to [0, 1, 2] (@f35_j1 _ _ _ M rcx0_15 b0_1 bx0 chx0_10 chx0_7 chx0_8 chx1_11 chx1_13 chx1_14 chx1_15 chx1_8 chx1_9 cx0_15 Ahx0_10 Ahx0_7 Ahx0_8 Ahx1_11 Ahx1_13 Ahx1_14 Ahx1_15 Ahx1_8 Ahx1_9 Ax0_15 _ _ _ hm hx0_7 hx0_8 hx0_10 hx0_11 hx0_12 ex0_15 hx1_8 hx1_9 hx1_11 hx1_13 hx1_14 hx1_15 hx1_16)
        · obtain ⟨t0_4, ht0_4, hm⟩ := bind_some hm
          refine seg [.p 1, .l 2] [(38, .int .i64 x1.f4)] [] ?_
          refine g_call0 39 (f42_ok (M := M) _ _ _ _ ht0_4) ?_
          rintro _ _ _ ⟨rfl, rfl, rfl⟩ -
          refine seg [.p 3] [(42, .bool (!t0_4))] [] ?_
          refine gs 42 hm (fun hm => ?_) fun hm => ?_
          · refine seg [.p 11] [(53, .bool true)] [] ?_
            refine fin ?_
            exact to [0, 1, 2] (@f35_j1 _ _ _ M rcx0_15 b0_1 bx0 chx0_10 chx0_7 chx0_8 chx1_11 chx1_13 chx1_14 chx1_15 chx1_8 chx1_9 cx0_15 Ahx0_10 Ahx0_7 Ahx0_8 Ahx1_11 Ahx1_13 Ahx1_14 Ahx1_15 Ahx1_8 Ahx1_9 Ax0_15 _ _ _ hm hx0_7 hx0_8 hx0_10 hx0_11 hx0_12 ex0_15 hx1_8 hx1_9 hx1_11 hx1_13 hx1_14 hx1_15 hx1_16)
          · obtain ⟨t0_5, ht0_5, hm⟩ := bind_some hm
            refine seg [.p 1, .l 2] [(44, .int .i64 x1.f5)] [] ?_
            refine g_call0 45 (f42_ok (M := M) _ _ _ _ ht0_5) ?_
            rintro _ _ _ ⟨rfl, rfl, rfl⟩ -
            refine seg [.p 3] [(48, .bool (!t0_5))] [] ?_
            refine gs 48 hm (fun hm => ?_) fun hm => ?_
            · refine seg [.p 5] [(53, .bool true)] [] ?_
              refine fin ?_
              exact to [0, 1, 2] (@f35_j1 _ _ _ M rcx0_15 b0_1 bx0 chx0_10 chx0_7 chx0_8 chx1_11 chx1_13 chx1_14 chx1_15 chx1_8 chx1_9 cx0_15 Ahx0_10 Ahx0_7 Ahx0_8 Ahx1_11 Ahx1_13 Ahx1_14 Ahx1_15 Ahx1_8 Ahx1_9 Ax0_15 _ _ _ hm hx0_7 hx0_8 hx0_10 hx0_11 hx0_12 ex0_15 hx1_8 hx1_9 hx1_11 hx1_13 hx1_14 hx1_15 hx1_16)
            · obtain ⟨t0_6, ht0_6, hm⟩ := bind_some hm
              refine seg [.p 1, .l 2] [(50, .int .i64 x1.f6)] [] ?_
              refine g_call0 51 (f42_ok (M := M) _ _ _ _ ht0_6) ?_
              rintro _ _ _ ⟨rfl, rfl, rfl⟩ -
              refine seg [.p 2] [(53, .bool (!t0_6))] [] ?_
              refine fin ?_
              exact to [0, 1, 2] (@f35_j1 _ _ _ M rcx0_15 b0_1 bx0 chx0_10 chx0_7 chx0_8 chx1_11 chx1_13 chx1_14 chx1_15 chx1_8 chx1_9 cx0_15 Ahx0_10 Ahx0_7 Ahx0_8 Ahx1_11 Ahx1_13 Ahx1_14 Ahx1_15 Ahx1_8 Ahx1_9 Ax0_15 _ _ _ hm hx0_7 hx0_8 hx0_10 hx0_11 hx0_12 ex0_15 hx1_8 hx1_9 hx1_11 hx1_13 hx1_14 hx1_15 hx1_16)

/-! ## heartwood/conf.Step$1 -/
/-- heartwood/conf.Step$1: what is left behind a call. -/
abbrev R92 (M : Mem) (bz0 : Nat) (Az0 : Option Addr) (z0 : List Int) (cz0 : Nat) (r : Bool) : Value → Mem → List Res → Prop := fun v M' H' => .bool r = v ∧ M = M' ∧ H' = [.blk bz0 [.slice Az0 z0.length cz0] 22]
noncomputable def c92 : Code := match Try.f92.body with | some c => c | none => .skip
theorem f92_ok {M : Mem} {bz0 : Nat} {Az0 : Option Addr} {cz0 : Nat} (x0 : Int) (z0 : List Int) (r : Bool) (hm : m92 x0 z0 = some r) (hz0 : SlAt (kint .i64) M Az0 cz0 z0) : FnOk Try.prog 92 [.int .i64 x0, .pointer (some ⟨bz0, 0, none⟩)] M [.blk bz0 [.slice Az0 z0.length cz0] 22] (R92 M bz0 Az0 z0 cz0 r) := by
  refine intro_ (c := c92) 8 Try.func92 fun w => ?_
  unfold m92 at hm
  refine rs [0] [.p 1] [] [] ?_
  obtain ⟨t0_1, ht0_1, hm⟩ := bind_some hm
  refine rg [1, 0] ?_
  refine seg [.l 0, .p 1] [(4, .slice Az0 z0.length cz0), (5, .int .i64 x0)] [] ?_
  refine g_call0 6 (f56_ok _ _ _ ht0_1 hz0) ?_
  rintro _ _ _ ⟨rfl, rfl, rfl⟩ -
  refine seg [.p 2] [(3, .bool (!t0_1))] [] ?_
  refine fin ?_
  obtain rfl := Option.some.inj hm
  exact rtp (v := .bool (!t0_1)) [0] ⟨rfl, rfl, rfl⟩

/-! ## slices.IndexFunc[[]int,int] -/
/-- slices.IndexFunc[[]int,int]: what is left behind a call. -/
abbrev R98 (M : Mem) (bz0 : Nat) (Az0 : Option Addr) (z0 : List Int) (cz0 : Nat) (r : Int) : Value → Mem → List Res → Prop := fun v M' H' => .int .i64 r = v ∧ M = M' ∧ H' = [.blk bz0 [.slice Az0 z0.length cz0] 22]
noncomputable def c98 : Code := match Try.f98.body with | some c => c | none => .skip
abbrev C98 (w0 : World) (M0 : Mem) (bz0 : Nat) (Az0 : Option Addr) (z0 : List Int) (cz0 : Nat) : Ctx := ⟨19, w0, M0, [.blk bz0 [.slice Az0 z0.length cz0] 22]⟩
abbrev D98 (w0 : World) (M0 : Mem) (r : Int) (bz0 : Nat) (Az0 : Option Addr) (z0 : List Int) (cz0 : Nat) : Post := Done Try.prog Try.f98 (C98 w0 M0 bz0 Az0 z0 cz0) (R98 M0 bz0 Az0 z0 cz0 r)
abbrev H98_j1 (w0 : World) (M0 : Mem) (r : Int) (Lj1 : Int → (List Int) → (List Int) → Option Int) : Prop := ∀ {M : Mem} {bz0 cx0 cz0 : Nat} {Ax0 Az0 : Option Addr} (xj1_s8 : Int) (x0 z0 : List Int) (_ : Lj1 xj1_s8 x0 z0 = some r) (_ : SlAt (kint .i64) M Ax0 cx0 x0) (_ : SlAt (kint .i64) M Az0 cz0 z0), AG Try.prog c98 [1, 0, 1, 0] (D98 w0 M0 r bz0 Az0 z0 cz0) (C98 w0 M0 bz0 Az0 z0 cz0) (env [(0, .slice Ax0 x0.length cx0), (1, .func (.func 92) #[] #[.pointer (some ⟨bz0, 0, none⟩)]), (7, .int .i64 (x0.length : Int)), (8, .int .i64 xj1_s8)]) M [.blk bz0 [.slice Az0 z0.length cz0] 22]
theorem f98_j1 {w0 : World} {M0 : Mem} {r : Int} : ∀ k, H98_j1 w0 M0 r (m98_j1 k) := by
  intro k; induction k with
  | zero => intro M bz0 cx0 cz0 Ax0 Az0 xj1_s8 x0 z0 hm; exact absurd hm (by simp [m98_j1])
  | succ k ihj1 =>
    intro M bz0 cx0 cz0 Ax0 Az0 xj1_s8 x0 z0 hm hj1_s0 hj1_q1_c0_l0
    rw [m98_j1.eq_2] at hm
    refine gl [1, 0, 1, 0] plain_done ?_
    refine rs [1, 0, 1, 0, 0, 0] [.p 1] [(9, .bool (decide ((xj1_s8 : Int) < (x0.length : Int))))] [] ?_
    refine gi [1, 0, 1, 0, 0, 1, 0] hm (fun hm => ?_) fun hm => ?_
    · refine rs [1, 0, 1, 0, 0, 1, 1, 0, 0, 0] [.p 2] [(5, .int .i64 xj1_s8)] [] ?_
      obtain ⟨ej1_1, bj1_2, fj1_3, kj1_4, Wj1_5, hm, haej1_1, hbej1_1, hmej1_1, hwej1_1, hrej1_1⟩ := ixo hm hj1_s0
      replace hwej1_1 := hwej1_1.trans hrej1_1
      refine rg [1, 0, 1, 0, 0, 1, 1, 0, 0, 1, 0] ?_
      refine seg [.p 3] [(11, .func (.func 92) #[] #[.pointer (some ⟨bz0, 0, none⟩)]), (12, .slice Ax0 x0.length cx0), (13, .int .i64 xj1_s8)] [] ?_
      refine g_ix 14 1 haej1_1 hbej1_1 ?_
      refine g_lw 15 0 (.int .i64 ej1_1) hmej1_1 hwej1_1 ?_
      obtain ⟨tj1_6, htj1_6, hm⟩ := bind_some hm
      refine g_call 16 [0] (f92_ok (bz0 := bz0) _ _ _ htj1_6 hj1_q1_c0_l0) ?_
      rintro _ _ _ ⟨rfl, rfl, rfl⟩ -
      refine fin ?_
      refine gi [1, 0, 1, 0, 0, 1, 1, 0, 0, 1, 1] hm (fun hm => ?_) fun hm => ?_
      · refine rs [1, 0, 1, 0, 0, 1, 1, 0, 0, 1, 1, 0, 0] [.p 2] [(4, .int .i64 xj1_s8)] [] ?_
        obtain rfl := Option.some.inj hm
        exact rtp (v := .int .i64 xj1_s8) [0] ⟨rfl, rfl, rfl⟩
      · refine rs [1, 0, 1, 0, 0, 1, 1, 1] [.p 2] [(8, .int .i64 (IntKind.i64.wrap (xj1_s8 + 1)))] [] ?_
        exact to [0] (@ihj1 M bz0 cx0 cz0 Ax0 Az0 _ _ _ hm hj1_s0 hj1_q1_c0_l0)
    · refine rs [1, 1, 0] [.p 1] [(4, .int .i64 (-1))] [] ?_
      obtain rfl := Option.some.inj hm
      exact rtp (v := .int .i64 (-1)) [0] ⟨rfl, rfl, rfl⟩
theorem f98_ok {M : Mem} {Ax0 : Option Addr} {cx0 : Nat} {bz0 : Nat} {Az0 : Option Addr} {cz0 : Nat} (x0 : List Int) (z0 : List Int) (r : Int) (hm : m98 x0 z0 = some r) (hx0 : SlAt (kint .i64) M Ax0 cx0 x0) (hz0 : SlAt (kint .i64) M Az0 cz0 z0) : FnOk Try.prog 98 [.slice Ax0 x0.length cx0, .func (.func 92) #[] #[.pointer (some ⟨bz0, 0, none⟩)]] M [.blk bz0 [.slice Az0 z0.length cz0] 22] (R98 M bz0 Az0 z0 cz0 r) := by
  refine intro_ (c := c98) 19 Try.func98 fun w => ?_
  unfold m98 at hm
  refine rs [0] [.p 1] [] [] ?_
  refine rs [1, 0, 0] [.p 3] [(7, .int .i64 (x0.length : Int)), (8, .int .i64 0)] [] ?_
  exact to [0] (@f98_j1 _ _ _ FUEL M bz0 cx0 cz0 Ax0 Az0 _ _ _ hm hx0 hz0)

/-! ## slices.ContainsFunc[[]int,int] -/
/-- slices.ContainsFunc[[]int,int]: what is left behind a call. -/
abbrev R91 (M : Mem) (bz0 : Nat) (Az0 : Option Addr) (z0 : List Int) (cz0 : Nat) (r : Bool) : Value → Mem → List Res → Prop := fun v M' H' => .bool r = v ∧ M = M' ∧ H' = [.blk bz0 [.slice Az0 z0.length cz0] 22]
noncomputable def c91 : Code := match Try.f91.body with | some c => c | none => .skip
theorem f91_ok {M : Mem} {Ax0 : Option Addr} {cx0 : Nat} {bz0 : Nat} {Az0 : Option Addr} {cz0 : Nat} (x0 : List Int) (z0 : List Int) (r : Bool) (hm : m91 x0 z0 = some r) (hx0 : SlAt (kint .i64) M Ax0 cx0 x0) (hz0 : SlAt (kint .i64) M Az0 cz0 z0) : FnOk Try.prog 91 [.slice Ax0 x0.length cx0, .func (.func 92) #[] #[.pointer (some ⟨bz0, 0, none⟩)]] M [.blk bz0 [.slice Az0 z0.length cz0] 22] (R91 M bz0 Az0 z0 cz0 r) := by
  refine intro_ (c := c91) 9 Try.func91 fun w => ?_
  unfold m91 at hm
  refine rs [0] [.p 1] [] [] ?_
  obtain ⟨t0_1, ht0_1, hm⟩ := bind_some hm
  refine rg [1, 0] ?_
  refine seg [.p 2] [(5, .slice Ax0 x0.length cx0), (6, .func (.func 92) #[] #[.pointer (some ⟨bz0, 0, none⟩)])] [] ?_
  refine g_call 7 [0] (f98_ok (bz0 := bz0) _ _ _ ht0_1 hx0 hz0) ?_
  rintro _ _ _ ⟨rfl, rfl, rfl⟩ -
  refine seg [.p 2] [(4, .bool (decide ((t0_1 : Int) ≥ 0)))] [] ?_
  refine fin ?_
  obtain rfl := Option.some.inj hm
  exact rtp (v := .bool (decide ((t0_1 : Int) ≥ 0))) [0] ⟨rfl, rfl, rfl⟩

/-! ## heartwood/conf.Step -/
/-- heartwood/conf.Step: what is left behind a call. -/
abbrev R70 (M : Mem) (r : Bool) : Value → Mem → List Res → Prop := fun v M' H' => .bool r = v ∧ M = M' ∧ H' = []
noncomputable def c70 : Code := match Try.f70.body with | some c => c | none => .skip
abbrev C70 (w0 : World) (M0 : Mem) : Ctx := ⟨32, w0, M0, []⟩
abbrev D70 (w0 : World) (M0 : Mem) (r : Bool) : Post := Done Try.prog Try.f70 (C70 w0 M0) (R70 M0 r)
theorem f70_j2 {w0 : World} {M0 : Mem} {r : Bool} : ∀ {M : Mem} (xj2_s4 : Bool) (_ : m70_j2 xj2_s4 = some r), AG Try.prog c70 [1, 1, 1] (D70 w0 M0 r) (C70 w0 M0) (env [(4, .bool xj2_s4)]) M [] := by
  intro M xj2_s4 hm; unfold m70_j2 at hm
  obtain rfl := Option.some.inj hm
  exact rtp (v := .bool xj2_s4) [] ⟨rfl, rfl, rfl⟩
theorem f70_j1 {w0 : World} {M0 : Mem} {r : Bool} : ∀ {M : Mem} {b0_1 cj1_0_0_l0 cj1_s0 : Nat} {Aj1_0_0_l0 Aj1_s0 : Option Addr} (xj1_0_0_l0 xj1_s0 : List Int) (_ : m70_j1 xj1_0_0_l0 xj1_s0 = some r) (_ : SlAt (kint .i64) M Aj1_s0 cj1_s0 xj1_s0) (_ : SlAt (kint .i64) M Aj1_0_0_l0 cj1_0_0_l0 xj1_0_0_l0), AG Try.prog c70 [1, 1] (D70 w0 M0 r) (C70 w0 M0) (env [(0, .slice Aj1_s0 xj1_s0.length cj1_s0), (3, .pointer (some ⟨b0_1, 0, none⟩))]) M [.blk b0_1 [.slice Aj1_0_0_l0 xj1_0_0_l0.length cj1_0_0_l0] 22] := by
  intro M b0_1 cj1_0_0_l0 cj1_s0 Aj1_0_0_l0 Aj1_s0 xj1_0_0_l0 xj1_s0 hm hj1_s0 hj1_0_0_l0; unfold m70_j1 at hm
  obtain ⟨tj1_1, htj1_1, hm⟩ := bind_some hm
  refine rg [1, 1, 0] ?_
  refine seg [.p 1] [(12, .slice Aj1_s0 xj1_s0.length cj1_s0)] [] ?_
  refine g_call0 13 (f78_ok _ _ htj1_1 hj1_s0) ?_
  rintro _ _ _ ⟨rfl, rfl, rfl⟩ -
  refine seg [.p 1] [(14, .bool tj1_1)] [] ?_
  refine gs 14 hm (fun hm => ?_) fun hm => ?_
  · obtain ⟨tj1_2, htj1_2, hm⟩ := bind_some hm
    refine seg [.l 0] [(15, .slice Aj1_0_0_l0 xj1_0_0_l0.length cj1_0_0_l0)] [] ?_
    refine g_call0 16 (f78_ok _ _ htj1_2 hj1_0_0_l0) ?_
    rintro _ _ _ ⟨rfl, rfl, rfl⟩ -
    refine seg [.p 2] [(18, .bool tj1_2)] [] ?_
    refine gs 18 hm (fun hm => ?_) fun hm => ?_
    · refine seg [.l 0, .p 7] [(26, .bool (((xj1_0_0_l0.length : Int) : Int) == (IntKind.i64.wrap ((xj1_s0.length : Int) + 1))))] [] ?_
      refine gs 26 hm (fun hm => ?_) fun hm => ?_
      · obtain ⟨tj1_3, htj1_3, hm⟩ := bind_some hm
        refine seg [.p 2] [(27, .slice Aj1_s0 xj1_s0.length cj1_s0), (28, .func (.func 92) #[] #[.pointer (some ⟨b0_1, 0, none⟩)])] [] ?_
        refine g_call 29 [0] (f91_ok (bz0 := b0_1) _ _ _ htj1_3 hj1_s0 hj1_0_0_l0) ?_
        rintro _ _ _ ⟨rfl, rfl, rfl⟩ -
        refine seg [.p 3] [(4, .bool (!tj1_3))] [] ?_
        refine fin ?_
        exact to [] (@f70_j2 _ _ _ M _ hm)
      · refine seg [.p 6] [(4, .bool false)] [] ?_
        refine fin ?_
        exact to [] (@f70_j2 _ _ _ M _ hm)
    · refine seg [.p 14] [(4, .bool false)] [] ?_
      refine fin ?_
      exact to [] (@f70_j2 _ _ _ M _ hm)
  · refine seg [.p 18] [(4, .bool false)] [] ?_
    refine fin ?_
    exact to [] (@f70_j2 _ _ _ M _ hm)
theorem f70_ok {M : Mem} {Ax0 : Option Addr} {cx0 : Nat} {Ax1 : Option Addr} {cx1 : Nat} (x0 : List Int) (x1 : List Int) (r : Bool) (hm : m70 x0 x1 = some r) (hx0 : SlAt (kint .i64) M Ax0 cx0 x0) (hx1 : SlAt (kint .i64) M Ax1 cx1 x1) : FnOk Try.prog 70 [.slice Ax0 x0.length cx0, .slice Ax1 x1.length cx1] M [] (R70 M r) := by
  refine intro_ (c := c70) 32 Try.func70 fun w => ?_
  unfold m70 at hm
  refine rg [0] ?_
  refine g_bx 3 22 (.slice Ax1 x1.length cx1) fun b0_1 => ?_
  refine seg [.p 1] [] [] ?_
  refine fin ?_
  refine rs [1, 0, 0] [.p 2, .l 0, .p 2] [(9, .bool (decide (((x0.length : Int) : Int) > (x1.length : Int))))] [] ?_
  refine gi [1, 0, 1] hm (fun hm => ?_) fun hm => ?_
  · refine rs [1, 0, 1, 0] [.l 0, .p 2, .s 0] [(0, .slice Ax1 x1.length cx1)] [(0, .blk b0_1 [.slice Ax0 x0.length cx0] 22)] ?_
    exact to [0] (@f70_j1 _ _ _ M b0_1 cx0 cx1 Ax0 Ax1 _ _ hm hx1 hx0)
  · exact to [0] (@f70_j1 _ _ _ M b0_1 cx1 cx0 Ax1 Ax0 _ _ hm hx0 hx1)

/-! ## heartwood/conf.Bytes -/
/-- heartwood/conf.Bytes: what is left behind a call. -/
abbrev R72 (M : Mem) (r : ((List Int) × Int)) : Value → Mem → List Res → Prop := fun v M' H' => ∃ (q0 : Option Addr) (u0 : Nat), .tuple #[.slice q0 r.1.length u0, errV 39 r.2] = v ∧ H' = [] ∧ SlAt (kint .u8) M' q0 u0 r.1
noncomputable def c72 : Code := match Try.f72.body with | some c => c | none => .skip
abbrev C72 (w0 : World) (M0 : Mem) : Ctx := ⟨24, w0, M0, []⟩
abbrev D72 (w0 : World) (M0 : Mem) (r : ((List Int) × Int)) : Post := Done Try.prog Try.f72 (C72 w0 M0) (R72 M0 r)
abbrev H72_j1 (w0 : World) (M0 : Mem) (r : ((List Int) × Int)) (Lj1 : Int → (List Int) → (List Int) → Option ((List Int) × Int)) : Prop := ∀ {M : Mem} {csj1_1_1_1_0_1_0_0_1_1_0_0_1_4 : List Value} {cj1_1_1_1_0_1_0_0_1_1_0_0_1_4 cx0 : Nat} {Aj1_1_1_1_0_1_0_0_1_1_0_0_1_4 Ax0 : Option Addr} (xj1_s13 : Int) (x0 xj1_1_1_1_0_1_0_0_1_1_0_0_1_4 : List Int) (_ : Lj1 xj1_s13 x0 xj1_1_1_1_0_1_0_0_1_1_0_0_1_4 = some r) (_ : SlAt (kint .i64) M Ax0 cx0 x0) (_ : Elems (kint .u8) M csj1_1_1_1_0_1_0_0_1_1_0_0_1_4 xj1_1_1_1_0_1_0_0_1_1_0_0_1_4), AG Try.prog c72 [1, 1, 1, 0, 1, 0] (D72 w0 M0 r) (C72 w0 M0) (env [(4, (.slice Aj1_1_1_1_0_1_0_0_1_1_0_0_1_4 xj1_1_1_1_0_1_0_0_1_1_0_0_1_4.length cj1_1_1_1_0_1_0_0_1_1_0_0_1_4)), (11, .slice Ax0 x0.length cx0), (12, .int .i64 (x0.length : Int)), (13, .int .i64 xj1_s13)]) M [.row (.slice Aj1_1_1_1_0_1_0_0_1_1_0_0_1_4 xj1_1_1_1_0_1_0_0_1_1_0_0_1_4.length cj1_1_1_1_0_1_0_0_1_1_0_0_1_4) 5 1 xj1_1_1_1_0_1_0_0_1_1_0_0_1_4.length csj1_1_1_1_0_1_0_0_1_1_0_0_1_4]
theorem f72_j1 {w0 : World} {M0 : Mem} {r : ((List Int) × Int)} : ∀ k, H72_j1 w0 M0 r (m72_j1 k) := by
  intro k; induction k with
  | zero => intro M csj1_1_1_1_0_1_0_0_1_1_0_0_1_4 cj1_1_1_1_0_1_0_0_1_1_0_0_1_4 cx0 Aj1_1_1_1_0_1_0_0_1_1_0_0_1_4 Ax0 xj1_s13 x0 xj1_1_1_1_0_1_0_0_1_1_0_0_1_4 hm; exact absurd hm (by simp [m72_j1])
  | succ k ihj1 =>
    intro M csj1_1_1_1_0_1_0_0_1_1_0_0_1_4 cj1_1_1_1_0_1_0_0_1_1_0_0_1_4 cx0 Aj1_1_1_1_0_1_0_0_1_1_0_0_1_4 Ax0 xj1_s13 x0 xj1_1_1_1_0_1_0_0_1_1_0_0_1_4 hm hj1_s11 ej1_1_1_1_0_1_0_0_1_1_0_0_1_4
    rw [m72_j1.eq_2] at hm
    refine gl [1, 1, 1, 0, 1, 0] plain_done ?_
    refine rs [1, 1, 1, 0, 1, 0, 0, 0] [.p 1] [(14, .bool (decide ((xj1_s13 : Int) < (x0.length : Int))))] [] ?_
    refine gi [1, 1, 1, 0, 1, 0, 0, 1, 0] hm (fun hm => ?_) fun hm => ?_
    · obtain ⟨ej1_1, bj1_2, fj1_3, kj1_4, Wj1_5, hm, haej1_1, hbej1_1, hmej1_1, hwej1_1, hrej1_1⟩ := ixo hm hj1_s11
      replace hwej1_1 := hwej1_1.trans hrej1_1
      refine rg [1, 1, 1, 0, 1, 0, 0, 1, 1, 0, 0, 0] ?_
      refine g_ix 15 1 haej1_1 hbej1_1 ?_
      refine g_lw 16 0 (.int .i64 ej1_1) hmej1_1 hwej1_1 ?_
      refine seg [.p 1] [(6, .int .i64 ej1_1)] [] ?_
      refine fin ?_
      refine rg [1, 1, 1, 0, 1, 0, 0, 1, 1, 0, 0, 1] ?_
      refine seg [.p 3] [(17, (.slice Aj1_1_1_1_0_1_0_0_1_1_0_0_1_4 xj1_1_1_1_0_1_0_0_1_1_0_0_1_4.length cj1_1_1_1_0_1_0_0_1_1_0_0_1_4)), (19, .int .u8 (IntKind.u8.wrap ej1_1))] [] ?_
      have ej1_6 : Elems (kint .u8) M [.int .u8 (IntKind.u8.wrap ej1_1)] ([IntKind.u8.wrap ej1_1] : List Int) := (elCons (d := (kint .u8)) (M := M) (a := [.int .u8 (IntKind.u8.wrap ej1_1)]) (x := IntKind.u8.wrap ej1_1) rfl elNil)
      refine g_bs 20 5 1 1 [.int .u8 (IntKind.u8.wrap ej1_1)] fun bj1_7 => ?_
      obtain ⟨hbj1_8, hm⟩ := gd2 hm
      refine g_apR 21 0 5 1 1 Aj1_1_1_1_0_1_0_0_1_1_0_0_1_4 cj1_1_1_1_0_1_0_0_1_1_0_0_1_4 (some ⟨bj1_7, 0, none⟩) 1 ej1_1_1_1_0_1_0_0_1_1_0_0_1_4 ej1_6 hbj1_8 fun Aj1_9 cj1_10 csj1_11 ej1_8 => ?_
      refine seg [.p 1] [(4, (.slice Aj1_9 ((xj1_1_1_1_0_1_0_0_1_1_0_0_1_4 ++ ([IntKind.u8.wrap ej1_1] : List Int)).length) cj1_10))] [] ?_
      refine fin ?_
      refine rs [1, 1, 1, 0, 1, 0, 0, 1, 1, 1] [.p 2] [(13, .int .i64 (IntKind.i64.wrap (xj1_s13 + 1)))] [] ?_
      exact to [0] (@ihj1 M csj1_11 cj1_10 cx0 Aj1_9 Ax0 _ _ _ hm hj1_s11 ej1_8)
    · refine rs [1, 1, 1, 1, 0] [.p 3] [(2, (.slice Aj1_1_1_1_0_1_0_0_1_1_0_0_1_4 xj1_1_1_1_0_1_0_0_1_1_0_0_1_4.length cj1_1_1_1_0_1_0_0_1_1_0_0_1_4)), (3, .nilIface)] [] ?_
      refine fzA 0 5 Aj1_1_1_1_0_1_0_0_1_1_0_0_1_4 cj1_1_1_1_0_1_0_0_1_1_0_0_1_4 ej1_1_1_1_0_1_0_0_1_1_0_0_1_4 fun Mhj1_12 lhj1_12 hj1_12 => ?_
      obtain rfl := Option.some.inj hm
      exact rt (v := .tuple #[.slice Aj1_1_1_1_0_1_0_0_1_1_0_0_1_4 xj1_1_1_1_0_1_0_0_1_1_0_0_1_4.length cj1_1_1_1_0_1_0_0_1_1_0_0_1_4, .nilIface]) [] ⟨Aj1_1_1_1_0_1_0_0_1_1_0_0_1_4, cj1_1_1_1_0_1_0_0_1_1_0_0_1_4, rfl, rfl, hj1_12⟩
theorem f72_ok {M : Mem} {Ax0 : Option Addr} {cx0 : Nat} (x0 : List Int) (r : ((List Int) × Int)) (hm : m72 x0 = some r) (hx0 : SlAt (kint .i64) M Ax0 cx0 x0) : FnOk Try.prog 72 [.slice Ax0 x0.length cx0] M [] (R72 M r) := by
  refine intro_ (c := c72) 24 Try.func72 fun w => ?_
  unfold m72 at hm
  refine rs [0] [.p 2] [] [] ?_
  obtain ⟨t0_1, ht0_1, hm⟩ := bind_some hm
  refine rg [1, 0, 0] ?_
  refine seg [.p 1] [(7, .slice Ax0 x0.length cx0)] [] ?_
  refine g_call0 8 (f78_ok _ _ ht0_1 hx0) ?_
  rintro _ _ _ ⟨rfl, rfl, rfl⟩ -
  refine seg [.p 1] [(9, .bool (!t0_1))] [] ?_
  refine fin ?_
  refine gi [1, 0, 1] hm (fun hm => ?_) fun hm => ?_
  · refine rs [1, 0, 1, 0, 0] [.p 3] [(2, .slice none 0 0), (3, errV 39 1)] [] ?_
    obtain rfl := Option.some.inj hm
    exact rt (v := .tuple #[.slice none 0 0, errV 39 1]) [] ⟨none, 0, rfl, rfl, slNil⟩
  · refine rs [1, 1, 0] [.p 1] [(4, .slice none 0 0)] [] ?_
    refine rs [1, 1, 1, 0, 0] [.p 3] [(11, .slice Ax0 x0.length cx0), (12, .int .i64 (x0.length : Int)), (13, .int .i64 0)] [] ?_
    refine nlA 5 1 ?_
    exact to [0] (@f72_j1 _ _ _ FUEL M [] 0 cx0 none Ax0 _ _ _ hm hx0 (elNil (d := (kint .u8)) (M := M)))

/-! ## (heartwood/raft.stepper).propose -/
/-- (heartwood/raft.stepper).propose: what is left behind a call. -/
abbrev R37 (M : Mem) (bx0 : Nat) (csx0 : List Value) (Ax0_15 : Option Addr) (x0 : S85) (cx0_15 : Nat) (rcx0_15 : List Value) (r : S85) : Value → Mem → List Res → Prop := fun v M' H' => ∃ (q0 : List Value) (w0_15 : Option Addr) (y0_15 : Nat) (z0_15 : List Value), .tuple #[] = v ∧ H' = [.blk bx0 q0 86, .row (.slice w0_15 r.f1.length y0_15) 47 17 r.f1.length z0_15] ∧ (oS85 w0_15 y0_15).rep M' q0 r ∧ Elems kS46 M' z0_15 r.f1
noncomputable def c37 : Code := match Try.f37.body with | some c => c | none => .skip
theorem f37_ok {M : Mem} {bx0 : Nat} {csx0 : List Value} {Ax0_15 : Option Addr} {cx0_15 : Nat} {rcx0_15 : List Value} {Ax2 : Option Addr} {cx2 : Nat} (x0 : S85) (x1 : Int) (x2 : List Int) (r : S85) (hm : m37 x0 x1 x2 = some r) (hx0 : (oS85 Ax0_15 cx0_15).rep M csx0 x0) (ex0_15 : Elems kS46 M rcx0_15 x0.f1) (hx2 : SlAt (kint .u8) M Ax2 cx2 x2) : FnOk Try.prog 37 [.pointer (some ⟨bx0, 0, none⟩), .int .i64 x1, .slice Ax2 x2.length cx2] M [.blk bx0 csx0 86, .row (.slice Ax0_15 x0.f1.length cx0_15) 47 17 x0.f1.length rcx0_15] (R37 M bx0 csx0 Ax0_15 x0 cx0_15 rcx0_15 r) := by
  obtain ⟨Ahx0_7, chx0_7, Ahx0_8, chx0_8, Ahx0_10, chx0_10, rfl, hx0_7, hx0_8, hx0_10, hx0_11, hx0_12⟩ := oS85_open hx0
  refine intro_ (c := c37) 21 Try.func37 fun w => ?_
  unfold m37 at hm
  obtain ⟨t0_1, ht0_1, hm⟩ := bind_some hm
  refine rg [0] ?_
  refine seg [.p 3] [(6, .pointer (some ⟨bx0, 0, none⟩)), (7, .int .i64 x1), (8, .slice Ax2 x2.length cx2)] [] ?_
  refine g_call 9 [0, 1] (f67_ok (bx0 := bx0) (Ax0_15 := Ax0_15) (cx0_15 := cx0_15) _ _ _ _ ht0_1 (oS85_mk (cs := (cS85 x0 Ahx0_7 chx0_7 Ahx0_8 chx0_8 Ahx0_10 chx0_10 Ax0_15 cx0_15)) x0 rfl hx0_7 hx0_8 hx0_10 hx0_11 hx0_12) ex0_15 hx2) ?_
  rintro _ M0_7 _ ⟨cs0_2, A0_4, c0_5, rc0_6, rfl, rfl, h0_3, h0_7⟩ hM0_7
  obtain ⟨Ah0_3_7, ch0_3_7, Ah0_3_8, ch0_3_8, Ah0_3_10, ch0_3_10, rfl, h0_3_7, h0_3_8, h0_3_10, h0_3_11, h0_3_12⟩ := oS85_open h0_3
  refine fin ?_
  obtain ⟨t0_8, ht0_8, hm⟩ := bind_some hm
  refine rg [1, 0] ?_
  refine seg [.p 2] [(10, .pointer (some ⟨bx0, 0, none⟩)), (11, .pointer (some ⟨bx0, 0, none⟩))] [] ?_
  refine g_call 12 [0, 1] (f36_ok (bx0 := bx0) (Ax0_15 := A0_4) (cx0_15 := c0_5) _ _ ht0_8 (oS85_mk (cs := (cS85 t0_1 Ah0_3_7 ch0_3_7 Ah0_3_8 ch0_3_8 Ah0_3_10 ch0_3_10 A0_4 c0_5)) t0_1 rfl h0_3_7 h0_3_8 h0_3_10 h0_3_11 h0_3_12) h0_7) ?_
  rintro _ _ _ ⟨rfl, rfl, rfl⟩ -
  refine seg [.p 2, .s 0] [] [(0, .blk bx0 (cS85 ({ t0_1 with f2 := t0_8 }) Ah0_3_7 ch0_3_7 Ah0_3_8 ch0_3_8 Ah0_3_10 ch0_3_10 A0_4 c0_5) 86)] ?_
  refine fin ?_
  obtain ⟨t0_9, ht0_9, hm⟩ := bind_some hm
  refine rg [1, 1, 0] ?_
  refine seg [.p 1] [(15, .pointer (some ⟨bx0, 0, none⟩))] [] ?_
  refine g_call 16 [0, 1] (f68_ok (bx0 := bx0) (Ax0_15 := A0_4) (cx0_15 := c0_5) _ _ ht0_9 (oS85_mk (cs := (cS85 ({ t0_1 with f2 := t0_8 }) Ah0_3_7 ch0_3_7 Ah0_3_8 ch0_3_8 Ah0_3_10 ch0_3_10 A0_4 c0_5)) ({ t0_1 with f2 := t0_8 }) rfl h0_3_7 h0_3_8 h0_3_10 h0_3_11 h0_3_12) h0_7) ?_
  rintro _ M0_15 _ ⟨cs0_10, A0_12, c0_13, rc0_14, rfl, rfl, h0_11, h0_15⟩ hM0_15
  obtain ⟨Ah0_11_7, ch0_11_7, Ah0_11_8, ch0_11_8, Ah0_11_10, ch0_11_10, rfl, h0_11_7, h0_11_8, h0_11_10, h0_11_11, h0_11_12⟩ := oS85_open h0_11
  refine fin ?_
  obtain ⟨t0_16, ht0_16, hm⟩ := bind_some hm
  refine rg [1, 1, 1] ?_
  refine seg [.p 3] [(17, .pointer (some ⟨bx0, 0, none⟩)), (19, .func (.func 55) #[.pointer (some ⟨bx0, 0, none⟩)] #[])] [] ?_
  refine g_call 20 [0, 1] (f54_ok (bx0 := bx0) (Ax0_15 := A0_12) (cx0_15 := c0_13) _ _ ht0_16 (oS85_mk (cs := (cS85 t0_9 Ah0_11_7 ch0_11_7 Ah0_11_8 ch0_11_8 Ah0_11_10 ch0_11_10 A0_12 c0_13)) t0_9 rfl h0_11_7 h0_11_8 h0_11_10 h0_11_11 h0_11_12) h0_15) ?_
  rintro _ M0_22 _ ⟨cs0_17, A0_19, c0_20, rc0_21, rfl, rfl, h0_18, h0_22⟩ hM0_22
  obtain ⟨Ah0_18_7, ch0_18_7, Ah0_18_8, ch0_18_8, Ah0_18_10, ch0_18_10, rfl, h0_18_7, h0_18_8, h0_18_10, h0_18_11, h0_18_12⟩ := oS85_open h0_18
  refine finE ?_
  obtain rfl := Option.some.inj hm
  exact re (v := .tuple #[]) [0, 1] ⟨(cS85 t0_16 Ah0_18_7 ch0_18_7 Ah0_18_8 ch0_18_8 Ah0_18_10 ch0_18_10 A0_19 c0_20), A0_19, c0_20, rc0_21, rfl, rfl, (oS85_mk (cs := (cS85 t0_16 Ah0_18_7 ch0_18_7 Ah0_18_8 ch0_18_8 Ah0_18_10 ch0_18_10 A0_19 c0_20)) t0_16 rfl h0_18_7 h0_18_8 h0_18_10 h0_18_11 h0_18_12), h0_22⟩

/-! ## (heartwood/raft.stepper).change -/
/-- (heartwood/raft.stepper).change: what is left behind a call. -/
abbrev R38 (M : Mem) (bx0 : Nat) (csx0 : List Value) (Ax0_15 : Option Addr) (x0 : S85) (cx0_15 : Nat) (rcx0_15 : List Value) (r : S85) : Value → Mem → List Res → Prop := fun v M' H' => ∃ (q0 : List Value) (w0_15 : Option Addr) (y0_15 : Nat) (z0_15 : List Value), .tuple #[] = v ∧ H' = [.blk bx0 q0 86, .row (.slice w0_15 r.f1.length y0_15) 47 17 r.f1.length z0_15] ∧ (oS85 w0_15 y0_15).rep M' q0 r ∧ Elems kS46 M' z0_15 r.f1
noncomputable def c38 : Code := match Try.f38.body with | some c => c | none => .skip
abbrev C38 (w0 : World) (M0 : Mem) (bx0 : Nat) (x0 : S85) (Ahx0_7 : Option Addr) (chx0_7 : Nat) (Ahx0_8 : Option Addr) (chx0_8 : Nat) (Ahx0_10 : Option Addr) (chx0_10 : Nat) (Ax0_15 : Option Addr) (cx0_15 : Nat) (rcx0_15 : List Value) : Ctx := ⟨103, w0, M0, [.blk bx0 (cS85 x0 Ahx0_7 chx0_7 Ahx0_8 chx0_8 Ahx0_10 chx0_10 Ax0_15 cx0_15) 86, .row (.slice Ax0_15 x0.f1.length cx0_15) 47 17 x0.f1.length rcx0_15]⟩
abbrev D38 (w0 : World) (M0 : Mem) (r : S85) (bx0 : Nat) (x0 : S85) (Ahx0_7 : Option Addr) (chx0_7 : Nat) (Ahx0_8 : Option Addr) (chx0_8 : Nat) (Ahx0_10 : Option Addr) (chx0_10 : Nat) (Ax0_15 : Option Addr) (cx0_15 : Nat) (rcx0_15 : List Value) : Post := Done Try.prog Try.f38 (C38 w0 M0 bx0 x0 Ahx0_7 chx0_7 Ahx0_8 chx0_8 Ahx0_10 chx0_10 Ax0_15 cx0_15 rcx0_15) (R38 M0 bx0 (cS85 x0 Ahx0_7 chx0_7 Ahx0_8 chx0_8 Ahx0_10 chx0_10 Ax0_15 cx0_15) Ax0_15 x0 cx0_15 rcx0_15 r)
abbrev H38_j2 (w0 : World) (M0 : Mem) (r : S85) (Lj2 : ((List Int) × Int) → Int → (List Int) → (List Int) → (List Int) → (List Int) → S85 → Option S85) : Prop := ∀ {M : Mem} {rcx0_15 : List Value} {bx0 c0_3 chx0_10 chx0_7 chx0_8 cj1_3 cx0_15 cx1 : Nat} {A0_2 Ahx0_10 Ahx0_7 Ahx0_8 Aj1_2 Ax0_15 Ax1 : Option Addr} (tj1_1 : ((List Int) × Int)) (xj2_s78 : Int) (t0_1 x1 xj2_p0_l11 xj2_p0_l12 : List Int) (x0 : S85) (_ : Lj2 tj1_1 xj2_s78 t0_1 x1 xj2_p0_l11 xj2_p0_l12 x0 = some r) (_ : SlAt (kint .i64) M A0_2 c0_3 t0_1) (_ : SlAt (kint .u8) M Aj1_2 cj1_3 tj1_1.1) (_ : SlAt (kint .i64) M Ax1 cx1 x1) (_ : SlAt (kint .i64) M Ahx0_7 chx0_7 x0.f0.f5.f0.f2) (_ : SlAt kS80 M Ahx0_8 chx0_8 x0.f0.f5.f1) (_ : SlAt (kint .i64) M Ahx0_10 chx0_10 x0.f0.f7) (_ : xj2_p0_l11.length = 8) (_ : xj2_p0_l12.length = 8) (_ : Elems kS46 M rcx0_15 x0.f1), AG Try.prog c38 [1, 1, 1, 1, 1, 1, 0, 1, 0] (D38 w0 M0 r bx0 x0 Ahx0_7 chx0_7 Ahx0_8 chx0_8 Ahx0_10 chx0_10 Ax0_15 cx0_15 rcx0_15) (C38 w0 M0 bx0 x0 Ahx0_7 chx0_7 Ahx0_8 chx0_8 Ahx0_10 chx0_10 Ax0_15 cx0_15 rcx0_15) (env [(0, .pointer (some ⟨bx0, 0, none⟩)), (4, .pointer (some ⟨bx0, 0, none⟩)), (5, .slice A0_2 t0_1.length c0_3), (8, .slice Aj1_2 tj1_1.1.length cj1_3), (76, .slice Ax1 x1.length cx1), (77, .int .i64 (x1.length : Int)), (78, .int .i64 xj2_s78)]) M [.blk bx0 (cS85 ({ x0 with f0 := { x0.f0 with f8 := xj2_p0_l11, f9 := xj2_p0_l12 } }) Ahx0_7 chx0_7 Ahx0_8 chx0_8 Ahx0_10 chx0_10 Ax0_15 cx0_15) 86, .row (.slice Ax0_15 x0.f1.length cx0_15) 47 17 x0.f1.length rcx0_15]
theorem f38_j3 {w0 : World} {M0 : Mem} {r : S85} {Lj2 : ((List Int) × Int) → Int → (List Int) → (List Int) → (List Int) → (List Int) → S85 → Option S85} (ihj2 : H38_j2 w0 M0 r Lj2) : ∀ {M : Mem} {rcx0_15 : List Value} {bx0 c0_3 chx0_10 chx0_7 chx0_8 cj1_3 cx0_15 cx1 : Nat} {A0_2 Ahx0_10 Ahx0_7 Ahx0_8 Aj1_2 Ax0_15 Ax1 : Option Addr} (tj1_1 : ((List Int) × Int)) (xj3_s78 : Int) (t0_1 x1 xj3_p0_l11 xj3_p0_l12 : List Int) (x0 : S85) (_ : m38_j3 Lj2 tj1_1 xj3_s78 t0_1 x1 xj3_p0_l11 xj3_p0_l12 x0 = some r) (_ : SlAt (kint .i64) M A0_2 c0_3 t0_1) (_ : SlAt (kint .u8) M Aj1_2 cj1_3 tj1_1.1) (_ : SlAt (kint .i64) M Ax1 cx1 x1) (_ : SlAt (kint .i64) M Ahx0_7 chx0_7 x0.f0.f5.f0.f2) (_ : SlAt kS80 M Ahx0_8 chx0_8 x0.f0.f5.f1) (_ : SlAt (kint .i64) M Ahx0_10 chx0_10 x0.f0.f7) (_ : xj3_p0_l11.length = 8) (_ : xj3_p0_l12.length = 8) (_ : Elems kS46 M rcx0_15 x0.f1), AG Try.prog c38 [1, 1, 1, 1, 1, 1, 0, 1, 0, 0, 1, 1, 1] (D38 w0 M0 r bx0 x0 Ahx0_7 chx0_7 Ahx0_8 chx0_8 Ahx0_10 chx0_10 Ax0_15 cx0_15 rcx0_15) (C38 w0 M0 bx0 x0 Ahx0_7 chx0_7 Ahx0_8 chx0_8 Ahx0_10 chx0_10 Ax0_15 cx0_15 rcx0_15) (env [(0, .pointer (some ⟨bx0, 0, none⟩)), (4, .pointer (some ⟨bx0, 0, none⟩)), (5, .slice A0_2 t0_1.length c0_3), (8, .slice Aj1_2 tj1_1.1.length cj1_3), (76, .slice Ax1 x1.length cx1), (77, .int .i64 (x1.length : Int)), (78, .int .i64 xj3_s78)]) M [.blk bx0 (cS85 ({ x0 with f0 := { x0.f0 with f8 := xj3_p0_l11, f9 := xj3_p0_l12 } }) Ahx0_7 chx0_7 Ahx0_8 chx0_8 Ahx0_10 chx0_10 Ax0_15 cx0_15) 86, .row (.slice Ax0_15 x0.f1.length cx0_15) 47 17 x0.f1.length rcx0_15] := by
  intro M rcx0_15 bx0 c0_3 chx0_10 chx0_7 chx0_8 cj1_3 cx0_15 cx1 A0_2 Ahx0_10 Ahx0_7 Ahx0_8 Aj1_2 Ax0_15 Ax1 tj1_1 xj3_s78 t0_1 x1 xj3_p0_l11 xj3_p0_l12 x0 hm hj3_s5 hj3_s8 hj3_s76 hj3_p0_l7 hj3_p0_l8 hj3_p0_l10 lj3_p0_l11 lj3_p0_l12 ej3_p0_15; unfold m38_j3 at hm
  refine rs [1, 1, 1, 1, 1, 1, 0, 1, 0, 0, 1, 1, 1] [.p 2] [(78, .int .i64 (IntKind.i64.wrap (xj3_s78 + 1)))] [] ?_
  exact to [0, 1] (@ihj2 M rcx0_15 bx0 c0_3 chx0_10 chx0_7 chx0_8 cj1_3 cx0_15 cx1 A0_2 Ahx0_10 Ahx0_7 Ahx0_8 Aj1_2 Ax0_15 Ax1 _ _ _ _ _ _ _ hm hj3_s5 hj3_s8 hj3_s76 hj3_p0_l7 hj3_p0_l8 hj3_p0_l10 lj3_p0_l11 lj3_p0_l12 ej3_p0_15)
theorem f38_j2 {w0 : World} {M0 : Mem} {r : S85} : ∀ k, H38_j2 w0 M0 r (m38_j2 k) := by
  intro k; induction k with
  | zero => intro M rcx0_15 bx0 c0_3 chx0_10 chx0_7 chx0_8 cj1_3 cx0_15 cx1 A0_2 Ahx0_10 Ahx0_7 Ahx0_8 Aj1_2 Ax0_15 Ax1 tj1_1 xj2_s78 t0_1 x1 xj2_p0_l11 xj2_p0_l12 x0 hm; exact absurd hm (by simp [m38_j2])
  | succ k ihj2 =>
    intro M rcx0_15 bx0 c0_3 chx0_10 chx0_7 chx0_8 cj1_3 cx0_15 cx1 A0_2 Ahx0_10 Ahx0_7 Ahx0_8 Aj1_2 Ax0_15 Ax1 tj1_1 xj2_s78 t0_1 x1 xj2_p0_l11 xj2_p0_l12 x0 hm hj2_s5 hj2_s8 hj2_s76 hj2_p0_l7 hj2_p0_l8 hj2_p0_l10 lj2_p0_l11 lj2_p0_l12 ej2_p0_15
    rw [m38_j2.eq_2] at hm
    refine gl [1, 1, 1, 1, 1, 1, 0, 1, 0] plain_done ?_
    refine rs [1, 1, 1, 1, 1, 1, 0, 1, 0, 0, 0] [.p 1] [(79, .bool (decide ((xj2_s78 : Int) < (x1.length : Int))))] [] ?_
    refine gi [1, 1, 1, 1, 1, 1, 0, 1, 0, 0, 1, 0] hm (fun hm => ?_) fun hm => ?_
    · obtain ⟨ej2_1, bj2_2, fj2_3, kj2_4, Wj2_5, hm, haej2_1, hbej2_1, hmej2_1, hwej2_1, hrej2_1⟩ := ixo hm hj2_s76
      replace hwej2_1 := hwej2_1.trans hrej2_1
      refine rg [1, 1, 1, 1, 1, 1, 0, 1, 0, 0, 1, 1, 0, 0, 0] ?_
      refine g_ix 80 1 haej2_1 hbej2_1 ?_
      refine g_lw 81 0 (.int .i64 ej2_1) hmej2_1 hwej2_1 ?_
      refine seg [.p 1] [(10, .int .i64 ej2_1)] [] ?_
      refine fin ?_
      obtain ⟨tj2_6, htj2_6, hm⟩ := bind_some hm
      refine rg [1, 1, 1, 1, 1, 1, 0, 1, 0, 0, 1, 1, 0, 0, 1, 0] ?_
      refine seg [.p 2] [(82, .slice A0_2 t0_1.length c0_3), (83, .int .i64 ej2_1)] [] ?_
      refine g_call0 84 (f56_ok _ _ _ htj2_6 hj2_s5) ?_
      rintro _ _ _ ⟨rfl, rfl, rfl⟩ -
      refine seg [.p 1] [(85, .bool (!tj2_6))] [] ?_
      refine fin ?_
      refine gi [1, 1, 1, 1, 1, 1, 0, 1, 0, 0, 1, 1, 0, 0, 1, 1] hm (fun hm => ?_) fun hm => ?_
      · obtain ⟨tj2_7, htj2_7, hm⟩ := bind_some hm
        refine rgD [1, 1, 1, 1, 1, 1, 0, 1, 0, 0, 1, 1, 0, 0, 1, 1, 0] (PT.of [0, 4, 8, 12, 16, 28, 32, 44, 48, 23, 24, 36, 43, 52, 59] .dn) [] [] mixed plain_done ?_
        refine seg [.p 9] [(87, .int .i64 ej2_1), (89, .int .i64 ej2_1), (90, .pointer (some ⟨bx0, 0, none⟩)), (94, .pointer (some ⟨bx0, 19, none⟩)), (97, .pointer (some ⟨bx0, 11, none⟩))] [] ?_
        refine g_callK 91 [0, 1] (f36_ok (bx0 := bx0) (Ax0_15 := Ax0_15) (cx0_15 := cx0_15) _ _ htj2_7 (oS85_mk (cs := (cS85 ({ x0 with f0 := { x0.f0 with f8 := xj2_p0_l11, f9 := xj2_p0_l12 } }) Ahx0_7 chx0_7 Ahx0_8 chx0_8 Ahx0_10 chx0_10 Ax0_15 cx0_15)) ({ x0 with f0 := { x0.f0 with f8 := xj2_p0_l11, f9 := xj2_p0_l12 } }) rfl hj2_p0_l7 hj2_p0_l8 hj2_p0_l10 lj2_p0_l11 lj2_p0_l12) ej2_p0_15) (by rintro _ _ _ ⟨rfl, rfl, rfl⟩; rfl) ?_
        rintro _ _ _ ⟨rfl, rfl, rfl⟩ -
        obtain ⟨hbj2_8, hm⟩ := gd2 hm
        refine seg [.p 1] [(92, .int .i64 (IntKind.i64.wrap (tj2_7 + 1)))] [] ?_
        refine g_ixA 95 bx0 19 8 1 hbj2_8 ?_
        have nj2_9 : (xj2_p0_l12.set ej2_1.toNat 0).length = 8 := len_set lj2_p0_l12
        refine g_sA 0 19 8 .i64 0 (.blk bx0 (cS85 ({ x0 with f0 := { x0.f0 with f8 := xj2_p0_l11, f9 := (xj2_p0_l12.set ej2_1.toNat 0) } }) Ahx0_7 chx0_7 Ahx0_8 chx0_8 Ahx0_10 chx0_10 Ax0_15 cx0_15) 86) lj2_p0_l12 hbj2_8 ?_
        obtain ⟨hbj2_10, hm⟩ := gd2 hm
        refine g_ixA 98 bx0 11 8 1 hbj2_10 ?_
        have nj2_11 : (xj2_p0_l11.set ej2_1.toNat (IntKind.i64.wrap (tj2_7 + 1))).length = 8 := len_set lj2_p0_l11
        refine g_sA 0 11 8 .i64 (IntKind.i64.wrap (tj2_7 + 1)) (.blk bx0 (cS85 ({ x0 with f0 := { x0.f0 with f8 := (xj2_p0_l11.set ej2_1.toNat (IntKind.i64.wrap (tj2_7 + 1))), f9 := (xj2_p0_l12.set ej2_1.toNat 0) } }) Ahx0_7 chx0_7 Ahx0_8 chx0_8 Ahx0_10 chx0_10 Ax0_15 cx0_15) 86) lj2_p0_l11 hbj2_10 ?_
        refine fin ?_
        exact to [0, 1] (@f38_j3 _ _ _ _ ihj2 M rcx0_15 bx0 c0_3 chx0_10 chx0_7 chx0_8 cj1_3 cx0_15 cx1 A0_2 Ahx0_10 Ahx0_7 Ahx0_8 Aj1_2 Ax0_15 Ax1 _ _ _ _ _ _ _ hm hj2_s5 hj2_s8 hj2_s76 hj2_p0_l7 hj2_p0_l8 hj2_p0_l10 nj2_11 nj2_9 ej2_p0_15)
      · exact to [0, 1] (@f38_j3 _ _ _ _ ihj2 M rcx0_15 bx0 c0_3 chx0_10 chx0_7 chx0_8 cj1_3 cx0_15 cx1 A0_2 Ahx0_10 Ahx0_7 Ahx0_8 Aj1_2 Ax0_15 Ax1 _ _ _ _ _ _ _ hm hj2_s5 hj2_s8 hj2_s76 hj2_p0_l7 hj2_p0_l8 hj2_p0_l10 lj2_p0_l11 lj2_p0_l12 ej2_p0_15)
    · obtain ⟨tj2_12, htj2_12, hm⟩ := bind_some hm
      refine rg [1, 1, 1, 1, 1, 1, 1] ?_
      refine seg [.p 2] [(100, .pointer (some ⟨bx0, 0, none⟩)), (101, .slice Aj1_2 tj1_1.1.length cj1_3)] [] ?_
      refine g_call 102 [0, 1] (f37_ok (bx0 := bx0) (Ax0_15 := Ax0_15) (cx0_15 := cx0_15) _ _ _ _ htj2_12 (oS85_mk (cs := (cS85 ({ x0 with f0 := { x0.f0 with f8 := xj2_p0_l11, f9 := xj2_p0_l12 } }) Ahx0_7 chx0_7 Ahx0_8 chx0_8 Ahx0_10 chx0_10 Ax0_15 cx0_15)) ({ x0 with f0 := { x0.f0 with f8 := xj2_p0_l11, f9 := xj2_p0_l12 } }) rfl hj2_p0_l7 hj2_p0_l8 hj2_p0_l10 lj2_p0_l11 lj2_p0_l12) ej2_p0_15 hj2_s8) ?_
      rintro _ Mj2_18 _ ⟨csj2_13, Aj2_15, cj2_16, rcj2_17, rfl, rfl, hj2_14, hj2_18⟩ hMj2_18
      obtain ⟨Ahj2_14_7, chj2_14_7, Ahj2_14_8, chj2_14_8, Ahj2_14_10, chj2_14_10, rfl, hj2_14_7, hj2_14_8, hj2_14_10, hj2_14_11, hj2_14_12⟩ := oS85_open hj2_14
      refine finE ?_
      obtain rfl := Option.some.inj hm
      exact re (v := .tuple #[]) [0, 1] ⟨(cS85 tj2_12 Ahj2_14_7 chj2_14_7 Ahj2_14_8 chj2_14_8 Ahj2_14_10 chj2_14_10 Aj2_15 cj2_16), Aj2_15, cj2_16, rcj2_17, rfl, rfl, (oS85_mk (cs := (cS85 tj2_12 Ahj2_14_7 chj2_14_7 Ahj2_14_8 chj2_14_8 Ahj2_14_10 chj2_14_10 Aj2_15 cj2_16)) tj2_12 rfl hj2_14_7 hj2_14_8 hj2_14_10 hj2_14_11 hj2_14_12), hj2_18⟩
theorem f38_j1 {w0 : World} {M0 : Mem} {r : S85} : ∀ {M : Mem} {rcx0_15 : List Value} {bx0 c0_3 chx0_10 chx0_7 chx0_8 cx0_15 cx1 : Nat} {A0_2 Ahx0_10 Ahx0_7 Ahx0_8 Ax0_15 Ax1 : Option Addr} (xj1_s68 : Bool) (t0_1 x1 : List Int) (x0 : S85) (_ : m38_j1 xj1_s68 t0_1 x1 x0 = some r) (_ : SlAt (kint .i64) M Ax1 cx1 x1) (_ : SlAt (kint .i64) M A0_2 c0_3 t0_1) (_ : SlAt (kint .i64) M Ahx0_7 chx0_7 x0.f0.f5.f0.f2) (_ : SlAt kS80 M Ahx0_8 chx0_8 x0.f0.f5.f1) (_ : SlAt (kint .i64) M Ahx0_10 chx0_10 x0.f0.f7) (_ : x0.f0.f8.length = 8) (_ : x0.f0.f9.length = 8) (_ : Elems kS46 M rcx0_15 x0.f1), AG Try.prog c38 [1, 1, 1, 0, 1] (D38 w0 M0 r bx0 x0 Ahx0_7 chx0_7 Ahx0_8 chx0_8 Ahx0_10 chx0_10 Ax0_15 cx0_15 rcx0_15) (C38 w0 M0 bx0 x0 Ahx0_7 chx0_7 Ahx0_8 chx0_8 Ahx0_10 chx0_10 Ax0_15 cx0_15 rcx0_15) (env [(0, .pointer (some ⟨bx0, 0, none⟩)), (1, .slice Ax1 x1.length cx1), (4, .pointer (some ⟨bx0, 0, none⟩)), (5, .slice A0_2 t0_1.length c0_3), (68, .bool xj1_s68)]) M [.blk bx0 (cS85 x0 Ahx0_7 chx0_7 Ahx0_8 chx0_8 Ahx0_10 chx0_10 Ax0_15 cx0_15) 86, .row (.slice Ax0_15 x0.f1.length cx0_15) 47 17 x0.f1.length rcx0_15] := by
  intro M rcx0_15 bx0 c0_3 chx0_10 chx0_7 chx0_8 cx0_15 cx1 A0_2 Ahx0_10 Ahx0_7 Ahx0_8 Ax0_15 Ax1 xj1_s68 t0_1 x1 x0 hm hj1_s1 hj1_s5 hj1_p0_l7 hj1_p0_l8 hj1_p0_l10 lj1_p0_l11 lj1_p0_l12 ej1_p0_15; unfold m38_j1 at hm
  refine gi [1, 1, 1, 0, 1] hm (fun hm => ?_) fun hm => ?_
  · obtain rfl := Option.some.inj hm
    exact rt (v := .tuple #[]) [0, 1] ⟨(cS85 x0 Ahx0_7 chx0_7 Ahx0_8 chx0_8 Ahx0_10 chx0_10 Ax0_15 cx0_15), Ax0_15, cx0_15, rcx0_15, rfl, rfl, (oS85_mk (cs := (cS85 x0 Ahx0_7 chx0_7 Ahx0_8 chx0_8 Ahx0_10 chx0_10 Ax0_15 cx0_15)) x0 rfl hj1_p0_l7 hj1_p0_l8 hj1_p0_l10 lj1_p0_l11 lj1_p0_l12), ej1_p0_15⟩
  · obtain ⟨tj1_1, htj1_1, hm⟩ := bind_some hm
    refine rg [1, 1, 1, 1, 0] ?_
    refine seg [.p 1] [(70, .slice Ax1 x1.length cx1)] [] ?_
    refine g_call0 71 (f72_ok _ _ htj1_1 hj1_s1) ?_
    rintro _ Mj1_4 _ ⟨Aj1_2, cj1_3, rfl, rfl, hj1_4⟩ hMj1_4
    refine seg [.p 5] [(7, errV 39 tj1_1.2), (8, .slice Aj1_2 tj1_1.1.length cj1_3)] [] ?_
    refine fin ?_
    refine rs [1, 1, 1, 1, 1, 0, 0] [.p 1, .e 39 tj1_1.2] [(75, .bool ((tj1_1.2 : Int) != 0))] [] ?_
    refine gi [1, 1, 1, 1, 1, 0, 1] hm (fun hm => ?_) fun hm => ?_
    · obtain rfl := Option.some.inj hm
      replace hj1_p0_l7 := (hj1_p0_l7.mono hMj1_4)
      replace hj1_p0_l8 := (hj1_p0_l8.mono hMj1_4)
      replace hj1_p0_l10 := (hj1_p0_l10.mono hMj1_4)
      replace ej1_p0_15 := (ej1_p0_15.mono hMj1_4)
      exact rt (v := .tuple #[]) [0, 1] ⟨(cS85 x0 Ahx0_7 chx0_7 Ahx0_8 chx0_8 Ahx0_10 chx0_10 Ax0_15 cx0_15), Ax0_15, cx0_15, rcx0_15, rfl, rfl, (oS85_mk (cs := (cS85 x0 Ahx0_7 chx0_7 Ahx0_8 chx0_8 Ahx0_10 chx0_10 Ax0_15 cx0_15)) x0 rfl hj1_p0_l7 hj1_p0_l8 hj1_p0_l10 lj1_p0_l11 lj1_p0_l12), ej1_p0_15⟩
    · refine rs [1, 1, 1, 1, 1, 1, 0, 0] [.p 3] [(76, .slice Ax1 x1.length cx1), (77, .int .i64 (x1.length : Int)), (78, .int .i64 0)] [] ?_
      replace hj1_s5 := (hj1_s5.mono hMj1_4)
      replace hj1_s1 := (hj1_s1.mono hMj1_4)
      replace hj1_p0_l7 := (hj1_p0_l7.mono hMj1_4)
      replace hj1_p0_l8 := (hj1_p0_l8.mono hMj1_4)
      replace hj1_p0_l10 := (hj1_p0_l10.mono hMj1_4)
      replace ej1_p0_15 := (ej1_p0_15.mono hMj1_4)
      exact to [0, 1] (@f38_j2 _ _ _ FUEL Mj1_4 rcx0_15 bx0 c0_3 chx0_10 chx0_7 chx0_8 cj1_3 cx0_15 cx1 A0_2 Ahx0_10 Ahx0_7 Ahx0_8 Aj1_2 Ax0_15 Ax1 _ _ _ _ _ _ _ hm hj1_s5 hj1_4 hj1_s1 hj1_p0_l7 hj1_p0_l8 hj1_p0_l10 lj1_p0_l11 lj1_p0_l12 ej1_p0_15)
theorem f38_ok {M : Mem} {bx0 : Nat} {csx0 : List Value} {Ax0_15 : Option Addr} {cx0_15 : Nat} {rcx0_15 : List Value} {Ax1 : Option Addr} {cx1 : Nat} (x0 : S85) (x1 : List Int) (r : S85) (hm : m38 x0 x1 = some r) (hx0 : (oS85 Ax0_15 cx0_15).rep M csx0 x0) (ex0_15 : Elems kS46 M rcx0_15 x0.f1) (hx1 : SlAt (kint .i64) M Ax1 cx1 x1) : FnOk Try.prog 38 [.pointer (some ⟨bx0, 0, none⟩), .slice Ax1 x1.length cx1] M [.blk bx0 csx0 86, .row (.slice Ax0_15 x0.f1.length cx0_15) 47 17 x0.f1.length rcx0_15] (R38 M bx0 csx0 Ax0_15 x0 cx0_15 rcx0_15 r) := by
  obtain ⟨Ahx0_7, chx0_7, Ahx0_8, chx0_8, Ahx0_10, chx0_10, rfl, hx0_7, hx0_8, hx0_10, hx0_11, hx0_12⟩ := oS85_open hx0
  refine intro_ (c := c38) 103 Try.func38 fun w => ?_
  unfold m38 at hm
  refine rs [0] [.p 4] [(4, .pointer (some ⟨bx0, 0, none⟩))] [] ?_
  obtain ⟨t0_1, ht0_1, hm⟩ := bind_some hm
  refine rg [1, 0] ?_
  refine seg [.p 1] [(14, .pointer (some ⟨bx0, 0, none⟩))] [] ?_
  refine g_call 15 [0, 1] (f57_ok (bx0 := bx0) (Ax0_15 := Ax0_15) (cx0_15 := cx0_15) _ _ ht0_1 (oS85_mk (cs := (cS85 x0 Ahx0_7 chx0_7 Ahx0_8 chx0_8 Ahx0_10 chx0_10 Ax0_15 cx0_15)) x0 rfl hx0_7 hx0_8 hx0_10 hx0_11 hx0_12) ex0_15) ?_
  rintro _ M0_4 _ ⟨A0_2, c0_3, rfl, rfl, h0_4⟩ hM0_4
  refine seg [.p 1] [(5, .slice A0_2 t0_1.length c0_3)] [] ?_
  refine fin ?_
  obtain ⟨t0_5, ht0_5, hm⟩ := bind_some hm
  refine rgD [1, 1, 0] (PT.of [0, 4, 8, 13, 16, 20, 24, 29, 35, 36, 40, 44, 48, 52] .dn) [(3, 0), (7, 0)] [0] mixed plain_done ?_
  refine seg [.p 3, .l 0, .p 3, .l 0] [(20, .agg (cS26 x0.f0.f5 Ahx0_7 chx0_7 Ahx0_8 chx0_8).toArray), (24, .int .i64 x0.f0.f6)] [] ?_
  replace hx0_7 := (hx0_7.mono hM0_4)
  replace hx0_8 := (hx0_8.mono hM0_4)
  refine g_call0 25 (f69_ok _ _ _ ht0_5 (kS26_mk (cs := (cS26 x0.f0.f5 Ahx0_7 chx0_7 Ahx0_8 chx0_8)) x0.f0.f5 rfl hx0_7 hx0_8)) ?_
  rintro _ _ _ ⟨rfl, rfl, rfl⟩ -
  refine seg [.p 5] [(6, .int .i64 t0_5.1), (7, errV 39 t0_5.2)] [] ?_
  refine fin ?_
  refine rg [1, 1, 1, 0, 0] ?_
  refine seg [.p 3, .l 0, .p 2] [(33, .bool ((x0.f0.f3 : Int) != 2))] [] ?_
  refine gs 33 hm (fun hm => ?_) fun hm => ?_
  · refine seg [.p 35] [(68, .bool true)] [] ?_
    refine fin ?_
    replace hx1 := (hx1.mono hM0_4)
    replace hx0_10 := (hx0_10.mono hM0_4)
    replace ex0_15 := (ex0_15.mono hM0_4)
    exact to [0, 1] (@f38_j1 _ _ _ M0_4 rcx0_15 bx0 c0_3 chx0_10 chx0_7 chx0_8 cx0_15 cx1 A0_2 Ahx0_10 Ahx0_7 Ahx0_8 Ax0_15 Ax1 _ _ _ _ hm hx1 h0_4 hx0_7 hx0_8 hx0_10 hx0_11 hx0_12 ex0_15)
  · obtain ⟨t0_6, ht0_6, hm⟩ := bind_some hm
    refine seg [.p 2] [(34, .slice A0_2 t0_1.length c0_3), (35, .slice Ax1 x1.length cx1)] [] ?_
    replace hx1 := (hx1.mono hM0_4)
    refine g_call0 36 (f70_ok _ _ _ ht0_6 h0_4 hx1) ?_
    rintro _ _ _ ⟨rfl, rfl, rfl⟩ -
    refine seg [.p 3] [(39, .bool (!t0_6))] [] ?_
    refine gs 39 hm (fun hm => ?_) fun hm => ?_
    · refine seg [.p 29] [(68, .bool true)] [] ?_
      refine fin ?_
      replace hx0_10 := (hx0_10.mono hM0_4)
      replace ex0_15 := (ex0_15.mono hM0_4)
      exact to [0, 1] (@f38_j1 _ _ _ M0_4 rcx0_15 bx0 c0_3 chx0_10 chx0_7 chx0_8 cx0_15 cx1 A0_2 Ahx0_10 Ahx0_7 Ahx0_8 Ax0_15 Ax1 _ _ _ _ hm hx1 h0_4 hx0_7 hx0_8 hx0_10 hx0_11 hx0_12 ex0_15)
    · obtain ⟨t0_7, ht0_7, hm⟩ := bind_some hm
      refine seg [.p 4, .l 0] [(40, .slice A0_2 t0_1.length c0_3), (44, .int .i64 x0.f0.f0)] [] ?_
      refine g_call0 45 (f56_ok _ _ _ ht0_7 h0_4) ?_
      rintro _ _ _ ⟨rfl, rfl, rfl⟩ -
      refine seg [.p 3] [(48, .bool (!t0_7))] [] ?_
      refine gs 48 hm (fun hm => ?_) fun hm => ?_
      · refine seg [.p 20] [(68, .bool true)] [] ?_
        refine fin ?_
        replace hx0_10 := (hx0_10.mono hM0_4)
        replace ex0_15 := (ex0_15.mono hM0_4)
        exact to [0, 1] (@f38_j1 _ _ _ M0_4 rcx0_15 bx0 c0_3 chx0_10 chx0_7 chx0_8 cx0_15 cx1 A0_2 Ahx0_10 Ahx0_7 Ahx0_8 Ax0_15 Ax1 _ _ _ _ hm hx1 h0_4 hx0_7 hx0_8 hx0_10 hx0_11 hx0_12 ex0_15)
      · obtain ⟨t0_8, ht0_8, hm⟩ := bind_some hm
        refine seg [.p 1] [(49, .pointer (some ⟨bx0, 0, none⟩))] [] ?_
        replace hx0_10 := (hx0_10.mono hM0_4)
        replace ex0_15 := (ex0_15.mono hM0_4)
        refine g_call 50 [0, 1] (f36_ok (bx0 := bx0) (Ax0_15 := Ax0_15) (cx0_15 := cx0_15) _ _ ht0_8 (oS85_mk (cs := (cS85 x0 Ahx0_7 chx0_7 Ahx0_8 chx0_8 Ahx0_10 chx0_10 Ax0_15 cx0_15)) x0 rfl hx0_7 hx0_8 hx0_10 hx0_11 hx0_12) ex0_15) ?_
        rintro _ _ _ ⟨rfl, rfl, rfl⟩ -
        refine seg [.p 3] [(53, .bool (decide ((t0_8 : Int) ≥ 1152921504606846976)))] [] ?_
        refine gs 53 hm (fun hm => ?_) fun hm => ?_
        · refine seg [.p 15] [(68, .bool true)] [] ?_
          refine fin ?_
          exact to [0, 1] (@f38_j1 _ _ _ M0_4 rcx0_15 bx0 c0_3 chx0_10 chx0_7 chx0_8 cx0_15 cx1 A0_2 Ahx0_10 Ahx0_7 Ahx0_8 Ax0_15 Ax1 _ _ _ _ hm hx1 h0_4 hx0_7 hx0_8 hx0_10 hx0_11 hx0_12 ex0_15)
        · refine seg [.p 1, .e 39 t0_5.2, .p 2] [(57, .bool ((t0_5.2 : Int) != 0))] [] ?_
          refine gs 57 hm (fun hm => ?_) fun hm => ?_
          · refine seg [.p 11] [(68, .bool true)] [] ?_
            refine fin ?_
            exact to [0, 1] (@f38_j1 _ _ _ M0_4 rcx0_15 bx0 c0_3 chx0_10 chx0_7 chx0_8 cx0_15 cx1 A0_2 Ahx0_10 Ahx0_7 Ahx0_8 Ax0_15 Ax1 _ _ _ _ hm hx1 h0_4 hx0_7 hx0_8 hx0_10 hx0_11 hx0_12 ex0_15)
          · refine seg [.p 4, .l 0, .p 3] [(65, .bool ((t0_5.1 : Int) != x0.f0.f1))] [] ?_
            refine gs 65 hm (fun hm => ?_) fun hm => ?_
            · refine seg [.p 3] [(68, .bool true)] [] ?_
              refine fin ?_
              exact to [0, 1] (@f38_j1 _ _ _ M0_4 rcx0_15 bx0 c0_3 chx0_10 chx0_7 chx0_8 cx0_15 cx1 A0_2 Ahx0_10 Ahx0_7 Ahx0_8 Ax0_15 Ax1 _ _ _ _ hm hx1 h0_4 hx0_7 hx0_8 hx0_10 hx0_11 hx0_12 ex0_15)
            · obtain ⟨t0_9, ht0_9, hm⟩ := bind_some hm
              refine seg [.p 1] [(66, .pointer (some ⟨bx0, 0, none⟩))] [] ?_
              refine g_call 67 [0, 1] (f71_ok (bx0 := bx0) (Ax0_15 := Ax0_15) (cx0_15 := cx0_15) _ _ ht0_9 (oS85_mk (cs := (cS85 x0 Ahx0_7 chx0_7 Ahx0_8 chx0_8 Ahx0_10 chx0_10 Ax0_15 cx0_15)) x0 rfl hx0_7 hx0_8 hx0_10 hx0_11 hx0_12) ex0_15) ?_
              rintro _ _ _ ⟨rfl, rfl, rfl⟩ -
              refine seg [.p 1] [(68, .bool t0_9)] [] ?_
              refine fin ?_
              exact to [0, 1] (@f38_j1 _ _ _ M0_4 rcx0_15 bx0 c0_3 chx0_10 chx0_7 chx0_8 cx0_15 cx1 A0_2 Ahx0_10 Ahx0_7 Ahx0_8 Ax0_15 Ax1 _ _ _ _ hm hx1 h0_4 hx0_7 hx0_8 hx0_10 hx0_11 hx0_12 ex0_15)

/-! ## heartwood/raft.Step -/
/-- heartwood/raft.Step: what is left behind a call. -/
abbrev R14 (M : Mem) (r : (S31 × (List S46) × Int × Int)) : Value → Mem → List Res → Prop := fun v M' H' => ∃ (q0 : List Value) (q1 : Option Addr) (u1 : Nat), .tuple #[.agg q0.toArray, .slice q1 r.2.1.length u1, .int .i64 r.2.2.1, errV 39 r.2.2.2] = v ∧ H' = [] ∧ kS31.rep M' q0 r.1 ∧ SlAt kS46 M' q1 u1 r.2.1
noncomputable def c14 : Code := match Try.f14.body with | some c => c | none => .skip
abbrev C14 (w0 : World) (M0 : Mem) : Ctx := ⟨109, w0, M0, []⟩
abbrev D14 (w0 : World) (M0 : Mem) (r : (S31 × (List S46) × Int × Int)) : Post := Done Try.prog Try.f14 (C14 w0 M0) (R14 M0 r)
theorem f14_j3 {w0 : World} {M0 : Mem} {r : (S31 × (List S46) × Int × Int)} : ∀ {M : Mem} {csj3_1_1_0_2_15_nil : List Value} {b0_3 b0_5 cj3_1_1_0_2_15_nil cj3_1_1_0_2_l10 cj3_1_1_0_2_l7 cj3_1_1_0_2_l8 : Nat} {Aj3_1_1_0_2_15_nil Aj3_1_1_0_2_l10 Aj3_1_1_0_2_l7 Aj3_1_1_0_2_l8 : Option Addr} (xj3_1_1_0_2_l0 xj3_1_1_0_2_l1 xj3_1_1_0_2_l13 xj3_1_1_0_2_l14 xj3_1_1_0_2_l16 xj3_1_1_0_2_l2 xj3_1_1_0_2_l3 xj3_1_1_0_2_l4 xj3_1_1_0_2_l5 xj3_1_1_0_2_l6 xj3_1_1_0_2_l9 : Int) (xj3_1_1_0_2_l10 xj3_1_1_0_2_l11 xj3_1_1_0_2_l12 xj3_1_1_0_2_l7 : List Int) (xj3_1_1_0_2_15_nil : List S46) (xj3_1_1_0_2_l8 : List S80) (_ : m14_j3 xj3_1_1_0_2_l0 xj3_1_1_0_2_l1 xj3_1_1_0_2_l13 xj3_1_1_0_2_l14 xj3_1_1_0_2_l16 xj3_1_1_0_2_l2 xj3_1_1_0_2_l3 xj3_1_1_0_2_l4 xj3_1_1_0_2_l5 xj3_1_1_0_2_l6 xj3_1_1_0_2_l9 xj3_1_1_0_2_l10 xj3_1_1_0_2_l11 xj3_1_1_0_2_l12 xj3_1_1_0_2_l7 xj3_1_1_0_2_15_nil xj3_1_1_0_2_l8 = some r) (_ : [0, 0, 0, 0, 0, 0, 0, 0].length = 8) (_ : [0, 0, 0, 0, 0, 0, 0, 0].length = 8) (_ : SlAt (kint .i64) M Aj3_1_1_0_2_l7 cj3_1_1_0_2_l7 xj3_1_1_0_2_l7) (_ : SlAt kS80 M Aj3_1_1_0_2_l8 cj3_1_1_0_2_l8 xj3_1_1_0_2_l8) (_ : SlAt (kint .i64) M Aj3_1_1_0_2_l10 cj3_1_1_0_2_l10 xj3_1_1_0_2_l10) (_ : xj3_1_1_0_2_l11.length = 8) (_ : xj3_1_1_0_2_l12.length = 8) (_ : Elems kS46 M csj3_1_1_0_2_15_nil xj3_1_1_0_2_15_nil), AG Try.prog c14 [1, 1, 1, 1] (D14 w0 M0 r) (C14 w0 M0) (env [(4, .pointer (some ⟨b0_3, 0, none⟩)), (9, .pointer (some ⟨b0_5, 0, none⟩))]) M [.blk b0_3 (cS31 (S31.mk 0 0 0 0 0 (S26.mk (S23.mk 0 0 []) []) 0 [] [0, 0, 0, 0, 0, 0, 0, 0] [0, 0, 0, 0, 0, 0, 0, 0] 0 0) none 0 none 0 none 0) 32, .blk b0_5 (cS85 (S85.mk (S31.mk xj3_1_1_0_2_l0 xj3_1_1_0_2_l1 xj3_1_1_0_2_l2 xj3_1_1_0_2_l3 xj3_1_1_0_2_l4 (S26.mk (S23.mk xj3_1_1_0_2_l5 xj3_1_1_0_2_l6 xj3_1_1_0_2_l7) xj3_1_1_0_2_l8) xj3_1_1_0_2_l9 xj3_1_1_0_2_l10 xj3_1_1_0_2_l11 xj3_1_1_0_2_l12 xj3_1_1_0_2_l13 xj3_1_1_0_2_l14) xj3_1_1_0_2_15_nil xj3_1_1_0_2_l16) Aj3_1_1_0_2_l7 cj3_1_1_0_2_l7 Aj3_1_1_0_2_l8 cj3_1_1_0_2_l8 Aj3_1_1_0_2_l10 cj3_1_1_0_2_l10 Aj3_1_1_0_2_15_nil cj3_1_1_0_2_15_nil) 86, .row (.slice Aj3_1_1_0_2_15_nil xj3_1_1_0_2_15_nil.length cj3_1_1_0_2_15_nil) 47 17 xj3_1_1_0_2_15_nil.length csj3_1_1_0_2_15_nil] := by
  intro M csj3_1_1_0_2_15_nil b0_3 b0_5 cj3_1_1_0_2_15_nil cj3_1_1_0_2_l10 cj3_1_1_0_2_l7 cj3_1_1_0_2_l8 Aj3_1_1_0_2_15_nil Aj3_1_1_0_2_l10 Aj3_1_1_0_2_l7 Aj3_1_1_0_2_l8 xj3_1_1_0_2_l0 xj3_1_1_0_2_l1 xj3_1_1_0_2_l13 xj3_1_1_0_2_l14 xj3_1_1_0_2_l16 xj3_1_1_0_2_l2 xj3_1_1_0_2_l3 xj3_1_1_0_2_l4 xj3_1_1_0_2_l5 xj3_1_1_0_2_l6 xj3_1_1_0_2_l9 xj3_1_1_0_2_l10 xj3_1_1_0_2_l11 xj3_1_1_0_2_l12 xj3_1_1_0_2_l7 xj3_1_1_0_2_15_nil xj3_1_1_0_2_l8 hm lj3_0_2_l11 lj3_0_2_l12 hj3_1_1_0_2_l7 hj3_1_1_0_2_l8 hj3_1_1_0_2_l10 lj3_1_1_0_2_l11 lj3_1_1_0_2_l12 ej3_1_1_0_2_15_nil; unfold m14_j3 at hm
  refine rgD [1, 1, 1, 1, 0] (PT.of [0, 4, 8, 13, 16, 20, 24, 29, 32, 36, 40, 45, 51, 52, 56, 60] .dn) [(3, 1), (7, 1), (11, 1)] [2] mixed plain_done ?_
  refine seg [.p 3, .l 1, .p 3, .l 1, .p 3, .l 1, .s 0, .p 3] [(5, (.slice Aj3_1_1_0_2_15_nil xj3_1_1_0_2_15_nil.length cj3_1_1_0_2_15_nil)), (6, .int .i64 xj3_1_1_0_2_l16), (7, .nilIface)] [(0, .blk b0_3 (cS31 (S31.mk xj3_1_1_0_2_l0 xj3_1_1_0_2_l1 xj3_1_1_0_2_l2 xj3_1_1_0_2_l3 xj3_1_1_0_2_l4 (S26.mk (S23.mk xj3_1_1_0_2_l5 xj3_1_1_0_2_l6 xj3_1_1_0_2_l7) xj3_1_1_0_2_l8) xj3_1_1_0_2_l9 xj3_1_1_0_2_l10 xj3_1_1_0_2_l11 xj3_1_1_0_2_l12 xj3_1_1_0_2_l13 xj3_1_1_0_2_l14) Aj3_1_1_0_2_l7 cj3_1_1_0_2_l7 Aj3_1_1_0_2_l8 cj3_1_1_0_2_l8 Aj3_1_1_0_2_l10 cj3_1_1_0_2_l10) 32)] ?_
  refine fin ?_
  refine fzA 2 47 Aj3_1_1_0_2_15_nil cj3_1_1_0_2_15_nil ej3_1_1_0_2_15_nil fun Mhj3_1 lhj3_1 hj3_1 => ?_
  obtain rfl := Option.some.inj hm
  replace hj3_1_1_0_2_l7 := (hj3_1_1_0_2_l7.mono lhj3_1)
  replace hj3_1_1_0_2_l8 := (hj3_1_1_0_2_l8.mono lhj3_1)
  replace hj3_1_1_0_2_l10 := (hj3_1_1_0_2_l10.mono lhj3_1)
  exact rtc (vs := [.agg (cS31 (S31.mk xj3_1_1_0_2_l0 xj3_1_1_0_2_l1 xj3_1_1_0_2_l2 xj3_1_1_0_2_l3 xj3_1_1_0_2_l4 (S26.mk (S23.mk xj3_1_1_0_2_l5 xj3_1_1_0_2_l6 xj3_1_1_0_2_l7) xj3_1_1_0_2_l8) xj3_1_1_0_2_l9 xj3_1_1_0_2_l10 xj3_1_1_0_2_l11 xj3_1_1_0_2_l12 xj3_1_1_0_2_l13 xj3_1_1_0_2_l14) Aj3_1_1_0_2_l7 cj3_1_1_0_2_l7 Aj3_1_1_0_2_l8 cj3_1_1_0_2_l8 Aj3_1_1_0_2_l10 cj3_1_1_0_2_l10).toArray, .slice Aj3_1_1_0_2_15_nil xj3_1_1_0_2_15_nil.length cj3_1_1_0_2_15_nil, .int .i64 xj3_1_1_0_2_l16, .nilIface]) (v := .tuple #[.agg (cS31 (S31.mk xj3_1_1_0_2_l0 xj3_1_1_0_2_l1 xj3_1_1_0_2_l2 xj3_1_1_0_2_l3 xj3_1_1_0_2_l4 (S26.mk (S23.mk xj3_1_1_0_2_l5 xj3_1_1_0_2_l6 xj3_1_1_0_2_l7) xj3_1_1_0_2_l8) xj3_1_1_0_2_l9 xj3_1_1_0_2_l10 xj3_1_1_0_2_l11 xj3_1_1_0_2_l12 xj3_1_1_0_2_l13 xj3_1_1_0_2_l14) Aj3_1_1_0_2_l7 cj3_1_1_0_2_l7 Aj3_1_1_0_2_l8 cj3_1_1_0_2_l8 Aj3_1_1_0_2_l10 cj3_1_1_0_2_l10).toArray, .slice Aj3_1_1_0_2_15_nil xj3_1_1_0_2_15_nil.length cj3_1_1_0_2_15_nil, .int .i64 xj3_1_1_0_2_l16, .nilIface]) [] [.cell 4 32, .tmp 5, .tmp 6, .tmp 7] (.cell 0 0 (by kernel_rfl) (by kernel_rfl) (.tmp (by kernel_rfl) (.tmp (by kernel_rfl) (.tmp (by kernel_rfl) .nil)))) ⟨(cS31 (S31.mk xj3_1_1_0_2_l0 xj3_1_1_0_2_l1 xj3_1_1_0_2_l2 xj3_1_1_0_2_l3 xj3_1_1_0_2_l4 (S26.mk (S23.mk xj3_1_1_0_2_l5 xj3_1_1_0_2_l6 xj3_1_1_0_2_l7) xj3_1_1_0_2_l8) xj3_1_1_0_2_l9 xj3_1_1_0_2_l10 xj3_1_1_0_2_l11 xj3_1_1_0_2_l12 xj3_1_1_0_2_l13 xj3_1_1_0_2_l14) Aj3_1_1_0_2_l7 cj3_1_1_0_2_l7 Aj3_1_1_0_2_l8 cj3_1_1_0_2_l8 Aj3_1_1_0_2_l10 cj3_1_1_0_2_l10), Aj3_1_1_0_2_15_nil, cj3_1_1_0_2_15_nil, rfl, rfl, (kS31_mk (cs := (cS31 (S31.mk xj3_1_1_0_2_l0 xj3_1_1_0_2_l1 xj3_1_1_0_2_l2 xj3_1_1_0_2_l3 xj3_1_1_0_2_l4 (S26.mk (S23.mk xj3_1_1_0_2_l5 xj3_1_1_0_2_l6 xj3_1_1_0_2_l7) xj3_1_1_0_2_l8) xj3_1_1_0_2_l9 xj3_1_1_0_2_l10 xj3_1_1_0_2_l11 xj3_1_1_0_2_l12 xj3_1_1_0_2_l13 xj3_1_1_0_2_l14) Aj3_1_1_0_2_l7 cj3_1_1_0_2_l7 Aj3_1_1_0_2_l8 cj3_1_1_0_2_l8 Aj3_1_1_0_2_l10 cj3_1_1_0_2_l10)) (S31.mk xj3_1_1_0_2_l0 xj3_1_1_0_2_l1 xj3_1_1_0_2_l2 xj3_1_1_0_2_l3 xj3_1_1_0_2_l4 (S26.mk (S23.mk xj3_1_1_0_2_l5 xj3_1_1_0_2_l6 xj3_1_1_0_2_l7) xj3_1_1_0_2_l8) xj3_1_1_0_2_l9 xj3_1_1_0_2_l10 xj3_1_1_0_2_l11 xj3_1_1_0_2_l12 xj3_1_1_0_2_l13 xj3_1_1_0_2_l14) rfl hj3_1_1_0_2_l7 hj3_1_1_0_2_l8 hj3_1_1_0_2_l10 lj3_1_1_0_2_l11 lj3_1_1_0_2_l12), hj3_1⟩ rfl rfl
theorem f14_j2 {w0 : World} {M0 : Mem} {r : (S31 × (List S46) × Int × Int)} : ∀ {M : Mem} {b0_1 b0_2 b0_3 b0_5 chx0_10 chx0_7 chx0_8 chx1_11 chx1_12 chx1_14 chx1_16 chx1_17 chx1_18 chx1_20 chx1_21 : Nat} {Ahx0_10 Ahx0_7 Ahx0_8 Ahx1_11 Ahx1_12 Ahx1_14 Ahx1_16 Ahx1_17 Ahx1_18 Ahx1_20 Ahx1_21 : Option Addr} (xj2_s76 : Bool) (x0 : S31) (x1 : S48) (_ : m14_j2 xj2_s76 x0 x1 = some r) (_ : SlAt (kint .i64) M Ahx0_7 chx0_7 x0.f5.f0.f2) (_ : SlAt kS80 M Ahx0_8 chx0_8 x0.f5.f1) (_ : SlAt (kint .i64) M Ahx0_10 chx0_10 x0.f7) (_ : x0.f8.length = 8) (_ : x0.f9.length = 8) (_ : SlAt kS80 M Ahx1_11 chx1_11 x1.f3.f8) (_ : SlAt (kint .i64) M Ahx1_12 chx1_12 x1.f3.f9) (_ : SlAt (kint .u8) M Ahx1_14 chx1_14 x1.f3.f11) (_ : SlAt (kint .u8) M Ahx1_16 chx1_16 x1.f3.f12.f1) (_ : SlAt (kint .u8) M Ahx1_17 chx1_17 x1.f3.f12.f2) (_ : SlAt (kint .u8) M Ahx1_18 chx1_18 x1.f3.f12.f3) (_ : Value.oneCell' x1.f3.f12.f4 = true) (_ : SlAt (kint .u8) M Ahx1_20 chx1_20 x1.f4) (_ : SlAt (kint .i64) M Ahx1_21 chx1_21 x1.f5) (_ : [0, 0, 0, 0, 0, 0, 0, 0].length = 8) (_ : [0, 0, 0, 0, 0, 0, 0, 0].length = 8) (_ : SlAt (kint .i64) M Ahx0_7 chx0_7 x0.f5.f0.f2) (_ : SlAt kS80 M Ahx0_8 chx0_8 x0.f5.f1) (_ : SlAt (kint .i64) M Ahx0_10 chx0_10 x0.f7) (_ : x0.f8.length = 8) (_ : x0.f9.length = 8), AG Try.prog c14 [1, 1, 1, 0, 1, 0, 1, 1, 1, 1, 1, 1, 1, 1, 1, 0, 1] (D14 w0 M0 r) (C14 w0 M0) (env [(2, .pointer (some ⟨b0_1, 0, none⟩)), (3, .pointer (some ⟨b0_2, 0, none⟩)), (4, .pointer (some ⟨b0_3, 0, none⟩)), (9, .pointer (some ⟨b0_5, 0, none⟩)), (76, .bool xj2_s76)]) M [.blk b0_1 (cS31 x0 Ahx0_7 chx0_7 Ahx0_8 chx0_8 Ahx0_10 chx0_10) 32, .blk b0_2 (cS48 x1 Ahx1_11 chx1_11 Ahx1_12 chx1_12 Ahx1_14 chx1_14 Ahx1_16 chx1_16 Ahx1_17 chx1_17 Ahx1_18 chx1_18 Ahx1_20 chx1_20 Ahx1_21 chx1_21) 49, .blk b0_3 (cS31 (S31.mk 0 0 0 0 0 (S26.mk (S23.mk 0 0 []) []) 0 [] [0, 0, 0, 0, 0, 0, 0, 0] [0, 0, 0, 0, 0, 0, 0, 0] 0 0) none 0 none 0 none 0) 32, .blk b0_5 (cS85 (S85.mk x0 [] 0) Ahx0_7 chx0_7 Ahx0_8 chx0_8 Ahx0_10 chx0_10 none 0) 86] := by
  intro M b0_1 b0_2 b0_3 b0_5 chx0_10 chx0_7 chx0_8 chx1_11 chx1_12 chx1_14 chx1_16 chx1_17 chx1_18 chx1_20 chx1_21 Ahx0_10 Ahx0_7 Ahx0_8 Ahx1_11 Ahx1_12 Ahx1_14 Ahx1_16 Ahx1_17 Ahx1_18 Ahx1_20 Ahx1_21 xj2_s76 x0 x1 hm hj2_0_0_l7 hj2_0_0_l8 hj2_0_0_l10 lj2_0_0_l11 lj2_0_0_l12 hj2_0_1_l11 hj2_0_1_l12 hj2_0_1_l14 hj2_0_1_l16 hj2_0_1_l17 hj2_0_1_l18 oj2_0_1_l19 hj2_0_1_l20 hj2_0_1_l21 lj2_0_2_l11 lj2_0_2_l12 hj2_1_1_0_2_l7 hj2_1_1_0_2_l8 hj2_1_1_0_2_l10 lj2_1_1_0_2_l11 lj2_1_1_0_2_l12; unfold m14_j2 at hm
  refine gi [1, 1, 1, 0, 1, 0, 1, 1, 1, 1, 1, 1, 1, 1, 1, 0, 1] hm (fun hm => ?_) fun hm => ?_
  · obtain ⟨tj2_1, htj2_1, hm⟩ := bind_some hm
    refine rg [1, 1, 1, 0, 1, 0, 1, 1, 1, 1, 1, 1, 1, 1, 1, 0, 1, 0, 0] ?_
    refine seg [.p 1, .l 0, .p 1, .l 1] [(79, .agg (cS26 x0.f5 Ahx0_7 chx0_7 Ahx0_8 chx0_8).toArray), (81, .int .i64 x1.f2)] [] ?_
    refine g_call0 82 (f39_ok _ _ _ htj2_1 (kS26_mk (cs := (cS26 x0.f5 Ahx0_7 chx0_7 Ahx0_8 chx0_8)) x0.f5 rfl hj2_0_0_l7 hj2_0_0_l8)) ?_
    rintro _ Mj2_3 _ ⟨csj2_2, rfl, rfl, hj2_3⟩ hMj2_3
    obtain ⟨Ahj2_3_2, chj2_3_2, Ahj2_3_3, chj2_3_3, rfl, hj2_3_2, hj2_3_3⟩ := kS26_open hj2_3
    refine seg [.p 3] [(83, .agg (cS26 (S26.mk (S23.mk tj2_1.1.f0.f0 tj2_1.1.f0.f1 tj2_1.1.f0.f2) tj2_1.1.f1) Ahj2_3_2 chj2_3_2 Ahj2_3_3 chj2_3_3).toArray), (84, errV 39 tj2_1.2)] [] ?_
    refine g_al 10 27 (cS26 (S26.mk (S23.mk 0 0 []) []) none 0 none 0) fun bj2_4 => ?_
    refine seg [.s 4, .p 1] [(11, errV 39 tj2_1.2)] [(4, .blk bj2_4 (cS26 (S26.mk (S23.mk tj2_1.1.f0.f0 tj2_1.1.f0.f1 tj2_1.1.f0.f2) tj2_1.1.f1) Ahj2_3_2 chj2_3_2 Ahj2_3_3 chj2_3_3) 27)] ?_
    refine fin ?_
    refine rs [1, 1, 1, 0, 1, 0, 1, 1, 1, 1, 1, 1, 1, 1, 1, 0, 1, 0, 1, 0] [.p 1, .e 39 tj2_1.2] [(86, .bool ((tj2_1.2 : Int) == 0))] [] ?_
    refine gi [1, 1, 1, 0, 1, 0, 1, 1, 1, 1, 1, 1, 1, 1, 1, 0, 1, 0, 1, 1] hm (fun hm => ?_) fun hm => ?_
    · refine rgD [1, 1, 1, 0, 1, 0, 1, 1, 1, 1, 1, 1, 1, 1, 1, 0, 1, 0, 1, 1, 0] (PT.of [0, 4, 9, 12, 17, 20, 24, 28, 35, 36, 40, 47] .dn) [(2, 4), (4, 1)] [2, 8] mixed plain_done ?_
      refine seg [.p 2, .l 4, .p 1, .l 1, .p 3, .s 3, .p 2, .s 3] [] [(3, .blk b0_5 (cS85 (S85.mk ({ x0 with f5 := (S26.mk (S23.mk tj2_1.1.f0.f0 tj2_1.1.f0.f1 tj2_1.1.f0.f2) tj2_1.1.f1) }) [] x1.f2) Ahj2_3_2 chj2_3_2 Ahj2_3_3 chj2_3_3 Ahx0_10 chx0_10 none 0) 86)] ?_
      refine fin ?_
      refine nlA 47 17 ?_
      replace hj2_1_1_0_2_l10 := (hj2_1_1_0_2_l10.mono hMj2_3)
      exact to [2, 3, 5] (@f14_j3 _ _ _ Mj2_3 [] b0_3 b0_5 0 chx0_10 chj2_3_2 chj2_3_3 none Ahx0_10 Ahj2_3_2 Ahj2_3_3 _ _ _ _ _ _ _ _ _ _ _ _ _ _ _ _ _ hm lj2_0_2_l11 lj2_0_2_l12 hj2_3_2 hj2_3_3 hj2_1_1_0_2_l10 lj2_1_1_0_2_l11 lj2_1_1_0_2_l12 (elNil (d := kS46) (M := Mj2_3)))
    · refine nlA 47 17 ?_
      replace hj2_1_1_0_2_l7 := (hj2_1_1_0_2_l7.mono hMj2_3)
      replace hj2_1_1_0_2_l8 := (hj2_1_1_0_2_l8.mono hMj2_3)
      replace hj2_1_1_0_2_l10 := (hj2_1_1_0_2_l10.mono hMj2_3)
      exact to [2, 3, 5] (@f14_j3 _ _ _ Mj2_3 [] b0_3 b0_5 0 chx0_10 chx0_7 chx0_8 none Ahx0_10 Ahx0_7 Ahx0_8 _ _ _ _ _ _ _ _ _ _ _ _ _ _ _ _ _ hm lj2_0_2_l11 lj2_0_2_l12 hj2_1_1_0_2_l7 hj2_1_1_0_2_l8 hj2_1_1_0_2_l10 lj2_1_1_0_2_l11 lj2_1_1_0_2_l12 (elNil (d := kS46) (M := Mj2_3)))
  · refine nlA 47 17 ?_
    exact to [2, 3, 4] (@f14_j3 _ _ _ M [] b0_3 b0_5 0 chx0_10 chx0_7 chx0_8 none Ahx0_10 Ahx0_7 Ahx0_8 _ _ _ _ _ _ _ _ _ _ _ _ _ _ _ _ _ hm lj2_0_2_l11 lj2_0_2_l12 hj2_1_1_0_2_l7 hj2_1_1_0_2_l8 hj2_1_1_0_2_l10 lj2_1_1_0_2_l11 lj2_1_1_0_2_l12 (elNil (d := kS46) (M := M)))
theorem f14_j1 {w0 : World} {M0 : Mem} {r : (S31 × (List S46) × Int × Int)} : ∀ {M : Mem} {csj1_1_1_0_2_15_nil : List Value} {b0_2 b0_3 b0_5 chx0_10 chx0_7 chx0_8 chx1_11 chx1_12 chx1_14 chx1_16 chx1_17 chx1_18 chx1_20 chx1_21 cj1_1_1_0_2_15_nil : Nat} {Ahx0_10 Ahx0_7 Ahx0_8 Ahx1_11 Ahx1_12 Ahx1_14 Ahx1_16 Ahx1_17 Ahx1_18 Ahx1_20 Ahx1_21 Aj1_1_1_0_2_15_nil : Option Addr} (xj1_s50 : Bool) (xj1_1_1_0_2_15_nil : List S46) (x0 : S31) (x1 : S48) (_ : m14_j1 xj1_s50 xj1_1_1_0_2_15_nil x0 x1 = some r) (_ : SlAt kS80 M Ahx1_11 chx1_11 x1.f3.f8) (_ : SlAt (kint .i64) M Ahx1_12 chx1_12 x1.f3.f9) (_ : SlAt (kint .u8) M Ahx1_14 chx1_14 x1.f3.f11) (_ : SlAt (kint .u8) M Ahx1_16 chx1_16 x1.f3.f12.f1) (_ : SlAt (kint .u8) M Ahx1_17 chx1_17 x1.f3.f12.f2) (_ : SlAt (kint .u8) M Ahx1_18 chx1_18 x1.f3.f12.f3) (_ : Value.oneCell' x1.f3.f12.f4 = true) (_ : SlAt (kint .u8) M Ahx1_20 chx1_20 x1.f4) (_ : SlAt (kint .i64) M Ahx1_21 chx1_21 x1.f5) (_ : [0, 0, 0, 0, 0, 0, 0, 0].length = 8) (_ : [0, 0, 0, 0, 0, 0, 0, 0].length = 8) (_ : SlAt (kint .i64) M Ahx0_7 chx0_7 x0.f5.f0.f2) (_ : SlAt kS80 M Ahx0_8 chx0_8 x0.f5.f1) (_ : SlAt (kint .i64) M Ahx0_10 chx0_10 x0.f7) (_ : x0.f8.length = 8) (_ : x0.f9.length = 8) (_ : Elems kS46 M csj1_1_1_0_2_15_nil xj1_1_1_0_2_15_nil), AG Try.prog c14 [1, 1, 1, 0, 1, 0, 1, 1, 1, 1, 1, 0, 1] (D14 w0 M0 r) (C14 w0 M0) (env [(3, .pointer (some ⟨b0_2, 0, none⟩)), (4, .pointer (some ⟨b0_3, 0, none⟩)), (9, .pointer (some ⟨b0_5, 0, none⟩)), (50, .bool xj1_s50)]) M [.blk b0_2 (cS48 x1 Ahx1_11 chx1_11 Ahx1_12 chx1_12 Ahx1_14 chx1_14 Ahx1_16 chx1_16 Ahx1_17 chx1_17 Ahx1_18 chx1_18 Ahx1_20 chx1_20 Ahx1_21 chx1_21) 49, .blk b0_3 (cS31 (S31.mk 0 0 0 0 0 (S26.mk (S23.mk 0 0 []) []) 0 [] [0, 0, 0, 0, 0, 0, 0, 0] [0, 0, 0, 0, 0, 0, 0, 0] 0 0) none 0 none 0 none 0) 32, .blk b0_5 (cS85 (S85.mk x0 xj1_1_1_0_2_15_nil 0) Ahx0_7 chx0_7 Ahx0_8 chx0_8 Ahx0_10 chx0_10 Aj1_1_1_0_2_15_nil cj1_1_1_0_2_15_nil) 86, .row (.slice Aj1_1_1_0_2_15_nil xj1_1_1_0_2_15_nil.length cj1_1_1_0_2_15_nil) 47 17 xj1_1_1_0_2_15_nil.length csj1_1_1_0_2_15_nil] := by
  intro M csj1_1_1_0_2_15_nil b0_2 b0_3 b0_5 chx0_10 chx0_7 chx0_8 chx1_11 chx1_12 chx1_14 chx1_16 chx1_17 chx1_18 chx1_20 chx1_21 cj1_1_1_0_2_15_nil Ahx0_10 Ahx0_7 Ahx0_8 Ahx1_11 Ahx1_12 Ahx1_14 Ahx1_16 Ahx1_17 Ahx1_18 Ahx1_20 Ahx1_21 Aj1_1_1_0_2_15_nil xj1_s50 xj1_1_1_0_2_15_nil x0 x1 hm hj1_0_1_l11 hj1_0_1_l12 hj1_0_1_l14 hj1_0_1_l16 hj1_0_1_l17 hj1_0_1_l18 oj1_0_1_l19 hj1_0_1_l20 hj1_0_1_l21 lj1_0_2_l11 lj1_0_2_l12 hj1_1_1_0_2_l7 hj1_1_1_0_2_l8 hj1_1_1_0_2_l10 lj1_1_1_0_2_l11 lj1_1_1_0_2_l12 ej1_1_1_0_2_15_nil; unfold m14_j1 at hm
  refine gi [1, 1, 1, 0, 1, 0, 1, 1, 1, 1, 1, 0, 1] hm (fun hm => ?_) fun hm => ?_
  · obtain ⟨tj1_1, htj1_1, hm⟩ := bind_some hm
    refine rg [1, 1, 1, 0, 1, 0, 1, 1, 1, 1, 1, 0, 1, 0] ?_
    refine seg [.p 2, .l 0] [(51, .pointer (some ⟨b0_5, 0, none⟩)), (53, .slice Ahx1_20 x1.f4.length chx1_20)] [] ?_
    refine g_call 54 [2, 3] (f37_ok (bx0 := b0_5) (Ax0_15 := Aj1_1_1_0_2_15_nil) (cx0_15 := cj1_1_1_0_2_15_nil) _ _ _ _ htj1_1 (oS85_mk (cs := (cS85 (S85.mk x0 xj1_1_1_0_2_15_nil 0) Ahx0_7 chx0_7 Ahx0_8 chx0_8 Ahx0_10 chx0_10 Aj1_1_1_0_2_15_nil cj1_1_1_0_2_15_nil)) (S85.mk x0 xj1_1_1_0_2_15_nil 0) rfl hj1_1_1_0_2_l7 hj1_1_1_0_2_l8 hj1_1_1_0_2_l10 lj1_1_1_0_2_l11 lj1_1_1_0_2_l12) ej1_1_1_0_2_15_nil hj1_0_1_l20) ?_
    rintro _ Mj1_7 _ ⟨csj1_2, Aj1_4, cj1_5, rcj1_6, rfl, rfl, hj1_3, hj1_7⟩ hMj1_7
    obtain ⟨Ahj1_3_7, chj1_3_7, Ahj1_3_8, chj1_3_8, Ahj1_3_10, chj1_3_10, rfl, hj1_3_7, hj1_3_8, hj1_3_10, hj1_3_11, hj1_3_12⟩ := oS85_open hj1_3
    refine fin ?_
    exact to [1, 2, 3] (@f14_j3 _ _ _ Mj1_7 rcj1_6 b0_3 b0_5 cj1_5 chj1_3_10 chj1_3_7 chj1_3_8 Aj1_4 Ahj1_3_10 Ahj1_3_7 Ahj1_3_8 _ _ _ _ _ _ _ _ _ _ _ _ _ _ _ _ _ hm lj1_0_2_l11 lj1_0_2_l12 hj1_3_7 hj1_3_8 hj1_3_10 hj1_3_11 hj1_3_12 hj1_7)
  · exact to [1, 2, 3] (@f14_j3 _ _ _ M csj1_1_1_0_2_15_nil b0_3 b0_5 cj1_1_1_0_2_15_nil chx0_10 chx0_7 chx0_8 Aj1_1_1_0_2_15_nil Ahx0_10 Ahx0_7 Ahx0_8 _ _ _ _ _ _ _ _ _ _ _ _ _ _ _ _ _ hm lj1_0_2_l11 lj1_0_2_l12 hj1_1_1_0_2_l7 hj1_1_1_0_2_l8 hj1_1_1_0_2_l10 lj1_1_1_0_2_l11 lj1_1_1_0_2_l12 ej1_1_1_0_2_15_nil)
theorem f14_ok {M : Mem} {csx0 : List Value} {csx1 : List Value} (x0 : S31) (x1 : S48) (r : (S31 × (List S46) × Int × Int)) (hm : m14 x0 x1 = some r) (hx0 : kS31.rep M csx0 x0) (hx1 : kS48.rep M csx1 x1) : FnOk Try.prog 14 [.agg csx0.toArray, .agg csx1.toArray] M [] (R14 M r) := by
  obtain ⟨Ahx0_7, chx0_7, Ahx0_8, chx0_8, Ahx0_10, chx0_10, rfl, hx0_7, hx0_8, hx0_10, hx0_11, hx0_12⟩ := kS31_open hx0
  obtain ⟨Ahx1_11, chx1_11, Ahx1_12, chx1_12, Ahx1_14, chx1_14, Ahx1_16, chx1_16, Ahx1_17, chx1_17, Ahx1_18, chx1_18, Ahx1_20, chx1_20, Ahx1_21, chx1_21, rfl, hx1_11, hx1_12, hx1_14, hx1_16, hx1_17, hx1_18, hx1_20, hx1_21, hx1_19⟩ := kS48_open hx1
  refine intro_ (c := c14) 109 Try.func14 fun w => ?_
  unfold m14 at hm
  refine rg [0] ?_
  refine g_bx 2 32 (.agg (cS31 x0 Ahx0_7 chx0_7 Ahx0_8 chx0_8 Ahx0_10 chx0_10).toArray) fun b0_1 => ?_
  refine g_bx 3 49 (.agg (cS48 x1 Ahx1_11 chx1_11 Ahx1_12 chx1_12 Ahx1_14 chx1_14 Ahx1_16 chx1_16 Ahx1_17 chx1_17 Ahx1_18 chx1_18 Ahx1_20 chx1_20 Ahx1_21 chx1_21).toArray) fun b0_2 => ?_
  refine g_al 4 32 (cS31 (S31.mk 0 0 0 0 0 (S26.mk (S23.mk 0 0 []) []) 0 [] [0, 0, 0, 0, 0, 0, 0, 0] [0, 0, 0, 0, 0, 0, 0, 0] 0 0) none 0 none 0 none 0) fun b0_3 => ?_
  refine seg [.p 3] [] [] ?_
  refine fin ?_
  obtain ⟨t0_4, ht0_4, hm⟩ := bind_some hm
  refine rg [1, 0, 0] ?_
  refine seg [.l 0] [(12, .agg (cS31 x0 Ahx0_7 chx0_7 Ahx0_8 chx0_8 Ahx0_10 chx0_10).toArray)] [] ?_
  refine g_call0 13 (f15_ok _ _ ht0_4 (kS31_mk (cs := (cS31 x0 Ahx0_7 chx0_7 Ahx0_8 chx0_8 Ahx0_10 chx0_10)) x0 rfl hx0_7 hx0_8 hx0_10 hx0_11 hx0_12)) ?_
  rintro _ _ _ ⟨rfl, rfl, rfl⟩ -
  refine seg [.p 1] [(8, errV 39 t0_4)] [] ?_
  refine fin ?_
  refine rs [1, 0, 1, 0] [.p 1, .e 39 t0_4] [(15, .bool ((t0_4 : Int) != 0))] [] ?_
  refine gi [1, 0, 1, 1] hm (fun hm => ?_) fun hm => ?_
  · refine rs [1, 0, 1, 1, 0, 0] [.b, .p 1, .s 2, .p 3] [(5, .slice none 0 0), (6, .int .i64 0), (7, errV 39 t0_4)] [(2, .blk b0_3 (cS31 (S31.mk 0 0 0 0 0 (S26.mk (S23.mk 0 0 []) []) 0 [] [0, 0, 0, 0, 0, 0, 0, 0] [0, 0, 0, 0, 0, 0, 0, 0] 0 0) none 0 none 0 none 0) 32)] ?_
    obtain rfl := Option.some.inj hm
    exact rtc (vs := [.agg (cS31 (S31.mk 0 0 0 0 0 (S26.mk (S23.mk 0 0 []) []) 0 [] [0, 0, 0, 0, 0, 0, 0, 0] [0, 0, 0, 0, 0, 0, 0, 0] 0 0) none 0 none 0 none 0).toArray, .slice none 0 0, .int .i64 0, errV 39 t0_4]) (v := .tuple #[.agg (cS31 (S31.mk 0 0 0 0 0 (S26.mk (S23.mk 0 0 []) []) 0 [] [0, 0, 0, 0, 0, 0, 0, 0] [0, 0, 0, 0, 0, 0, 0, 0] 0 0) none 0 none 0 none 0).toArray, .slice none 0 0, .int .i64 0, errV 39 t0_4]) [] [.cell 4 32, .tmp 5, .tmp 6, .tmp 7] (.cell 2 0 (by kernel_rfl) (by kernel_rfl) (.tmp (by kernel_rfl) (.tmp (by kernel_rfl) (.tmp (by kernel_rfl) .nil)))) ⟨(cS31 (S31.mk 0 0 0 0 0 (S26.mk (S23.mk 0 0 []) []) 0 [] [0, 0, 0, 0, 0, 0, 0, 0] [0, 0, 0, 0, 0, 0, 0, 0] 0 0) none 0 none 0 none 0), none, 0, rfl, rfl, (kS31_mk (cs := (cS31 (S31.mk 0 0 0 0 0 (S26.mk (S23.mk 0 0 []) []) 0 [] [0, 0, 0, 0, 0, 0, 0, 0] [0, 0, 0, 0, 0, 0, 0, 0] 0 0) none 0 none 0 none 0)) (S31.mk 0 0 0 0 0 (S26.mk (S23.mk 0 0 []) []) 0 [] [0, 0, 0, 0, 0, 0, 0, 0] [0, 0, 0, 0, 0, 0, 0, 0] 0 0) rfl slNil slNil slNil rfl rfl), slNil⟩ rfl rfl
  · refine rg [1, 1, 0] ?_
    refine seg [.l 0, .b] [(19, .agg (cS85 (S85.mk x0 [] 0) Ahx0_7 chx0_7 Ahx0_8 chx0_8 Ahx0_10 chx0_10 none 0).toArray)] [] ?_
    refine g_bx 20 86 (.agg (cS85 (S85.mk x0 [] 0) Ahx0_7 chx0_7 Ahx0_8 chx0_8 Ahx0_10 chx0_10 none 0).toArray) fun b0_5 => ?_
    refine seg [.p 1] [(9, .pointer (some ⟨b0_5, 0, none⟩))] [] ?_
    refine fin ?_
    refine rs [1, 1, 1, 0, 0] [.p 1, .l 1] [(22, .int .i64 x1.f0)] [] ?_
    refine rs [1, 1, 1, 0, 1, 0, 0] [.p 2] [(23, .bool ((x1.f0 : Int) == 0))] [] ?_
    refine gi [1, 1, 1, 0, 1, 0, 1] hm (fun hm => ?_) fun hm => ?_
    · obtain ⟨t0_6, ht0_6, hm⟩ := bind_some hm
      refine rg [1, 1, 1, 0, 1, 0, 1, 0] ?_
      refine seg [.p 2, .l 1] [(25, .pointer (some ⟨b0_5, 0, none⟩)), (27, .int .i64 x1.f1)] [] ?_
      refine nlI 47 17 ?_
      refine g_call 28 [3, 4] (f34_ok (bx0 := b0_5) (Ax0_15 := none) (cx0_15 := 0) _ _ _ ht0_6 (oS85_mk (cs := (cS85 (S85.mk x0 ([] : List S46) 0) Ahx0_7 chx0_7 Ahx0_8 chx0_8 Ahx0_10 chx0_10 none 0)) (S85.mk x0 ([] : List S46) 0) rfl hx0_7 hx0_8 hx0_10 hx0_11 hx0_12) (elNil (d := kS46) (M := M))) ?_
      rintro _ M0_12 _ ⟨cs0_7, A0_9, c0_10, rc0_11, rfl, rfl, h0_8, h0_12⟩ hM0_12
      obtain ⟨Ah0_8_7, ch0_8_7, Ah0_8_8, ch0_8_8, Ah0_8_10, ch0_8_10, rfl, h0_8_7, h0_8_8, h0_8_10, h0_8_11, h0_8_12⟩ := oS85_open h0_8
      refine fin ?_
      exact to [2, 3, 4] (@f14_j3 _ _ _ M0_12 rc0_11 b0_3 b0_5 c0_10 ch0_8_10 ch0_8_7 ch0_8_8 A0_9 Ah0_8_10 Ah0_8_7 Ah0_8_8 _ _ _ _ _ _ _ _ _ _ _ _ _ _ _ _ _ hm rfl rfl h0_8_7 h0_8_8 h0_8_10 h0_8_11 h0_8_12 h0_12)
    · refine rs [1, 1, 1, 0, 1, 0, 1, 1, 0] [.p 2] [(29, .bool ((x1.f0 : Int) == 1))] [] ?_
      refine gi [1, 1, 1, 0, 1, 0, 1, 1, 1] hm (fun hm => ?_) fun hm => ?_
      · obtain ⟨t0_13, ht0_13, hm⟩ := bind_some hm
        refine rg [1, 1, 1, 0, 1, 0, 1, 1, 1, 0] ?_
        refine seg [.p 2, .l 1] [(31, .pointer (some ⟨b0_5, 0, none⟩)), (33, .agg (cS46 x1.f3 Ahx1_11 chx1_11 Ahx1_12 chx1_12 Ahx1_14 chx1_14 Ahx1_16 chx1_16 Ahx1_17 chx1_17 Ahx1_18 chx1_18).toArray)] [] ?_
        refine nlI 47 17 ?_
        refine g_call 34 [3, 4] (f35_ok (bx0 := b0_5) (Ax0_15 := none) (cx0_15 := 0) _ _ _ ht0_13 (oS85_mk (cs := (cS85 (S85.mk x0 ([] : List S46) 0) Ahx0_7 chx0_7 Ahx0_8 chx0_8 Ahx0_10 chx0_10 none 0)) (S85.mk x0 ([] : List S46) 0) rfl hx0_7 hx0_8 hx0_10 hx0_11 hx0_12) (elNil (d := kS46) (M := M)) (kS46_mk (cs := (cS46 x1.f3 Ahx1_11 chx1_11 Ahx1_12 chx1_12 Ahx1_14 chx1_14 Ahx1_16 chx1_16 Ahx1_17 chx1_17 Ahx1_18 chx1_18)) x1.f3 rfl hx1_11 hx1_12 hx1_14 hx1_16 hx1_17 hx1_18 hx1_19)) ?_
        rintro _ M0_19 _ ⟨cs0_14, A0_16, c0_17, rc0_18, rfl, rfl, h0_15, h0_19⟩ hM0_19
        obtain ⟨Ah0_15_7, ch0_15_7, Ah0_15_8, ch0_15_8, Ah0_15_10, ch0_15_10, rfl, h0_15_7, h0_15_8, h0_15_10, h0_15_11, h0_15_12⟩ := oS85_open h0_15
        refine fin ?_
        exact to [2, 3, 4] (@f14_j3 _ _ _ M0_19 rc0_18 b0_3 b0_5 c0_17 ch0_15_10 ch0_15_7 ch0_15_8 A0_16 Ah0_15_10 Ah0_15_7 Ah0_15_8 _ _ _ _ _ _ _ _ _ _ _ _ _ _ _ _ _ hm rfl rfl h0_15_7 h0_15_8 h0_15_10 h0_15_11 h0_15_12 h0_19)
      · refine rs [1, 1, 1, 0, 1, 0, 1, 1, 1, 1, 0] [.p 2] [(35, .bool ((x1.f0 : Int) == 2))] [] ?_
        refine gi [1, 1, 1, 0, 1, 0, 1, 1, 1, 1, 1] hm (fun hm => ?_) fun hm => ?_
        · refine rg [1, 1, 1, 0, 1, 0, 1, 1, 1, 1, 1, 0, 0] ?_
          refine seg [.p 1, .l 0, .p 2] [(40, .bool ((x0.f3 : Int) == 2))] [] ?_
          refine gs 40 hm (fun hm => ?_) fun hm => ?_
          · refine seg [.p 1, .l 1, .p 4] [(46, .bool (decide (((x1.f4.length : Int) : Int) ≤ 4096)))] [] ?_
            refine gs 46 hm (fun hm => ?_) fun hm => ?_
            · obtain ⟨t0_20, ht0_20, hm⟩ := bind_some hm
              refine seg [.p 1] [(47, .pointer (some ⟨b0_5, 0, none⟩))] [] ?_
              refine nlI 47 17 ?_
              refine g_call 48 [3, 4] (f36_ok (bx0 := b0_5) (Ax0_15 := none) (cx0_15 := 0) _ _ ht0_20 (oS85_mk (cs := (cS85 (S85.mk x0 ([] : List S46) 0) Ahx0_7 chx0_7 Ahx0_8 chx0_8 Ahx0_10 chx0_10 none 0)) (S85.mk x0 ([] : List S46) 0) rfl hx0_7 hx0_8 hx0_10 hx0_11 hx0_12) (elNil (d := kS46) (M := M))) ?_
              rintro _ _ _ ⟨rfl, rfl, rfl⟩ -
              refine seg [.p 2] [(50, .bool (decide ((t0_20 : Int) < 1152921504606846976)))] [] ?_
              refine fin ?_
              exact to [1, 2, 3, 4] (@f14_j1 _ _ _ M [] b0_2 b0_3 b0_5 chx0_10 chx0_7 chx0_8 chx1_11 chx1_12 chx1_14 chx1_16 chx1_17 chx1_18 chx1_20 chx1_21 0 Ahx0_10 Ahx0_7 Ahx0_8 Ahx1_11 Ahx1_12 Ahx1_14 Ahx1_16 Ahx1_17 Ahx1_18 Ahx1_20 Ahx1_21 none _ _ _ _ hm hx1_11 hx1_12 hx1_14 hx1_16 hx1_17 hx1_18 hx1_19 hx1_20 hx1_21 rfl rfl hx0_7 hx0_8 hx0_10 hx0_11 hx0_12 (elNil (d := kS46) (M := M)))
            · refine seg [.p 4] [(50, .bool false)] [] ?_
              refine fin ?_
              refine nlA 47 17 ?_
              exact to [1, 2, 3, 4] (@f14_j1 _ _ _ M [] b0_2 b0_3 b0_5 chx0_10 chx0_7 chx0_8 chx1_11 chx1_12 chx1_14 chx1_16 chx1_17 chx1_18 chx1_20 chx1_21 0 Ahx0_10 Ahx0_7 Ahx0_8 Ahx1_11 Ahx1_12 Ahx1_14 Ahx1_16 Ahx1_17 Ahx1_18 Ahx1_20 Ahx1_21 none _ _ _ _ hm hx1_11 hx1_12 hx1_14 hx1_16 hx1_17 hx1_18 hx1_19 hx1_20 hx1_21 rfl rfl hx0_7 hx0_8 hx0_10 hx0_11 hx0_12 (elNil (d := kS46) (M := M)))
          · refine seg [.p 10] [(50, .bool false)] [] ?_
            refine fin ?_
            refine nlA 47 17 ?_
            exact to [1, 2, 3, 4] (@f14_j1 _ _ _ M [] b0_2 b0_3 b0_5 chx0_10 chx0_7 chx0_8 chx1_11 chx1_12 chx1_14 chx1_16 chx1_17 chx1_18 chx1_20 chx1_21 0 Ahx0_10 Ahx0_7 Ahx0_8 Ahx1_11 Ahx1_12 Ahx1_14 Ahx1_16 Ahx1_17 Ahx1_18 Ahx1_20 Ahx1_21 none _ _ _ _ hm hx1_11 hx1_12 hx1_14 hx1_16 hx1_17 hx1_18 hx1_19 hx1_20 hx1_21 rfl rfl hx0_7 hx0_8 hx0_10 hx0_11 hx0_12 (elNil (d := kS46) (M := M)))
        · refine rs [1, 1, 1, 0, 1, 0, 1, 1, 1, 1, 1, 1, 0] [.p 2] [(55, .bool ((x1.f0 : Int) == 3))] [] ?_
          refine gi [1, 1, 1, 0, 1, 0, 1, 1, 1, 1, 1, 1, 1] hm (fun hm => ?_) fun hm => ?_
          · obtain ⟨t0_21, ht0_21, hm⟩ := bind_some hm
            refine rg [1, 1, 1, 0, 1, 0, 1, 1, 1, 1, 1, 1, 1, 0] ?_
            refine seg [.p 2, .l 1] [(57, .pointer (some ⟨b0_5, 0, none⟩)), (59, .slice Ahx1_21 x1.f5.length chx1_21)] [] ?_
            refine nlI 47 17 ?_
            refine g_call 60 [3, 4] (f38_ok (bx0 := b0_5) (Ax0_15 := none) (cx0_15 := 0) _ _ _ ht0_21 (oS85_mk (cs := (cS85 (S85.mk x0 ([] : List S46) 0) Ahx0_7 chx0_7 Ahx0_8 chx0_8 Ahx0_10 chx0_10 none 0)) (S85.mk x0 ([] : List S46) 0) rfl hx0_7 hx0_8 hx0_10 hx0_11 hx0_12) (elNil (d := kS46) (M := M)) hx1_21) ?_
            rintro _ M0_27 _ ⟨cs0_22, A0_24, c0_25, rc0_26, rfl, rfl, h0_23, h0_27⟩ hM0_27
            obtain ⟨Ah0_23_7, ch0_23_7, Ah0_23_8, ch0_23_8, Ah0_23_10, ch0_23_10, rfl, h0_23_7, h0_23_8, h0_23_10, h0_23_11, h0_23_12⟩ := oS85_open h0_23
            refine fin ?_
            exact to [2, 3, 4] (@f14_j3 _ _ _ M0_27 rc0_26 b0_3 b0_5 c0_25 ch0_23_10 ch0_23_7 ch0_23_8 A0_24 Ah0_23_10 Ah0_23_7 Ah0_23_8 _ _ _ _ _ _ _ _ _ _ _ _ _ _ _ _ _ hm rfl rfl h0_23_7 h0_23_8 h0_23_10 h0_23_11 h0_23_12 h0_27)
          · refine rs [1, 1, 1, 0, 1, 0, 1, 1, 1, 1, 1, 1, 1, 1, 0] [.p 2] [(61, .bool ((x1.f0 : Int) == 4))] [] ?_
            refine gi [1, 1, 1, 0, 1, 0, 1, 1, 1, 1, 1, 1, 1, 1, 1] hm (fun hm => ?_) fun hm => ?_
            · refine rg [1, 1, 1, 0, 1, 0, 1, 1, 1, 1, 1, 1, 1, 1, 1, 0, 0] ?_
              refine seg [.p 1, .l 1, .p 3, .l 0, .p 2] [(70, .bool (decide ((x1.f2 : Int) > x0.f5.f0.f0)))] [] ?_
              refine gs 70 hm (fun hm => ?_) fun hm => ?_
              · refine seg [.p 1, .l 1, .p 1, .l 0, .p 2] [(76, .bool (decide ((x1.f2 : Int) ≤ x0.f6)))] [] ?_
                refine fin ?_
                exact to [0, 1, 2, 3] (@f14_j2 _ _ _ M b0_1 b0_2 b0_3 b0_5 chx0_10 chx0_7 chx0_8 chx1_11 chx1_12 chx1_14 chx1_16 chx1_17 chx1_18 chx1_20 chx1_21 Ahx0_10 Ahx0_7 Ahx0_8 Ahx1_11 Ahx1_12 Ahx1_14 Ahx1_16 Ahx1_17 Ahx1_18 Ahx1_20 Ahx1_21 _ _ _ hm hx0_7 hx0_8 hx0_10 hx0_11 hx0_12 hx1_11 hx1_12 hx1_14 hx1_16 hx1_17 hx1_18 hx1_19 hx1_20 hx1_21 rfl rfl hx0_7 hx0_8 hx0_10 hx0_11 hx0_12)
              · refine seg [.p 6] [(76, .bool false)] [] ?_
                refine fin ?_
                exact to [0, 1, 2, 3] (@f14_j2 _ _ _ M b0_1 b0_2 b0_3 b0_5 chx0_10 chx0_7 chx0_8 chx1_11 chx1_12 chx1_14 chx1_16 chx1_17 chx1_18 chx1_20 chx1_21 Ahx0_10 Ahx0_7 Ahx0_8 Ahx1_11 Ahx1_12 Ahx1_14 Ahx1_16 Ahx1_17 Ahx1_18 Ahx1_20 Ahx1_21 _ _ _ hm hx0_7 hx0_8 hx0_10 hx0_11 hx0_12 hx1_11 hx1_12 hx1_14 hx1_16 hx1_17 hx1_18 hx1_19 hx1_20 hx1_21 rfl rfl hx0_7 hx0_8 hx0_10 hx0_11 hx0_12)
            · refine nlA 47 17 ?_
              exact to [2, 3, 4] (@f14_j3 _ _ _ M [] b0_3 b0_5 0 chx0_10 chx0_7 chx0_8 none Ahx0_10 Ahx0_7 Ahx0_8 _ _ _ _ _ _ _ _ _ _ _ _ _ _ _ _ _ hm rfl rfl hx0_7 hx0_8 hx0_10 hx0_11 hx0_12 (elNil (d := kS46) (M := M)))

/-! ## heartwood/heartwoodlaw19.up -/
/-- heartwood/heartwoodlaw19.up: what is left behind a call. -/
abbrev R8 (M : Mem) (r : Bool) : Value → Mem → List Res → Prop := fun v M' H' => .bool r = v ∧ M = M' ∧ H' = []
noncomputable def c8 : Code := match Try.f8.body with | some c => c | none => .skip
abbrev C8 (w0 : World) (M0 : Mem) : Ctx := ⟨69, w0, M0, []⟩
abbrev D8 (w0 : World) (M0 : Mem) (r : Bool) : Post := Done Try.prog Try.f8 (C8 w0 M0) (R8 M0 r)
abbrev H8_j1 (w0 : World) (M0 : Mem) (r : Bool) (Lj1 : (S31 × Int) → Int → Int → Int → Int → Int → Int → Int → Int → Int → Int → Int → (List Int) → (List Int) → (List Int) → (List Int) → (List S80) → Option Bool) : Prop := ∀ {M : Mem} {b0_7 cj1_1_0_7_l10 cj1_1_0_7_l7 cj1_1_0_7_l8 : Nat} {Aj1_1_0_7_l10 Aj1_1_0_7_l7 Aj1_1_0_7_l8 : Option Addr} (t0_4 : (S31 × Int)) (xj1_1_0_7_l0 xj1_1_0_7_l1 xj1_1_0_7_l13 xj1_1_0_7_l14 xj1_1_0_7_l2 xj1_1_0_7_l3 xj1_1_0_7_l4 xj1_1_0_7_l5 xj1_1_0_7_l6 xj1_1_0_7_l9 xj1_s3 : Int) (xj1_1_0_7_l10 xj1_1_0_7_l11 xj1_1_0_7_l12 xj1_1_0_7_l7 : List Int) (xj1_1_0_7_l8 : List S80) (_ : Lj1 t0_4 xj1_1_0_7_l0 xj1_1_0_7_l1 xj1_1_0_7_l13 xj1_1_0_7_l14 xj1_1_0_7_l2 xj1_1_0_7_l3 xj1_1_0_7_l4 xj1_1_0_7_l5 xj1_1_0_7_l6 xj1_1_0_7_l9 xj1_s3 xj1_1_0_7_l10 xj1_1_0_7_l11 xj1_1_0_7_l12 xj1_1_0_7_l7 xj1_1_0_7_l8 = some r) (_ : SlAt (kint .i64) M Aj1_1_0_7_l7 cj1_1_0_7_l7 xj1_1_0_7_l7) (_ : SlAt kS80 M Aj1_1_0_7_l8 cj1_1_0_7_l8 xj1_1_0_7_l8) (_ : SlAt (kint .i64) M Aj1_1_0_7_l10 cj1_1_0_7_l10 xj1_1_0_7_l10) (_ : xj1_1_0_7_l11.length = 8) (_ : xj1_1_0_7_l12.length = 8), AG Try.prog c8 [1, 1, 0, 1, 0] (D8 w0 M0 r) (C8 w0 M0) (env [(1, .pointer (some ⟨b0_7, 0, none⟩)), (2, errV 39 t0_4.2), (3, .int .i64 xj1_s3)]) M [.blk b0_7 (cS31 (S31.mk xj1_1_0_7_l0 xj1_1_0_7_l1 xj1_1_0_7_l2 xj1_1_0_7_l3 xj1_1_0_7_l4 (S26.mk (S23.mk xj1_1_0_7_l5 xj1_1_0_7_l6 xj1_1_0_7_l7) xj1_1_0_7_l8) xj1_1_0_7_l9 xj1_1_0_7_l10 xj1_1_0_7_l11 xj1_1_0_7_l12 xj1_1_0_7_l13 xj1_1_0_7_l14) Aj1_1_0_7_l7 cj1_1_0_7_l7 Aj1_1_0_7_l8 cj1_1_0_7_l8 Aj1_1_0_7_l10 cj1_1_0_7_l10) 32]
theorem f8_j2 {w0 : World} {M0 : Mem} {r : Bool} : ∀ {M : Mem} (xj2_s0 : Bool) (_ : m8_j2 xj2_s0 = some r), AG Try.prog c8 [1, 1, 1, 1, 1] (D8 w0 M0 r) (C8 w0 M0) (env [(0, .bool xj2_s0)]) M [] := by
  intro M xj2_s0 hm; unfold m8_j2 at hm
  obtain rfl := Option.some.inj hm
  exact rtp (v := .bool xj2_s0) [] ⟨rfl, rfl, rfl⟩
theorem f8_j1 {w0 : World} {M0 : Mem} {r : Bool} : ∀ k, H8_j1 w0 M0 r (m8_j1 k) := by
  intro k; induction k with
  | zero => intro M b0_7 cj1_1_0_7_l10 cj1_1_0_7_l7 cj1_1_0_7_l8 Aj1_1_0_7_l10 Aj1_1_0_7_l7 Aj1_1_0_7_l8 t0_4 xj1_1_0_7_l0 xj1_1_0_7_l1 xj1_1_0_7_l13 xj1_1_0_7_l14 xj1_1_0_7_l2 xj1_1_0_7_l3 xj1_1_0_7_l4 xj1_1_0_7_l5 xj1_1_0_7_l6 xj1_1_0_7_l9 xj1_s3 xj1_1_0_7_l10 xj1_1_0_7_l11 xj1_1_0_7_l12 xj1_1_0_7_l7 xj1_1_0_7_l8 hm; exact absurd hm (by simp [m8_j1])
  | succ k ihj1 =>
    intro M b0_7 cj1_1_0_7_l10 cj1_1_0_7_l7 cj1_1_0_7_l8 Aj1_1_0_7_l10 Aj1_1_0_7_l7 Aj1_1_0_7_l8 t0_4 xj1_1_0_7_l0 xj1_1_0_7_l1 xj1_1_0_7_l13 xj1_1_0_7_l14 xj1_1_0_7_l2 xj1_1_0_7_l3 xj1_1_0_7_l4 xj1_1_0_7_l5 xj1_1_0_7_l6 xj1_1_0_7_l9 xj1_s3 xj1_1_0_7_l10 xj1_1_0_7_l11 xj1_1_0_7_l12 xj1_1_0_7_l7 xj1_1_0_7_l8 hm hj1_1_0_7_l7 hj1_1_0_7_l8 hj1_1_0_7_l10 lj1_1_0_7_l11 lj1_1_0_7_l12
    rw [m8_j1.eq_2] at hm
    refine gl [1, 1, 0, 1, 0] plain_done ?_
    refine rs [1, 1, 0, 1, 0, 0, 0, 0] [.p 2] [(20, .bool (decide ((xj1_s3 : Int) < 10)))] [] ?_
    refine gi [1, 1, 0, 1, 0, 0, 0, 1] hm (fun hm => ?_) fun hm => ?_
    · obtain ⟨tj1_1, htj1_1, hm⟩ := bind_some hm
      refine rg [1, 1, 0, 1, 0, 0, 1, 0, 0, 0] ?_
      refine seg [.l 0, .b] [(24, .agg (cS31 (S31.mk xj1_1_0_7_l0 xj1_1_0_7_l1 xj1_1_0_7_l2 xj1_1_0_7_l3 xj1_1_0_7_l4 (S26.mk (S23.mk xj1_1_0_7_l5 xj1_1_0_7_l6 xj1_1_0_7_l7) xj1_1_0_7_l8) xj1_1_0_7_l9 xj1_1_0_7_l10 xj1_1_0_7_l11 xj1_1_0_7_l12 xj1_1_0_7_l13 xj1_1_0_7_l14) Aj1_1_0_7_l7 cj1_1_0_7_l7 Aj1_1_0_7_l8 cj1_1_0_7_l8 Aj1_1_0_7_l10 cj1_1_0_7_l10).toArray), (25, .agg (cS48 (S48.mk 0 0 0 (S46.mk 0 0 0 0 0 0 0 false [] [] 0 [] (S44.mk 0 [] [] [] (.slice none 0 0))) [] []) none 0 none 0 none 0 none 0 none 0 none 0 none 0 none 0).toArray)] [] ?_
      refine g_call0 26 (f14_ok _ _ _ htj1_1 (kS31_mk (cs := (cS31 (S31.mk xj1_1_0_7_l0 xj1_1_0_7_l1 xj1_1_0_7_l2 xj1_1_0_7_l3 xj1_1_0_7_l4 (S26.mk (S23.mk xj1_1_0_7_l5 xj1_1_0_7_l6 xj1_1_0_7_l7) xj1_1_0_7_l8) xj1_1_0_7_l9 xj1_1_0_7_l10 xj1_1_0_7_l11 xj1_1_0_7_l12 xj1_1_0_7_l13 xj1_1_0_7_l14) Aj1_1_0_7_l7 cj1_1_0_7_l7 Aj1_1_0_7_l8 cj1_1_0_7_l8 Aj1_1_0_7_l10 cj1_1_0_7_l10)) (S31.mk xj1_1_0_7_l0 xj1_1_0_7_l1 xj1_1_0_7_l2 xj1_1_0_7_l3 xj1_1_0_7_l4 (S26.mk (S23.mk xj1_1_0_7_l5 xj1_1_0_7_l6 xj1_1_0_7_l7) xj1_1_0_7_l8) xj1_1_0_7_l9 xj1_1_0_7_l10 xj1_1_0_7_l11 xj1_1_0_7_l12 xj1_1_0_7_l13 xj1_1_0_7_l14) rfl hj1_1_0_7_l7 hj1_1_0_7_l8 hj1_1_0_7_l10 lj1_1_0_7_l11 lj1_1_0_7_l12) (kS48_mk (cs := (cS48 (S48.mk 0 0 0 (S46.mk 0 0 0 0 0 0 0 false [] [] 0 [] (S44.mk 0 [] [] [] (.slice none 0 0))) [] []) none 0 none 0 none 0 none 0 none 0 none 0 none 0 none 0)) (S48.mk 0 0 0 (S46.mk 0 0 0 0 0 0 0 false [] [] 0 [] (S44.mk 0 [] [] [] (.slice none 0 0))) [] []) rfl slNil slNil slNil slNil slNil slNil slNil slNil rfl)) ?_
      rintro _ Mj1_6 _ ⟨csj1_2, Aj1_4, cj1_5, rfl, rfl, hj1_3, hj1_6⟩ hMj1_6
      obtain ⟨Ahj1_3_7, chj1_3_7, Ahj1_3_8, chj1_3_8, Ahj1_3_10, chj1_3_10, rfl, hj1_3_7, hj1_3_8, hj1_3_10, hj1_3_11, hj1_3_12⟩ := kS31_open hj1_3
      refine seg [.p 5] [(27, .agg (cS31 (S31.mk tj1_1.1.f0 tj1_1.1.f1 tj1_1.1.f2 tj1_1.1.f3 tj1_1.1.f4 (S26.mk (S23.mk tj1_1.1.f5.f0.f0 tj1_1.1.f5.f0.f1 tj1_1.1.f5.f0.f2) tj1_1.1.f5.f1) tj1_1.1.f6 tj1_1.1.f7 tj1_1.1.f8 tj1_1.1.f9 tj1_1.1.f10 tj1_1.1.f11) Ahj1_3_7 chj1_3_7 Ahj1_3_8 chj1_3_8 Ahj1_3_10 chj1_3_10).toArray), (28, .slice Aj1_4 tj1_1.2.1.length cj1_5), (29, .int .i64 tj1_1.2.2.1), (30, errV 39 tj1_1.2.2.2)] [] ?_
      refine g_al 4 32 (cS31 (S31.mk 0 0 0 0 0 (S26.mk (S23.mk 0 0 []) []) 0 [] [0, 0, 0, 0, 0, 0, 0, 0] [0, 0, 0, 0, 0, 0, 0, 0] 0 0) none 0 none 0 none 0) fun bj1_7 => ?_
      refine seg [.s 1, .p 3] [(7, errV 39 tj1_1.2.2.2)] [(1, .blk bj1_7 (cS31 (S31.mk tj1_1.1.f0 tj1_1.1.f1 tj1_1.1.f2 tj1_1.1.f3 tj1_1.1.f4 (S26.mk (S23.mk tj1_1.1.f5.f0.f0 tj1_1.1.f5.f0.f1 tj1_1.1.f5.f0.f2) tj1_1.1.f5.f1) tj1_1.1.f6 tj1_1.1.f7 tj1_1.1.f8 tj1_1.1.f9 tj1_1.1.f10 tj1_1.1.f11) Ahj1_3_7 chj1_3_7 Ahj1_3_8 chj1_3_8 Ahj1_3_10 chj1_3_10) 32)] ?_
      refine fin ?_
      refine rs [1, 1, 0, 1, 0, 0, 1, 0, 0, 1, 0, 0] [.p 1, .e 39 tj1_1.2.2.2] [(32, .bool ((tj1_1.2.2.2 : Int) != 0))] [] ?_
      refine gi [1, 1, 0, 1, 0, 0, 1, 0, 0, 1, 0, 1] hm (fun hm => ?_) fun hm => ?_
      · refine rs [1, 1, 0, 1, 0, 0, 1, 0, 0, 1, 0, 1, 0, 0] [.p 1] [(0, .bool false)] [] ?_
        obtain rfl := Option.some.inj hm
        exact rtp (v := .bool false) [] ⟨rfl, rfl, rfl⟩
      · refine rs [1, 1, 0, 1, 0, 0, 1, 0, 0, 1, 1] [.l 1, .s 0] [] [(0, .blk b0_7 (cS31 (S31.mk tj1_1.1.f0 tj1_1.1.f1 tj1_1.1.f2 tj1_1.1.f3 tj1_1.1.f4 (S26.mk (S23.mk tj1_1.1.f5.f0.f0 tj1_1.1.f5.f0.f1 tj1_1.1.f5.f0.f2) tj1_1.1.f5.f1) tj1_1.1.f6 tj1_1.1.f7 tj1_1.1.f8 tj1_1.1.f9 tj1_1.1.f10 tj1_1.1.f11) Ahj1_3_7 chj1_3_7 Ahj1_3_8 chj1_3_8 Ahj1_3_10 chj1_3_10) 32)] ?_
        refine rs [1, 1, 0, 1, 0, 0, 1, 1] [.p 3] [(3, .int .i64 (IntKind.i64.wrap (xj1_s3 + 1)))] [] ?_
        exact to [0] (@ihj1 Mj1_6 b0_7 chj1_3_10 chj1_3_7 chj1_3_8 Ahj1_3_10 Ahj1_3_7 Ahj1_3_8 _ _ _ _ _ _ _ _ _ _ _ _ _ _ _ _ _ hm hj1_3_7 hj1_3_8 hj1_3_10 hj1_3_11 hj1_3_12)
    · refine rg [1, 1, 1, 0] ?_
      refine seg [.l 0] [(35, .agg (cS31 (S31.mk xj1_1_0_7_l0 xj1_1_0_7_l1 xj1_1_0_7_l2 xj1_1_0_7_l3 xj1_1_0_7_l4 (S26.mk (S23.mk xj1_1_0_7_l5 xj1_1_0_7_l6 xj1_1_0_7_l7) xj1_1_0_7_l8) xj1_1_0_7_l9 xj1_1_0_7_l10 xj1_1_0_7_l11 xj1_1_0_7_l12 xj1_1_0_7_l13 xj1_1_0_7_l14) Aj1_1_0_7_l7 cj1_1_0_7_l7 Aj1_1_0_7_l8 cj1_1_0_7_l8 Aj1_1_0_7_l10 cj1_1_0_7_l10).toArray)] [] ?_
      have ej1_8 : Elems (kint .u8) M [.int .u8 97] ([97] : List Int) := (elCons (d := (kint .u8)) (M := M) (a := [.int .u8 97]) (x := 97) rfl elNil)
      refine g_bs 36 5 1 1 [.int .u8 97] fun bj1_9 => ?_
      refine g_cvB 37 1 5 (some ⟨bj1_9, 0, none⟩) 1 (g := bj1_9) (o := 0) rfl ej1_8 fun Mhj1_10 lhj1_10 hj1_10 => ?_
      obtain ⟨tj1_11, htj1_11, hm⟩ := bind_some hm
      refine seg [.b] [(38, .agg (cS48 (S48.mk 2 0 0 (S46.mk 0 0 0 0 0 0 0 false [] [] 0 [] (S44.mk 0 [] [] [] (.slice none 0 0))) ([97] : List Int) []) none 0 none 0 none 0 none 0 none 0 none 0 (some ⟨bj1_9, 0, none⟩) 1 none 0).toArray)] [] ?_
      replace hj1_1_0_7_l7 := (hj1_1_0_7_l7.mono lhj1_10)
      replace hj1_1_0_7_l8 := (hj1_1_0_7_l8.mono lhj1_10)
      replace hj1_1_0_7_l10 := (hj1_1_0_7_l10.mono lhj1_10)
      refine g_call0 39 (f14_ok _ _ _ htj1_11 (kS31_mk (cs := (cS31 (S31.mk xj1_1_0_7_l0 xj1_1_0_7_l1 xj1_1_0_7_l2 xj1_1_0_7_l3 xj1_1_0_7_l4 (S26.mk (S23.mk xj1_1_0_7_l5 xj1_1_0_7_l6 xj1_1_0_7_l7) xj1_1_0_7_l8) xj1_1_0_7_l9 xj1_1_0_7_l10 xj1_1_0_7_l11 xj1_1_0_7_l12 xj1_1_0_7_l13 xj1_1_0_7_l14) Aj1_1_0_7_l7 cj1_1_0_7_l7 Aj1_1_0_7_l8 cj1_1_0_7_l8 Aj1_1_0_7_l10 cj1_1_0_7_l10)) (S31.mk xj1_1_0_7_l0 xj1_1_0_7_l1 xj1_1_0_7_l2 xj1_1_0_7_l3 xj1_1_0_7_l4 (S26.mk (S23.mk xj1_1_0_7_l5 xj1_1_0_7_l6 xj1_1_0_7_l7) xj1_1_0_7_l8) xj1_1_0_7_l9 xj1_1_0_7_l10 xj1_1_0_7_l11 xj1_1_0_7_l12 xj1_1_0_7_l13 xj1_1_0_7_l14) rfl hj1_1_0_7_l7 hj1_1_0_7_l8 hj1_1_0_7_l10 lj1_1_0_7_l11 lj1_1_0_7_l12) (kS48_mk (cs := (cS48 (S48.mk 2 0 0 (S46.mk 0 0 0 0 0 0 0 false [] [] 0 [] (S44.mk 0 [] [] [] (.slice none 0 0))) ([97] : List Int) []) none 0 none 0 none 0 none 0 none 0 none 0 (some ⟨bj1_9, 0, none⟩) 1 none 0)) (S48.mk 2 0 0 (S46.mk 0 0 0 0 0 0 0 false [] [] 0 [] (S44.mk 0 [] [] [] (.slice none 0 0))) ([97] : List Int) []) rfl slNil slNil slNil slNil slNil slNil hj1_10 slNil rfl)) ?_
      rintro _ Mj1_16 _ ⟨csj1_12, Aj1_14, cj1_15, rfl, rfl, hj1_13, hj1_16⟩ hMj1_16
      obtain ⟨Ahj1_13_7, chj1_13_7, Ahj1_13_8, chj1_13_8, Ahj1_13_10, chj1_13_10, rfl, hj1_13_7, hj1_13_8, hj1_13_10, hj1_13_11, hj1_13_12⟩ := kS31_open hj1_13
      refine seg [.p 5] [(40, .agg (cS31 (S31.mk tj1_11.1.f0 tj1_11.1.f1 tj1_11.1.f2 tj1_11.1.f3 tj1_11.1.f4 (S26.mk (S23.mk tj1_11.1.f5.f0.f0 tj1_11.1.f5.f0.f1 tj1_11.1.f5.f0.f2) tj1_11.1.f5.f1) tj1_11.1.f6 tj1_11.1.f7 tj1_11.1.f8 tj1_11.1.f9 tj1_11.1.f10 tj1_11.1.f11) Ahj1_13_7 chj1_13_7 Ahj1_13_8 chj1_13_8 Ahj1_13_10 chj1_13_10).toArray), (41, .slice Aj1_14 tj1_11.2.1.length cj1_15), (42, .int .i64 tj1_11.2.2.1), (43, errV 39 tj1_11.2.2.2)] [] ?_
      refine g_al 8 32 (cS31 (S31.mk 0 0 0 0 0 (S26.mk (S23.mk 0 0 []) []) 0 [] [0, 0, 0, 0, 0, 0, 0, 0] [0, 0, 0, 0, 0, 0, 0, 0] 0 0) none 0 none 0 none 0) fun bj1_17 => ?_
      refine seg [.s 2, .p 3] [(10, .int .i64 tj1_11.2.2.1), (11, errV 39 tj1_11.2.2.2)] [(2, .blk bj1_17 (cS31 (S31.mk tj1_11.1.f0 tj1_11.1.f1 tj1_11.1.f2 tj1_11.1.f3 tj1_11.1.f4 (S26.mk (S23.mk tj1_11.1.f5.f0.f0 tj1_11.1.f5.f0.f1 tj1_11.1.f5.f0.f2) tj1_11.1.f5.f1) tj1_11.1.f6 tj1_11.1.f7 tj1_11.1.f8 tj1_11.1.f9 tj1_11.1.f10 tj1_11.1.f11) Ahj1_13_7 chj1_13_7 Ahj1_13_8 chj1_13_8 Ahj1_13_10 chj1_13_10) 32)] ?_
      refine fin ?_
      refine rg [1, 1, 1, 1, 0] ?_
      refine seg [.p 1, .e 39 t0_4.2, .p 1] [(46, .bool ((t0_4.2 : Int) == 0))] [] ?_
      refine gs 46 hm (fun hm => ?_) fun hm => ?_
      · refine seg [.p 1, .l 0, .p 3] [(51, .bool ((xj1_1_0_7_l3 : Int) == 2))] [] ?_
        refine gs 51 hm (fun hm => ?_) fun hm => ?_
        · refine seg [.p 1, .l 0, .p 3] [(56, .bool ((xj1_1_0_7_l9 : Int) == 1))] [] ?_
          refine gs 56 hm (fun hm => ?_) fun hm => ?_
          · refine seg [.p 1, .e 39 tj1_11.2.2.2, .p 2] [(60, .bool ((tj1_11.2.2.2 : Int) == 0))] [] ?_
            refine gs 60 hm (fun hm => ?_) fun hm => ?_
            · refine seg [.p 4] [(64, .bool ((tj1_11.2.2.1 : Int) == 2))] [] ?_
              refine gs 64 hm (fun hm => ?_) fun hm => ?_
              · refine seg [.p 1, .l 2, .p 3] [(0, .bool ((tj1_11.1.f6 : Int) == 2))] [] ?_
                refine fin ?_
                exact to [] (@f8_j2 _ _ _ Mj1_16 _ hm)
              · refine seg [.p 5] [(0, .bool false)] [] ?_
                refine fin ?_
                exact to [] (@f8_j2 _ _ _ Mj1_16 _ hm)
            · refine seg [.p 9] [(0, .bool false)] [] ?_
              refine fin ?_
              exact to [] (@f8_j2 _ _ _ Mj1_16 _ hm)
          · refine seg [.p 13] [(0, .bool false)] [] ?_
            refine fin ?_
            exact to [] (@f8_j2 _ _ _ Mj1_16 _ hm)
        · refine seg [.p 18] [(0, .bool false)] [] ?_
          refine fin ?_
          exact to [] (@f8_j2 _ _ _ Mj1_16 _ hm)
      · refine seg [.p 23] [(0, .bool false)] [] ?_
        refine fin ?_
        exact to [] (@f8_j2 _ _ _ Mj1_16 _ hm)
theorem f8_ok {M : Mem} (r : Bool) (hm : m8 = some r) : FnOk Try.prog 8 [] M [] (R8 M r) := by
  refine intro_ (c := c8) 69 Try.func8 fun w => ?_
  unfold m8 at hm
  refine rs [0] [.p 1] [] [] ?_
  refine rg [1, 0] ?_
  have e0_1 : Elems (kint .i64) M [.int .i64 1] ([1] : List Int) := (elCons (d := (kint .i64)) (M := M) (a := [.int .i64 1]) (x := 1) rfl elNil)
  refine g_bs 13 3 1 1 [.int .i64 1] fun b0_2 => ?_
  obtain ⟨t0_4, ht0_4, hm⟩ := bind_some hm
  refine seg [.b, .b] [(15, .agg (cS26 (S26.mk (S23.mk 0 0 ([1] : List Int)) []) (some ⟨b0_2, 0, none⟩) 1 none 0).toArray)] [] ?_
  refine fzI 0 3 (some ⟨b0_2, 0, none⟩) 1 e0_1 fun Mh0_3 lh0_3 h0_3 => ?_
  refine g_call0 16 (f10_ok _ _ _ _ _ _ ht0_4 (kS26_mk (cs := (cS26 (S26.mk (S23.mk 0 0 ([1] : List Int)) []) (some ⟨b0_2, 0, none⟩) 1 none 0)) (S26.mk (S23.mk 0 0 ([1] : List Int)) []) rfl h0_3 slNil)) ?_
  rintro _ M0_6 _ ⟨cs0_5, rfl, rfl, h0_6⟩ hM0_6
  obtain ⟨Ah0_6_7, ch0_6_7, Ah0_6_8, ch0_6_8, Ah0_6_10, ch0_6_10, rfl, h0_6_7, h0_6_8, h0_6_10, h0_6_11, h0_6_12⟩ := kS31_open h0_6
  refine seg [.p 3] [(17, .agg (cS31 (S31.mk t0_4.1.f0 t0_4.1.f1 t0_4.1.f2 t0_4.1.f3 t0_4.1.f4 (S26.mk (S23.mk t0_4.1.f5.f0.f0 t0_4.1.f5.f0.f1 t0_4.1.f5.f0.f2) t0_4.1.f5.f1) t0_4.1.f6 t0_4.1.f7 t0_4.1.f8 t0_4.1.f9 t0_4.1.f10 t0_4.1.f11) Ah0_6_7 ch0_6_7 Ah0_6_8 ch0_6_8 Ah0_6_10 ch0_6_10).toArray), (18, errV 39 t0_4.2)] [] ?_
  refine g_al 1 32 (cS31 (S31.mk 0 0 0 0 0 (S26.mk (S23.mk 0 0 []) []) 0 [] [0, 0, 0, 0, 0, 0, 0, 0] [0, 0, 0, 0, 0, 0, 0, 0] 0 0) none 0 none 0 none 0) fun b0_7 => ?_
  refine seg [.s 1, .p 1] [(2, errV 39 t0_4.2)] [(1, .blk b0_7 (cS31 (S31.mk t0_4.1.f0 t0_4.1.f1 t0_4.1.f2 t0_4.1.f3 t0_4.1.f4 (S26.mk (S23.mk t0_4.1.f5.f0.f0 t0_4.1.f5.f0.f1 t0_4.1.f5.f0.f2) t0_4.1.f5.f1) t0_4.1.f6 t0_4.1.f7 t0_4.1.f8 t0_4.1.f9 t0_4.1.f10 t0_4.1.f11) Ah0_6_7 ch0_6_7 Ah0_6_8 ch0_6_8 Ah0_6_10 ch0_6_10) 32)] ?_
  refine fin ?_
  refine rs [1, 1, 0, 0] [.p 1] [(3, .int .i64 0)] [] ?_
  exact to [1] (@f8_j1 _ _ _ FUEL M0_6 b0_7 ch0_6_10 ch0_6_7 ch0_6_8 Ah0_6_10 Ah0_6_7 Ah0_6_8 _ _ _ _ _ _ _ _ _ _ _ _ _ _ _ _ _ hm h0_6_7 h0_6_8 h0_6_10 h0_6_11 h0_6_12)

/-! ## heartwood/heartwoodref18.Light -/
/-- heartwood/heartwoodref18.Light: what is left behind a call. -/
abbrev R9 (M : Mem) (r : Bool) : Value → Mem → List Res → Prop := fun v M' H' => .bool r = v ∧ M = M' ∧ H' = []
noncomputable def c9 : Code := match Try.f9.body with | some c => c | none => .skip
abbrev C9 (w0 : World) (M0 : Mem) : Ctx := ⟨30, w0, M0, []⟩
abbrev D9 (w0 : World) (M0 : Mem) (r : Bool) : Post := Done Try.prog Try.f9 (C9 w0 M0) (R9 M0 r)
abbrev H9_j2 (w0 : World) (M0 : Mem) (r : Bool) (Lj2 : Int → S26 → Option Bool) : Prop := ∀ {M : Mem} {b0_1 chx0_2 chx0_3 : Nat} {Ahx0_2 Ahx0_3 : Option Addr} (xj2_s3 : Int) (x0 : S26) (_ : Lj2 xj2_s3 x0 = some r) (_ : SlAt (kint .i64) M Ahx0_2 chx0_2 x0.f0.f2) (_ : SlAt kS80 M Ahx0_3 chx0_3 x0.f1), AG Try.prog c9 [1, 1, 0, 1, 0] (D9 w0 M0 r) (C9 w0 M0) (env [(1, .pointer (some ⟨b0_1, 0, none⟩)), (3, .int .i64 xj2_s3)]) M [.blk b0_1 (cS26 x0 Ahx0_2 chx0_2 Ahx0_3 chx0_3) 27]
theorem f9_j2 {w0 : World} {M0 : Mem} {r : Bool} : ∀ k, H9_j2 w0 M0 r (m9_j2 k) := by
  intro k; induction k with
  | zero => intro M b0_1 chx0_2 chx0_3 Ahx0_2 Ahx0_3 xj2_s3 x0 hm; exact absurd hm (by simp [m9_j2])
  | succ k ihj2 =>
    intro M b0_1 chx0_2 chx0_3 Ahx0_2 Ahx0_3 xj2_s3 x0 hm hj2_0_0_l2 hj2_0_0_l3
    rw [m9_j2.eq_2] at hm
    refine gl [1, 1, 0, 1, 0] plain_done ?_
    refine rs [1, 1, 0, 1, 0, 0, 0, 0] [.p 2, .l 0, .p 2] [(19, .bool (decide ((xj2_s3 : Int) < (x0.f1.length : Int))))] [] ?_
    refine gi [1, 1, 0, 1, 0, 0, 0, 1] hm (fun hm => ?_) fun hm => ?_
    · obtain ⟨ej2_1, bj2_2, fj2_3, kj2_4, Wj2_5, hm, haej2_1, hbej2_1, hmej2_1, hwej2_1, hrej2_1⟩ := ixo hm hj2_0_0_l3
      obtain ⟨Ahrej2_1_2, chrej2_1_2, hcej2_1, hrej2_1_2⟩ := kS80_open hrej2_1
      replace hwej2_1 := hwej2_1.trans hcej2_1
      refine rg [1, 1, 0, 1, 0, 0, 1, 0, 0, 0] ?_
      refine seg [.p 1, .l 0, .p 1] [(23, .slice Ahx0_3 x0.f1.length chx0_3), (24, .int .i64 xj2_s3)] [] ?_
      refine g_ix 25 3 haej2_1 hbej2_1 ?_
      refine seg [.p 1] [(26, .pointer (some ⟨bj2_2, (fj2_3 + xj2_s3.toNat * 3) + 2, none⟩))] [] ?_
      refine g_lw 27 2 (.slice Ahrej2_1_2 ej2_1.f2.length chrej2_1_2) hmej2_1 hwej2_1 ?_
      refine seg [.p 2] [(29, .bool (decide (((ej2_1.f2.length : Int) : Int) > 5000)))] [] ?_
      refine fin ?_
      refine gi [1, 1, 0, 1, 0, 0, 1, 0, 0, 1] hm (fun hm => ?_) fun hm => ?_
      · refine rs [1, 1, 0, 1, 0, 0, 1, 0, 0, 1, 0, 0] [.p 1] [(2, .bool false)] [] ?_
        obtain rfl := Option.some.inj hm
        exact rtp (v := .bool false) [] ⟨rfl, rfl, rfl⟩
      · refine rs [1, 1, 0, 1, 0, 0, 1, 1] [.p 3] [(3, .int .i64 (IntKind.i64.wrap (xj2_s3 + 1)))] [] ?_
        exact to [0] (@ihj2 M b0_1 chx0_2 chx0_3 Ahx0_2 Ahx0_3 _ _ hm hj2_0_0_l2 hj2_0_0_l3)
    · refine rs [1, 1, 1, 0] [.p 1] [(2, .bool true)] [] ?_
      obtain rfl := Option.some.inj hm
      exact rtp (v := .bool true) [] ⟨rfl, rfl, rfl⟩
theorem f9_j1 {w0 : World} {M0 : Mem} {r : Bool} : ∀ {M : Mem} {b0_1 chx0_2 chx0_3 : Nat} {Ahx0_2 Ahx0_3 : Option Addr} (xj1_s14 : Bool) (x0 : S26) (_ : m9_j1 xj1_s14 x0 = some r) (_ : SlAt (kint .i64) M Ahx0_2 chx0_2 x0.f0.f2) (_ : SlAt kS80 M Ahx0_3 chx0_3 x0.f1), AG Try.prog c9 [1, 0, 1] (D9 w0 M0 r) (C9 w0 M0) (env [(1, .pointer (some ⟨b0_1, 0, none⟩)), (14, .bool xj1_s14)]) M [.blk b0_1 (cS26 x0 Ahx0_2 chx0_2 Ahx0_3 chx0_3) 27] := by
  intro M b0_1 chx0_2 chx0_3 Ahx0_2 Ahx0_3 xj1_s14 x0 hm hj1_0_0_l2 hj1_0_0_l3; unfold m9_j1 at hm
  refine gi [1, 0, 1] hm (fun hm => ?_) fun hm => ?_
  · refine rs [1, 0, 1, 0, 0] [.p 1] [(2, .bool false)] [] ?_
    obtain rfl := Option.some.inj hm
    exact rtp (v := .bool false) [] ⟨rfl, rfl, rfl⟩
  · refine rs [1, 1, 0, 0] [.p 1] [(3, .int .i64 0)] [] ?_
    exact to [0] (@f9_j2 _ _ _ FUEL M b0_1 chx0_2 chx0_3 Ahx0_2 Ahx0_3 _ _ hm hj1_0_0_l2 hj1_0_0_l3)
theorem f9_ok {M : Mem} {csx0 : List Value} (x0 : S26) (r : Bool) (hm : m9 x0 = some r) (hx0 : kS26.rep M csx0 x0) : FnOk Try.prog 9 [.agg csx0.toArray] M [] (R9 M r) := by
  obtain ⟨Ahx0_2, chx0_2, Ahx0_3, chx0_3, rfl, hx0_2, hx0_3⟩ := kS26_open hx0
  refine intro_ (c := c9) 30 Try.func9 fun w => ?_
  unfold m9 at hm
  refine rg [0] ?_
  refine g_bx 1 27 (.agg (cS26 x0 Ahx0_2 chx0_2 Ahx0_3 chx0_3).toArray) fun b0_1 => ?_
  refine seg [.p 1] [] [] ?_
  refine fin ?_
  refine rg [1, 0, 0] ?_
  refine seg [.p 1, .l 0, .p 3] [(8, .bool (decide (((x0.f1.length : Int) : Int) > 200)))] [] ?_
  refine gs 8 hm (fun hm => ?_) fun hm => ?_
  · refine seg [.p 6] [(14, .bool true)] [] ?_
    refine fin ?_
    exact to [0] (@f9_j1 _ _ _ M b0_1 chx0_2 chx0_3 Ahx0_2 Ahx0_3 _ _ hm hx0_2 hx0_3)
  · refine seg [.p 2, .l 0, .p 3] [(14, .bool (decide (((x0.f0.f2.length : Int) : Int) > 100)))] [] ?_
    refine fin ?_
    exact to [0] (@f9_j1 _ _ _ M b0_1 chx0_2 chx0_3 Ahx0_2 Ahx0_3 _ _ hm hx0_2 hx0_3)

/-! ## heartwood/heartwoodref19.timeout -/
/-- heartwood/heartwoodref19.timeout: what is left behind a call. -/
abbrev R30 (M : Mem) (r : Int) : Value → Mem → List Res → Prop := fun v M' H' => .int .i64 r = v ∧ M = M' ∧ H' = []
noncomputable def c30 : Code := match Try.f30.body with | some c => c | none => .skip
theorem f30_ok {M : Mem} (x0 : Int) (r : Int) (hm : m30 x0 = some r) : FnOk Try.prog 30 [.int .i64 x0] M [] (R30 M r) := by
  refine intro_ (c := c30) 8 Try.func30 fun w => ?_
  unfold m30 at hm
  refine rs [0] [.p 1] [] [] ?_
  refine rg [1, 0] ?_
  refine seg [.p 1] [(3, .int .i64 x0)] [] ?_
  refine g_rem (kd := .i64) (x := x0) (y := 10) 4 (by kernel_rfl) ?_ (by kernel_rfl) (by kernel_rfl)
  refine seg [.p 1] [(5, .int .i64 (IntKind.i64.wrap ((Int.tmod x0 10) + 10)))] [] ?_
  refine g_rem (kd := .i64) (x := (IntKind.i64.wrap ((Int.tmod x0 10) + 10))) (y := 10) 6 (by kernel_rfl) ?_ (by kernel_rfl) (by kernel_rfl)
  refine seg [.p 2] [(2, .int .i64 (IntKind.i64.wrap (10 + (Int.tmod (IntKind.i64.wrap ((Int.tmod x0 10) + 10)) 10))))] [] ?_
  refine fin ?_
  obtain rfl := Option.some.inj hm
  exact rtp (v := .int .i64 (IntKind.i64.wrap (10 + (Int.tmod (IntKind.i64.wrap ((Int.tmod x0 10) + 10)) 10)))) [] ⟨rfl, rfl, rfl⟩

/-! ## heartwood/heartwoodref17.May -/
/-- heartwood/heartwoodref17.May: what is left behind a call. -/
abbrev R83 (M : Mem) (r : Bool) : Value → Mem → List Res → Prop := fun v M' H' => .bool r = v ∧ M = M' ∧ H' = []
noncomputable def c83 : Code := match Try.f83.body with | some c => c | none => .skip
abbrev C83 (w0 : World) (M0 : Mem) : Ctx := ⟨46, w0, M0, []⟩
abbrev D83 (w0 : World) (M0 : Mem) (r : Bool) : Post := Done Try.prog Try.f83 (C83 w0 M0) (R83 M0 r)
abbrev H83_j2 (w0 : World) (M0 : Mem) (r : Bool) (Lj2 : Int → (List Int) → Option Bool) : Prop := ∀ {M : Mem} {cx0 : Nat} {Ax0 : Option Addr} (xj2_s3 : Int) (x0 : List Int) (_ : Lj2 xj2_s3 x0 = some r) (_ : SlAt (kint .i64) M Ax0 cx0 x0), AG Try.prog c83 [1, 1, 0, 1, 0] (D83 w0 M0 r) (C83 w0 M0) (env [(0, .slice Ax0 x0.length cx0), (3, .int .i64 xj2_s3)]) M []
theorem f83_j3 {w0 : World} {M0 : Mem} {r : Bool} {Lj2 : Int → (List Int) → Option Bool} (ihj2 : H83_j2 w0 M0 r Lj2) : ∀ {M : Mem} {cx0 : Nat} {Ax0 : Option Addr} (xj3_s45 : Bool) (xj3_s3 : Int) (x0 : List Int) (_ : m83_j3 Lj2 xj3_s45 xj3_s3 x0 = some r) (_ : SlAt (kint .i64) M Ax0 cx0 x0), AG Try.prog c83 [1, 1, 0, 1, 0, 0, 1, 0, 0, 1] (D83 w0 M0 r) (C83 w0 M0) (env [(0, .slice Ax0 x0.length cx0), (3, .int .i64 xj3_s3), (45, .bool xj3_s45)]) M [] := by
  intro M cx0 Ax0 xj3_s45 xj3_s3 x0 hm hj3_s0; unfold m83_j3 at hm
  refine gi [1, 1, 0, 1, 0, 0, 1, 0, 0, 1] hm (fun hm => ?_) fun hm => ?_
  · refine rs [1, 1, 0, 1, 0, 0, 1, 0, 0, 1, 0, 0] [.p 1] [(2, .bool false)] [] ?_
    obtain rfl := Option.some.inj hm
    exact rtp (v := .bool false) [] ⟨rfl, rfl, rfl⟩
  · refine rs [1, 1, 0, 1, 0, 0, 1, 1] [.p 3] [(3, .int .i64 (IntKind.i64.wrap (xj3_s3 + 1)))] [] ?_
    exact to [] (@ihj2 M cx0 Ax0 _ _ hm hj3_s0)
theorem f83_j2 {w0 : World} {M0 : Mem} {r : Bool} : ∀ k, H83_j2 w0 M0 r (m83_j2 k) := by
  intro k; induction k with
  | zero => intro M cx0 Ax0 xj2_s3 x0 hm; exact absurd hm (by simp [m83_j2])
  | succ k ihj2 =>
    intro M cx0 Ax0 xj2_s3 x0 hm hj2_s0
    rw [m83_j2.eq_2] at hm
    refine gl [1, 1, 0, 1, 0] plain_done ?_
    refine rs [1, 1, 0, 1, 0, 0, 0, 0] [.p 4] [(15, .bool (decide ((xj2_s3 : Int) < (x0.length : Int))))] [] ?_
    refine gi [1, 1, 0, 1, 0, 0, 0, 1] hm (fun hm => ?_) fun hm => ?_
    · obtain ⟨ej2_1, bj2_2, fj2_3, kj2_4, Wj2_5, hm, haej2_1, hbej2_1, hmej2_1, hwej2_1, hrej2_1⟩ := ixo hm hj2_s0
      replace hwej2_1 := hwej2_1.trans hrej2_1
      refine rgD [1, 1, 0, 1, 0, 0, 1, 0, 0, 0] (PT.of [0, 4, 8, 14, 16, 20, 24, 28, 32, 38, 40, 44, 48, 52, 56, 60, 64, 68, 72, 76, 82, 84, 88, 92, 98, 100, 104, 108] .dn) [] [] mixed plain_done ?_
      refine seg [.p 2] [(18, .slice Ax0 x0.length cx0), (19, .int .i64 xj2_s3)] [] ?_
      refine g_ix 20 1 haej2_1 hbej2_1 ?_
      refine g_lwD 21 0 (.int .i64 ej2_1) hmej2_1 hmej2_1 hwej2_1 ?_
      refine seg [.p 2] [(23, .bool (decide ((ej2_1 : Int) < 1)))] [] ?_
      refine gs 23 hm (fun hm => ?_) fun hm => ?_
      · refine seg [.p 22] [(45, .bool true)] [] ?_
        refine fin ?_
        exact to [] (@f83_j3 _ _ _ _ ihj2 M cx0 Ax0 _ _ _ hm hj2_s0)
      · obtain ⟨ej2_6, bj2_7, fj2_8, kj2_9, Wj2_10, hm, haej2_6, hbej2_6, hmej2_6, hwej2_6, hrej2_6⟩ := ixo hm hj2_s0
        replace hwej2_6 := hwej2_6.trans hrej2_6
        refine seg [.p 2] [(24, .slice Ax0 x0.length cx0), (25, .int .i64 xj2_s3)] [] ?_
        refine g_ix 26 1 haej2_6 hbej2_6 ?_
        refine g_lwD 27 0 (.int .i64 ej2_6) hmej2_6 hmej2_6 hwej2_6 ?_
        refine seg [.p 3] [(30, .bool (decide ((ej2_6 : Int) > 7)))] [] ?_
        refine gs 30 hm (fun hm => ?_) fun hm => ?_
        · refine seg [.p 15] [(45, .bool true)] [] ?_
          refine fin ?_
          exact to [] (@f83_j3 _ _ _ _ ihj2 M cx0 Ax0 _ _ _ hm hj2_s0)
        · refine seg [.p 3] [(33, .bool (decide ((xj2_s3 : Int) > 0)))] [] ?_
          refine gs 33 hm (fun hm => ?_) fun hm => ?_
          · obtain ⟨ej2_11, bj2_12, fj2_13, kj2_14, Wj2_15, hm, haej2_11, hbej2_11, hmej2_11, hwej2_11, hrej2_11⟩ := ixo hm hj2_s0
            replace hwej2_11 := hwej2_11.trans hrej2_11
            refine seg [.p 3] [(34, .slice Ax0 x0.length cx0), (36, .int .i64 (IntKind.i64.wrap (xj2_s3 - 1)))] [] ?_
            refine g_ix 37 1 haej2_11 hbej2_11 ?_
            refine g_lwD 38 0 (.int .i64 ej2_11) hmej2_11 hmej2_11 hwej2_11 ?_
            obtain ⟨ej2_16, bj2_17, fj2_18, kj2_19, Wj2_20, hm, haej2_16, hbej2_16, hmej2_16, hwej2_16, hrej2_16⟩ := ixo hm hj2_s0
            replace hwej2_16 := hwej2_16.trans hrej2_16
            refine seg [.p 2] [(39, .slice Ax0 x0.length cx0), (40, .int .i64 xj2_s3)] [] ?_
            refine g_ix 41 1 haej2_16 hbej2_16 ?_
            refine g_lwD 42 0 (.int .i64 ej2_16) hmej2_16 hmej2_16 hwej2_16 ?_
            refine seg [.p 3] [(45, .bool (decide ((ej2_11 : Int) ≥ ej2_16)))] [] ?_
            refine fin ?_
            exact to [] (@f83_j3 _ _ _ _ ihj2 M cx0 Ax0 _ _ _ hm hj2_s0)
          · refine seg [.p 12] [(45, .bool false)] [] ?_
            refine fin ?_
            exact to [] (@f83_j3 _ _ _ _ ihj2 M cx0 Ax0 _ _ _ hm hj2_s0)
    · refine rs [1, 1, 1, 0] [.p 1] [(2, .bool true)] [] ?_
      obtain rfl := Option.some.inj hm
      exact rtp (v := .bool true) [] ⟨rfl, rfl, rfl⟩
theorem f83_j1 {w0 : World} {M0 : Mem} {r : Bool} : ∀ {M : Mem} {cx0 : Nat} {Ax0 : Option Addr} (xj1_s11 : Bool) (x0 : List Int) (_ : m83_j1 xj1_s11 x0 = some r) (_ : SlAt (kint .i64) M Ax0 cx0 x0), AG Try.prog c83 [1, 0, 1] (D83 w0 M0 r) (C83 w0 M0) (env [(0, .slice Ax0 x0.length cx0), (11, .bool xj1_s11)]) M [] := by
  intro M cx0 Ax0 xj1_s11 x0 hm hj1_s0; unfold m83_j1 at hm
  refine gi [1, 0, 1] hm (fun hm => ?_) fun hm => ?_
  · refine rs [1, 0, 1, 0, 0] [.p 1] [(2, .bool false)] [] ?_
    obtain rfl := Option.some.inj hm
    exact rtp (v := .bool false) [] ⟨rfl, rfl, rfl⟩
  · refine rs [1, 1, 0, 0] [.p 1] [(3, .int .i64 0)] [] ?_
    exact to [] (@f83_j2 _ _ _ FUEL M cx0 Ax0 _ _ hm hj1_s0)
theorem f83_ok {M : Mem} {Ax0 : Option Addr} {cx0 : Nat} (x0 : List Int) (r : Bool) (hm : m83 x0 = some r) (hx0 : SlAt (kint .i64) M Ax0 cx0 x0) : FnOk Try.prog 83 [.slice Ax0 x0.length cx0] M [] (R83 M r) := by
  refine intro_ (c := c83) 46 Try.func83 fun w => ?_
  unfold m83 at hm
  refine rs [0] [.p 1] [] [] ?_
  refine rg [1, 0, 0] ?_
  refine seg [.p 4] [(7, .bool (decide (((x0.length : Int) : Int) < 1)))] [] ?_
  refine gs 7 hm (fun hm => ?_) fun hm => ?_
  · refine seg [.p 4] [(11, .bool true)] [] ?_
    refine fin ?_
    exact to [] (@f83_j1 _ _ _ M cx0 Ax0 _ _ hm hx0)
  · refine seg [.p 4] [(11, .bool (decide (((x0.length : Int) : Int) > 7)))] [] ?_
    refine fin ?_
    exact to [] (@f83_j1 _ _ _ M cx0 Ax0 _ _ hm hx0)

/-! ## heartwood/heartwoodref17.Of -/
/-- heartwood/heartwoodref17.Of: what is left behind a call. -/
abbrev R82 (M : Mem) (r : ((List Int) × Bool)) : Value → Mem → List Res → Prop := fun v M' H' => ∃ (q0 : Option Addr) (u0 : Nat), .tuple #[.slice q0 r.1.length u0, .bool r.2] = v ∧ H' = [] ∧ SlAt (kint .i64) M' q0 u0 r.1
noncomputable def c82 : Code := match Try.f82.body with | some c => c | none => .skip
abbrev C82 (w0 : World) (M0 : Mem) : Ctx := ⟨29, w0, M0, []⟩
abbrev D82 (w0 : World) (M0 : Mem) (r : ((List Int) × Bool)) : Post := Done Try.prog Try.f82 (C82 w0 M0) (R82 M0 r)
abbrev H82_j1 (w0 : World) (M0 : Mem) (r : ((List Int) × Bool)) (Lj1 : Int → (List Int) → (List Int) → Option ((List Int) × Bool)) : Prop := ∀ {M : Mem} {csj1_1_1_1_0_1_0_0_1_0_0_7 : List Value} {cj1_1_1_1_0_1_0_0_1_0_0_7 cx0 : Nat} {Aj1_1_1_1_0_1_0_0_1_0_0_7 Ax0 : Option Addr} (xj1_s5 : Int) (x0 xj1_1_1_1_0_1_0_0_1_0_0_7 : List Int) (_ : Lj1 xj1_s5 x0 xj1_1_1_1_0_1_0_0_1_0_0_7 = some r) (_ : SlAt (kint .u8) M Ax0 cx0 x0) (_ : Elems (kint .i64) M csj1_1_1_1_0_1_0_0_1_0_0_7 xj1_1_1_1_0_1_0_0_1_0_0_7), AG Try.prog c82 [1, 1, 1, 0, 1, 0] (D82 w0 M0 r) (C82 w0 M0) (env [(0, .slice Ax0 x0.length cx0), (4, (.slice Aj1_1_1_1_0_1_0_0_1_0_0_7 xj1_1_1_1_0_1_0_0_1_0_0_7.length cj1_1_1_1_0_1_0_0_1_0_0_7)), (5, .int .i64 xj1_s5)]) M [.row (.slice Aj1_1_1_1_0_1_0_0_1_0_0_7 xj1_1_1_1_0_1_0_0_1_0_0_7.length cj1_1_1_1_0_1_0_0_1_0_0_7) 3 1 xj1_1_1_1_0_1_0_0_1_0_0_7.length csj1_1_1_1_0_1_0_0_1_0_0_7]
theorem f82_j1 {w0 : World} {M0 : Mem} {r : ((List Int) × Bool)} : ∀ k, H82_j1 w0 M0 r (m82_j1 k) := by
  intro k; induction k with
  | zero => intro M csj1_1_1_1_0_1_0_0_1_0_0_7 cj1_1_1_1_0_1_0_0_1_0_0_7 cx0 Aj1_1_1_1_0_1_0_0_1_0_0_7 Ax0 xj1_s5 x0 xj1_1_1_1_0_1_0_0_1_0_0_7 hm; exact absurd hm (by simp [m82_j1])
  | succ k ihj1 =>
    intro M csj1_1_1_1_0_1_0_0_1_0_0_7 cj1_1_1_1_0_1_0_0_1_0_0_7 cx0 Aj1_1_1_1_0_1_0_0_1_0_0_7 Ax0 xj1_s5 x0 xj1_1_1_1_0_1_0_0_1_0_0_7 hm hj1_s0 ej1_1_1_1_0_1_0_0_1_0_0_7
    rw [m82_j1.eq_2] at hm
    refine gl [1, 1, 1, 0, 1, 0] plain_done ?_
    refine rs [1, 1, 1, 0, 1, 0, 0, 0, 0] [.p 4] [(13, .bool (decide ((xj1_s5 : Int) < (x0.length : Int))))] [] ?_
    refine gi [1, 1, 1, 0, 1, 0, 0, 0, 1] hm (fun hm => ?_) fun hm => ?_
    · obtain ⟨ej1_1, bj1_2, fj1_3, kj1_4, Wj1_5, hm, haej1_1, hbej1_1, hmej1_1, hwej1_1, hrej1_1⟩ := ixo hm hj1_s0
      replace hwej1_1 := hwej1_1.trans hrej1_1
      refine rg [1, 1, 1, 0, 1, 0, 0, 1, 0, 0] ?_
      refine seg [.p 3] [(16, (.slice Aj1_1_1_1_0_1_0_0_1_0_0_7 xj1_1_1_1_0_1_0_0_1_0_0_7.length cj1_1_1_1_0_1_0_0_1_0_0_7)), (17, .slice Ax0 x0.length cx0), (18, .int .i64 xj1_s5)] [] ?_
      refine g_ix 19 1 haej1_1 hbej1_1 ?_
      refine g_lw 20 0 (.int .u8 ej1_1) hmej1_1 hwej1_1 ?_
      refine seg [.p 1] [(21, .int .i64 (IntKind.i64.wrap ej1_1))] [] ?_
      have ej1_6 : Elems (kint .i64) M [.int .i64 (IntKind.i64.wrap ej1_1)] ([IntKind.i64.wrap ej1_1] : List Int) := (elCons (d := (kint .i64)) (M := M) (a := [.int .i64 (IntKind.i64.wrap ej1_1)]) (x := IntKind.i64.wrap ej1_1) rfl elNil)
      refine g_bs 22 3 1 1 [.int .i64 (IntKind.i64.wrap ej1_1)] fun bj1_7 => ?_
      obtain ⟨hbj1_8, hm⟩ := gd2 hm
      refine g_apR 23 0 3 8 1 Aj1_1_1_1_0_1_0_0_1_0_0_7 cj1_1_1_1_0_1_0_0_1_0_0_7 (some ⟨bj1_7, 0, none⟩) 1 ej1_1_1_1_0_1_0_0_1_0_0_7 ej1_6 hbj1_8 fun Aj1_9 cj1_10 csj1_11 ej1_8 => ?_
      refine seg [.p 1] [(4, (.slice Aj1_9 ((xj1_1_1_1_0_1_0_0_1_0_0_7 ++ ([IntKind.i64.wrap ej1_1] : List Int)).length) cj1_10))] [] ?_
      refine fin ?_
      refine rs [1, 1, 1, 0, 1, 0, 0, 1, 1] [.p 3] [(5, .int .i64 (IntKind.i64.wrap (xj1_s5 + 1)))] [] ?_
      exact to [0] (@ihj1 M csj1_11 cj1_10 cx0 Aj1_9 Ax0 _ _ _ hm hj1_s0 ej1_8)
    · obtain ⟨tj1_13, htj1_13, hm⟩ := bind_some hm
      refine rg [1, 1, 1, 1, 0] ?_
      refine seg [.p 1] [(24, (.slice Aj1_1_1_1_0_1_0_0_1_0_0_7 xj1_1_1_1_0_1_0_0_1_0_0_7.length cj1_1_1_1_0_1_0_0_1_0_0_7))] [] ?_
      refine fzI 0 3 Aj1_1_1_1_0_1_0_0_1_0_0_7 cj1_1_1_1_0_1_0_0_1_0_0_7 ej1_1_1_1_0_1_0_0_1_0_0_7 fun Mhj1_12 lhj1_12 hj1_12 => ?_
      refine g_call0 25 (f83_ok _ _ htj1_13 hj1_12) ?_
      rintro _ _ _ ⟨rfl, rfl, rfl⟩ -
      refine seg [.p 1] [(6, .bool tj1_13)] [] ?_
      refine fin ?_
      refine rs [1, 1, 1, 1, 1, 0, 0] [.p 2] [(27, .bool (!tj1_13))] [] ?_
      refine gi [1, 1, 1, 1, 1, 0, 1] hm (fun hm => ?_) fun hm => ?_
      · refine rs [1, 1, 1, 1, 1, 0, 1, 0, 0] [.p 2] [(2, .slice none 0 0), (3, .bool false)] [] ?_
        obtain rfl := Option.some.inj hm
        exact rt (v := .tuple #[.slice none 0 0, .bool false]) [] ⟨none, 0, rfl, rfl, slNil⟩
      · refine rs [1, 1, 1, 1, 1, 1, 0] [.p 3] [(2, .slice Aj1_1_1_1_0_1_0_0_1_0_0_7 xj1_1_1_1_0_1_0_0_1_0_0_7.length cj1_1_1_1_0_1_0_0_1_0_0_7), (3, .bool true)] [] ?_
        obtain rfl := Option.some.inj hm
        exact rt (v := .tuple #[.slice Aj1_1_1_1_0_1_0_0_1_0_0_7 xj1_1_1_1_0_1_0_0_1_0_0_7.length cj1_1_1_1_0_1_0_0_1_0_0_7, .bool true]) [] ⟨Aj1_1_1_1_0_1_0_0_1_0_0_7, cj1_1_1_1_0_1_0_0_1_0_0_7, rfl, rfl, hj1_12⟩
theorem f82_ok {M : Mem} {Ax0 : Option Addr} {cx0 : Nat} (x0 : List Int) (r : ((List Int) × Bool)) (hm : m82 x0 = some r) (hx0 : SlAt (kint .u8) M Ax0 cx0 x0) : FnOk Try.prog 82 [.slice Ax0 x0.length cx0] M [] (R82 M r) := by
  refine intro_ (c := c82) 29 Try.func82 fun w => ?_
  unfold m82 at hm
  refine rs [0] [.p 2] [] [] ?_
  refine rs [1, 0, 0] [.p 3] [(9, .bool (decide (((x0.length : Int) : Int) > 7)))] [] ?_
  refine gi [1, 0, 1] hm (fun hm => ?_) fun hm => ?_
  · refine rs [1, 0, 1, 0, 0] [.p 2] [(2, .slice none 0 0), (3, .bool false)] [] ?_
    obtain rfl := Option.some.inj hm
    exact rt (v := .tuple #[.slice none 0 0, .bool false]) [] ⟨none, 0, rfl, rfl, slNil⟩
  · refine rs [1, 1, 0] [.p 1] [(4, .slice none 0 0)] [] ?_
    refine rs [1, 1, 1, 0, 0] [.p 1] [(5, .int .i64 0)] [] ?_
    refine nlA 3 1 ?_
    exact to [0] (@f82_j1 _ _ _ FUEL M [] 0 cx0 none Ax0 _ _ _ hm hx0 (elNil (d := (kint .i64)) (M := M)))

end Go.Proofs.Ythpdomeciaafjaa
