/- Walks: each Go function does what its model says. Printed by an own program. -/
import Derived.Test.YthpdomeciaafjaaRWB
set_option maxRecDepth 100000
set_option linter.unusedVariables false
namespace Go.Proofs.Ythpdomeciaafjaa
open Go.Fx

/-! ## heartwood/heartwoodref18.Check -/
/-- heartwood/heartwoodref18.Check: what is left behind a call. -/
abbrev R51 (M : Mem) (r : Bool) : Value → Mem → List Res → Prop := fun v M' H' => .bool r = v ∧ M = M' ∧ H' = []
noncomputable def c51 : Code := match Try.f51.body with | some c => c | none => .skip
abbrev C51 (w0 : World) (M0 : Mem) : Ctx := ⟨109, w0, M0, []⟩
abbrev D51 (w0 : World) (M0 : Mem) (r : Bool) : Post := Done Try.prog Try.f51 (C51 w0 M0) (R51 M0 r)
abbrev H51_j2 (w0 : World) (M0 : Mem) (r : Bool) (Lj2 : Int → S26 → Option Bool) : Prop := ∀ {M : Mem} {b0_1 b0_2 chx0_2 chx0_3 : Nat} {Ahx0_2 Ahx0_3 : Option Addr} (xj2_s5 : Int) (x0 : S26) (_ : Lj2 xj2_s5 x0 = some r) (_ : SlAt (kint .i64) M Ahx0_2 chx0_2 x0.f0.f2) (_ : SlAt kS80 M Ahx0_3 chx0_3 x0.f1) (_ : SlAt (kint .i64) M Ahx0_2 chx0_2 x0.f0.f2), AG Try.prog c51 [1, 1, 1, 1, 0, 1, 0] (D51 w0 M0 r) (C51 w0 M0) (env [(1, .pointer (some ⟨b0_1, 0, none⟩)), (3, .pointer (some ⟨b0_2, 0, none⟩)), (5, .int .i64 xj2_s5)]) M [.blk b0_1 (cS26 x0 Ahx0_2 chx0_2 Ahx0_3 chx0_3) 27, .blk b0_2 (cS23 x0.f0 Ahx0_2 chx0_2) 24]
theorem f51_j4 {w0 : World} {M0 : Mem} {r : Bool} {Lj2 : Int → S26 → Option Bool} (ihj2 : H51_j2 w0 M0 r Lj2) : ∀ {M : Mem} {b0_1 b0_2 chx0_2 chx0_3 : Nat} {Ahx0_2 Ahx0_3 : Option Addr} (xj4_s5 : Int) (x0 : S26) (_ : m51_j4 Lj2 xj4_s5 x0 = some r) (_ : SlAt (kint .i64) M Ahx0_2 chx0_2 x0.f0.f2) (_ : SlAt kS80 M Ahx0_3 chx0_3 x0.f1) (_ : SlAt (kint .i64) M Ahx0_2 chx0_2 x0.f0.f2), AG Try.prog c51 [1, 1, 1, 1, 0, 1, 0, 0, 1, 1] (D51 w0 M0 r) (C51 w0 M0) (env [(1, .pointer (some ⟨b0_1, 0, none⟩)), (3, .pointer (some ⟨b0_2, 0, none⟩)), (5, .int .i64 xj4_s5)]) M [.blk b0_1 (cS26 x0 Ahx0_2 chx0_2 Ahx0_3 chx0_3) 27, .blk b0_2 (cS23 x0.f0 Ahx0_2 chx0_2) 24] := by
  intro M b0_1 b0_2 chx0_2 chx0_3 Ahx0_2 Ahx0_3 xj4_s5 x0 hm hj4_0_0_l2 hj4_0_0_l3 hj4_1_0_2_l2; unfold m51_j4 at hm
  refine rs [1, 1, 1, 1, 0, 1, 0, 0, 1, 1] [.p 3] [(5, .int .i64 (IntKind.i64.wrap (xj4_s5 + 1)))] [] ?_
  exact to [0, 1] (@ihj2 M b0_1 b0_2 chx0_2 chx0_3 Ahx0_2 Ahx0_3 _ _ hm hj4_0_0_l2 hj4_0_0_l3 hj4_1_0_2_l2)
theorem f51_j3 {w0 : World} {M0 : Mem} {r : Bool} {Lj2 : Int → S26 → Option Bool} (ihj2 : H51_j2 w0 M0 r Lj2) : ∀ {M : Mem} {b0_1 b0_2 bj2_6 chrej2_1_2 chx0_2 chx0_3 : Nat} {Ahrej2_1_2 Ahx0_2 Ahx0_3 : Option Addr} (xj3_s97 : Bool) (xj3_s5 : Int) (x0 : S26) (ej2_1 : S80) (_ : m51_j3 Lj2 xj3_s97 xj3_s5 x0 ej2_1 = some r) (_ : SlAt (kint .i64) M Ahx0_2 chx0_2 x0.f0.f2) (_ : SlAt kS80 M Ahx0_3 chx0_3 x0.f1) (_ : SlAt (kint .i64) M Ahx0_2 chx0_2 x0.f0.f2) (_ : SlAt (kint .u8) M Ahrej2_1_2 chrej2_1_2 ej2_1.f2), AG Try.prog c51 [1, 1, 1, 1, 0, 1, 0, 0, 1, 0, 0, 1, 0, 1] (D51 w0 M0 r) (C51 w0 M0) (env [(1, .pointer (some ⟨b0_1, 0, none⟩)), (3, .pointer (some ⟨b0_2, 0, none⟩)), (5, .int .i64 xj3_s5), (6, .pointer (some ⟨bj2_6, 0, none⟩)), (97, .bool xj3_s97)]) M [.blk b0_1 (cS26 x0 Ahx0_2 chx0_2 Ahx0_3 chx0_3) 27, .blk b0_2 (cS23 x0.f0 Ahx0_2 chx0_2) 24, .blk bj2_6 (cS80 ej2_1 Ahrej2_1_2 chrej2_1_2) 81] := by
  intro M b0_1 b0_2 bj2_6 chrej2_1_2 chx0_2 chx0_3 Ahrej2_1_2 Ahx0_2 Ahx0_3 xj3_s97 xj3_s5 x0 ej2_1 hm hj3_0_0_l2 hj3_0_0_l3 hj3_1_0_2_l2 hj3_1_1_1_1_0_1_0_0_1_0_0_0_5_l2; unfold m51_j3 at hm
  refine gi [1, 1, 1, 1, 0, 1, 0, 0, 1, 0, 0, 1, 0, 1] hm (fun hm => ?_) fun hm => ?_
  · refine rs [1, 1, 1, 1, 0, 1, 0, 0, 1, 0, 0, 1, 0, 1, 0, 0] [.p 1] [(2, .bool false)] [] ?_
    obtain rfl := Option.some.inj hm
    exact rtp (v := .bool false) [] ⟨rfl, rfl, rfl⟩
  · refine rs [1, 1, 1, 1, 0, 1, 0, 0, 1, 0, 0, 1, 1, 0] [.p 1, .l 2, .p 1] [(100, .bool ((ej2_1.f1 : Int) == 2))] [] ?_
    refine gi [1, 1, 1, 1, 0, 1, 0, 0, 1, 0, 0, 1, 1, 1] hm (fun hm => ?_) fun hm => ?_
    · obtain ⟨tj3_1, htj3_1, hm⟩ := bind_some hm
      refine rg [1, 1, 1, 1, 0, 1, 0, 0, 1, 0, 0, 1, 1, 1, 0, 0] ?_
      refine seg [.p 1, .l 2] [(103, .slice Ahrej2_1_2 ej2_1.f2.length chrej2_1_2)] [] ?_
      refine g_call0 104 (f82_ok _ _ htj3_1 hj3_1_1_1_1_0_1_0_0_1_0_0_0_5_l2) ?_
      rintro _ Mj3_4 _ ⟨Aj3_2, cj3_3, rfl, rfl, hj3_4⟩ hMj3_4
      refine seg [.p 5] [(8, .bool tj3_1.2)] [] ?_
      refine fin ?_
      refine rs [1, 1, 1, 1, 0, 1, 0, 0, 1, 0, 0, 1, 1, 1, 0, 1, 0] [.p 2] [(108, .bool (!tj3_1.2))] [] ?_
      refine gi [1, 1, 1, 1, 0, 1, 0, 0, 1, 0, 0, 1, 1, 1, 0, 1, 1] hm (fun hm => ?_) fun hm => ?_
      · refine rs [1, 1, 1, 1, 0, 1, 0, 0, 1, 0, 0, 1, 1, 1, 0, 1, 1, 0, 0] [.p 1] [(2, .bool false)] [] ?_
        obtain rfl := Option.some.inj hm
        exact rtp (v := .bool false) [] ⟨rfl, rfl, rfl⟩
      · replace hj3_0_0_l2 := (hj3_0_0_l2.mono hMj3_4)
        replace hj3_0_0_l3 := (hj3_0_0_l3.mono hMj3_4)
        replace hj3_1_0_2_l2 := (hj3_1_0_2_l2.mono hMj3_4)
        exact to [0, 1] (@f51_j4 _ _ _ _ ihj2 Mj3_4 b0_1 b0_2 chx0_2 chx0_3 Ahx0_2 Ahx0_3 _ _ hm hj3_0_0_l2 hj3_0_0_l3 hj3_1_0_2_l2)
    · exact to [0, 1] (@f51_j4 _ _ _ _ ihj2 M b0_1 b0_2 chx0_2 chx0_3 Ahx0_2 Ahx0_3 _ _ hm hj3_0_0_l2 hj3_0_0_l3 hj3_1_0_2_l2)
theorem f51_j2 {w0 : World} {M0 : Mem} {r : Bool} : ∀ k, H51_j2 w0 M0 r (m51_j2 k) := by
  intro k; induction k with
  | zero => intro M b0_1 b0_2 chx0_2 chx0_3 Ahx0_2 Ahx0_3 xj2_s5 x0 hm; exact absurd hm (by simp [m51_j2])
  | succ k ihj2 =>
    intro M b0_1 b0_2 chx0_2 chx0_3 Ahx0_2 Ahx0_3 xj2_s5 x0 hm hj2_0_0_l2 hj2_0_0_l3 hj2_1_0_2_l2
    rw [m51_j2.eq_2] at hm
    refine gl [1, 1, 1, 1, 0, 1, 0] plain_done ?_
    refine rs [1, 1, 1, 1, 0, 1, 0, 0, 0, 0] [.p 2, .l 0, .p 2] [(49, .bool (decide ((xj2_s5 : Int) < (x0.f1.length : Int))))] [] ?_
    refine gi [1, 1, 1, 1, 0, 1, 0, 0, 0, 1] hm (fun hm => ?_) fun hm => ?_
    · obtain ⟨ej2_1, bj2_2, fj2_3, kj2_4, Wj2_5, hm, haej2_1, hbej2_1, hmej2_1, hwej2_1, hrej2_1⟩ := ixo hm hj2_0_0_l3
      obtain ⟨Ahrej2_1_2, chrej2_1_2, hcej2_1, hrej2_1_2⟩ := kS80_open hrej2_1
      replace hwej2_1 := hwej2_1.trans hcej2_1
      refine rg [1, 1, 1, 1, 0, 1, 0, 0, 1, 0, 0, 0] ?_
      refine seg [.p 1, .l 0, .p 1] [(53, .slice Ahx0_3 x0.f1.length chx0_3), (54, .int .i64 xj2_s5)] [] ?_
      refine g_ix 55 3 haej2_1 hbej2_1 ?_
      refine g_lw 56 0 (.agg (cS80 ej2_1 Ahrej2_1_2 chrej2_1_2).toArray) hmej2_1 hwej2_1 ?_
      refine g_al 6 81 (cS80 (S80.mk 0 0 []) none 0) fun bj2_6 => ?_
      refine seg [.s 2] [] [(2, .blk bj2_6 (cS80 ej2_1 Ahrej2_1_2 chrej2_1_2) 81)] ?_
      refine fin ?_
      refine rgD [1, 1, 1, 1, 0, 1, 0, 0, 1, 0, 0, 1, 0, 0] (PT.of [0, 5, 8, 12, 16, 21, 24, 28, 32, 36, 41, 44, 49, 52, 56, 60, 64, 68, 72, 76, 81, 84, 89, 92, 96, 100, 104, 110, 112, 116, 120, 124, 128, 133, 136, 140, 144, 148, 153, 156, 160] .dn) [(1, 2), (5, 2), (10, 2), (12, 1), (20, 2), (22, 0), (33, 2), (38, 2)] [0, 2, 4] mixed plain_done ?_
      refine seg [.p 1, .l 2, .p 2] [(60, .bool (decide ((ej2_1.f0 : Int) < 1)))] [] ?_
      refine gs 60 hm (fun hm => ?_) fun hm => ?_
      · refine seg [.p 37] [(97, .bool true)] [] ?_
        refine fin ?_
        exact to [0, 1, 2] (@f51_j3 _ _ _ _ ihj2 M b0_1 b0_2 bj2_6 chrej2_1_2 chx0_2 chx0_3 Ahrej2_1_2 Ahx0_2 Ahx0_3 _ _ _ _ hm hj2_0_0_l2 hj2_0_0_l3 hj2_1_0_2_l2 hrej2_1_2)
      · refine seg [.p 1, .l 2, .p 3] [(65, .bool (decide ((ej2_1.f0 : Int) > 1152921504606846976)))] [] ?_
        refine gs 65 hm (fun hm => ?_) fun hm => ?_
        · refine seg [.p 32] [(97, .bool true)] [] ?_
          refine fin ?_
          exact to [0, 1, 2] (@f51_j3 _ _ _ _ ihj2 M b0_1 b0_2 bj2_6 chrej2_1_2 chx0_2 chx0_3 Ahrej2_1_2 Ahx0_2 Ahx0_3 _ _ _ _ hm hj2_0_0_l2 hj2_0_0_l3 hj2_1_0_2_l2 hrej2_1_2)
        · refine seg [.p 1, .l 2, .p 1, .l 1, .p 3] [(72, .bool (decide ((ej2_1.f0 : Int) < x0.f0.f1)))] [] ?_
          refine gs 72 hm (fun hm => ?_) fun hm => ?_
          · refine seg [.p 25] [(97, .bool true)] [] ?_
            refine fin ?_
            exact to [0, 1, 2] (@f51_j3 _ _ _ _ ihj2 M b0_1 b0_2 bj2_6 chrej2_1_2 chx0_2 chx0_3 Ahrej2_1_2 Ahx0_2 Ahx0_3 _ _ _ _ hm hj2_0_0_l2 hj2_0_0_l3 hj2_1_0_2_l2 hrej2_1_2)
          · refine seg [.p 3] [(75, .bool (decide ((xj2_s5 : Int) > 0)))] [] ?_
            refine gs 75 hm (fun hm => ?_) fun hm => ?_
            · obtain ⟨ej2_7, bj2_8, fj2_9, kj2_10, Wj2_11, hm, haej2_7, hbej2_7, hmej2_7, hwej2_7, hrej2_7⟩ := ixo hm hj2_0_0_l3
              obtain ⟨Ahrej2_7_2, chrej2_7_2, hcej2_7, hrej2_7_2⟩ := kS80_open hrej2_7
              replace hwej2_7 := hwej2_7.trans hcej2_7
              refine seg [.p 1, .l 2, .p 1, .l 0, .p 2] [(77, .int .i64 ej2_1.f0), (79, .slice Ahx0_3 x0.f1.length chx0_3), (81, .int .i64 (IntKind.i64.wrap (xj2_s5 - 1)))] [] ?_
              refine g_ix 82 3 haej2_7 hbej2_7 ?_
              refine seg [.p 1] [(83, .pointer (some ⟨bj2_8, (fj2_9 + (IntKind.i64.wrap (xj2_s5 - 1)).toNat * 3), none⟩))] [] ?_
              refine g_lwD 84 0 (.int .i64 ej2_7.f0) hmej2_7 hmej2_7 hwej2_7 ?_
              refine seg [.p 4] [(88, .bool (decide ((ej2_1.f0 : Int) < ej2_7.f0)))] [] ?_
              refine gs 88 hm (fun hm => ?_) fun hm => ?_
              · refine seg [.p 9] [(97, .bool true)] [] ?_
                refine fin ?_
                exact to [0, 1, 2] (@f51_j3 _ _ _ _ ihj2 M b0_1 b0_2 bj2_6 chrej2_1_2 chx0_2 chx0_3 Ahrej2_1_2 Ahx0_2 Ahx0_3 _ _ _ _ hm hj2_0_0_l2 hj2_0_0_l3 hj2_1_0_2_l2 hrej2_1_2)
              · refine seg [.p 1, .l 2, .p 3] [(93, .bool (decide ((ej2_1.f1 : Int) < 0)))] [] ?_
                refine gs 93 hm (fun hm => ?_) fun hm => ?_
                · refine seg [.p 4] [(97, .bool true)] [] ?_
                  refine fin ?_
                  exact to [0, 1, 2] (@f51_j3 _ _ _ _ ihj2 M b0_1 b0_2 bj2_6 chrej2_1_2 chx0_2 chx0_3 Ahrej2_1_2 Ahx0_2 Ahx0_3 _ _ _ _ hm hj2_0_0_l2 hj2_0_0_l3 hj2_1_0_2_l2 hrej2_1_2)
                · refine seg [.p 1, .l 2, .p 2] [(97, .bool (decide ((ej2_1.f1 : Int) > 2)))] [] ?_
                  refine fin ?_
                  exact to [0, 1, 2] (@f51_j3 _ _ _ _ ihj2 M b0_1 b0_2 bj2_6 chrej2_1_2 chx0_2 chx0_3 Ahrej2_1_2 Ahx0_2 Ahx0_3 _ _ _ _ hm hj2_0_0_l2 hj2_0_0_l3 hj2_1_0_2_l2 hrej2_1_2)
            · refine seg [.p 14, .l 2, .p 3] [(93, .bool (decide ((ej2_1.f1 : Int) < 0)))] [] ?_
              refine gs 93 hm (fun hm => ?_) fun hm => ?_
              · refine seg [.p 4] [(97, .bool true)] [] ?_
                refine fin ?_
                exact to [0, 1, 2] (@f51_j3 _ _ _ _ ihj2 M b0_1 b0_2 bj2_6 chrej2_1_2 chx0_2 chx0_3 Ahrej2_1_2 Ahx0_2 Ahx0_3 _ _ _ _ hm hj2_0_0_l2 hj2_0_0_l3 hj2_1_0_2_l2 hrej2_1_2)
              · refine seg [.p 1, .l 2, .p 2] [(97, .bool (decide ((ej2_1.f1 : Int) > 2)))] [] ?_
                refine fin ?_
                exact to [0, 1, 2] (@f51_j3 _ _ _ _ ihj2 M b0_1 b0_2 bj2_6 chrej2_1_2 chx0_2 chx0_3 Ahrej2_1_2 Ahx0_2 Ahx0_3 _ _ _ _ hm hj2_0_0_l2 hj2_0_0_l3 hj2_1_0_2_l2 hrej2_1_2)
    · refine rs [1, 1, 1, 1, 1, 0] [.p 1] [(2, .bool true)] [] ?_
      obtain rfl := Option.some.inj hm
      exact rtp (v := .bool true) [] ⟨rfl, rfl, rfl⟩
theorem f51_j1 {w0 : World} {M0 : Mem} {r : Bool} : ∀ {M : Mem} {b0_1 b0_2 chx0_2 chx0_3 : Nat} {Ahx0_2 Ahx0_3 : Option Addr} (xj1_s44 : Bool) (x0 : S26) (_ : m51_j1 xj1_s44 x0 = some r) (_ : SlAt (kint .i64) M Ahx0_2 chx0_2 x0.f0.f2) (_ : SlAt kS80 M Ahx0_3 chx0_3 x0.f1) (_ : SlAt (kint .i64) M Ahx0_2 chx0_2 x0.f0.f2), AG Try.prog c51 [1, 1, 1, 0, 1] (D51 w0 M0 r) (C51 w0 M0) (env [(1, .pointer (some ⟨b0_1, 0, none⟩)), (3, .pointer (some ⟨b0_2, 0, none⟩)), (44, .bool xj1_s44)]) M [.blk b0_1 (cS26 x0 Ahx0_2 chx0_2 Ahx0_3 chx0_3) 27, .blk b0_2 (cS23 x0.f0 Ahx0_2 chx0_2) 24] := by
  intro M b0_1 b0_2 chx0_2 chx0_3 Ahx0_2 Ahx0_3 xj1_s44 x0 hm hj1_0_0_l2 hj1_0_0_l3 hj1_1_0_2_l2; unfold m51_j1 at hm
  refine gi [1, 1, 1, 0, 1] hm (fun hm => ?_) fun hm => ?_
  · refine rs [1, 1, 1, 0, 1, 0, 0] [.p 1] [(2, .bool false)] [] ?_
    obtain rfl := Option.some.inj hm
    exact rtp (v := .bool false) [] ⟨rfl, rfl, rfl⟩
  · refine rs [1, 1, 1, 1, 0, 0] [.p 1] [(5, .int .i64 0)] [] ?_
    exact to [0, 1] (@f51_j2 _ _ _ FUEL M b0_1 b0_2 chx0_2 chx0_3 Ahx0_2 Ahx0_3 _ _ hm hj1_0_0_l2 hj1_0_0_l3 hj1_1_0_2_l2)
theorem f51_ok {M : Mem} {csx0 : List Value} (x0 : S26) (r : Bool) (hm : m51 x0 = some r) (hx0 : kS26.rep M csx0 x0) : FnOk Try.prog 51 [.agg csx0.toArray] M [] (R51 M r) := by
  obtain ⟨Ahx0_2, chx0_2, Ahx0_3, chx0_3, rfl, hx0_2, hx0_3⟩ := kS26_open hx0
  refine intro_ (c := c51) 109 Try.func51 fun w => ?_
  unfold m51 at hm
  refine rg [0] ?_
  refine g_bx 1 27 (.agg (cS26 x0 Ahx0_2 chx0_2 Ahx0_3 chx0_3).toArray) fun b0_1 => ?_
  refine seg [.p 1] [] [] ?_
  refine fin ?_
  refine rg [1, 0] ?_
  refine seg [.p 1, .l 0] [(10, .agg (cS23 x0.f0 Ahx0_2 chx0_2).toArray)] [] ?_
  refine g_al 3 24 (cS23 (S23.mk 0 0 []) none 0) fun b0_2 => ?_
  refine seg [.s 1] [] [(1, .blk b0_2 (cS23 x0.f0 Ahx0_2 chx0_2) 24)] ?_
  refine fin ?_
  obtain ⟨t0_3, ht0_3, hm⟩ := bind_some hm
  refine rg [1, 1, 0] ?_
  refine seg [.p 1, .l 1] [(12, .slice Ahx0_2 x0.f0.f2.length chx0_2)] [] ?_
  refine g_call0 13 (f83_ok _ _ ht0_3 hx0_2) ?_
  rintro _ _ _ ⟨rfl, rfl, rfl⟩ -
  refine seg [.p 1] [(4, .bool t0_3)] [] ?_
  refine fin ?_
  refine rg [1, 1, 1, 0, 0] ?_
  refine seg [.p 3] [(16, .bool (!t0_3))] [] ?_
  refine gs 16 hm (fun hm => ?_) fun hm => ?_
  · refine seg [.p 28] [(44, .bool true)] [] ?_
    refine fin ?_
    exact to [0, 1] (@f51_j1 _ _ _ M b0_1 b0_2 chx0_2 chx0_3 Ahx0_2 Ahx0_3 _ _ hm hx0_2 hx0_3 hx0_2)
  · refine seg [.p 1, .l 1, .p 3] [(21, .bool (decide ((x0.f0.f0 : Int) < 0)))] [] ?_
    refine gs 21 hm (fun hm => ?_) fun hm => ?_
    · refine seg [.p 23] [(44, .bool true)] [] ?_
      refine fin ?_
      exact to [0, 1] (@f51_j1 _ _ _ M b0_1 b0_2 chx0_2 chx0_3 Ahx0_2 Ahx0_3 _ _ hm hx0_2 hx0_3 hx0_2)
    · refine seg [.p 1, .l 1, .p 3] [(26, .bool (decide ((x0.f0.f0 : Int) > 1152921504606846976)))] [] ?_
      refine gs 26 hm (fun hm => ?_) fun hm => ?_
      · refine seg [.p 18] [(44, .bool true)] [] ?_
        refine fin ?_
        exact to [0, 1] (@f51_j1 _ _ _ M b0_1 b0_2 chx0_2 chx0_3 Ahx0_2 Ahx0_3 _ _ hm hx0_2 hx0_3 hx0_2)
      · refine seg [.p 1, .l 1, .p 3] [(31, .bool (decide ((x0.f0.f1 : Int) < 0)))] [] ?_
        refine gs 31 hm (fun hm => ?_) fun hm => ?_
        · refine seg [.p 13] [(44, .bool true)] [] ?_
          refine fin ?_
          exact to [0, 1] (@f51_j1 _ _ _ M b0_1 b0_2 chx0_2 chx0_3 Ahx0_2 Ahx0_3 _ _ hm hx0_2 hx0_3 hx0_2)
        · refine seg [.p 1, .l 1, .p 3] [(36, .bool (decide ((x0.f0.f1 : Int) > 1152921504606846976)))] [] ?_
          refine gs 36 hm (fun hm => ?_) fun hm => ?_
          · refine seg [.p 8] [(44, .bool true)] [] ?_
            refine fin ?_
            exact to [0, 1] (@f51_j1 _ _ _ M b0_1 b0_2 chx0_2 chx0_3 Ahx0_2 Ahx0_3 _ _ hm hx0_2 hx0_3 hx0_2)
          · refine seg [.p 1, .l 0, .p 2, .l 1, .p 3] [(44, .bool (decide (((x0.f1.length : Int) : Int) > (IntKind.i64.wrap (1152921504606846976 - x0.f0.f0)))))] [] ?_
            refine fin ?_
            exact to [0, 1] (@f51_j1 _ _ _ M b0_1 b0_2 chx0_2 chx0_3 Ahx0_2 Ahx0_3 _ _ hm hx0_2 hx0_3 hx0_2)

/-! ## heartwood/heartwoodref18.Last -/
/-- heartwood/heartwoodref18.Last: what is left behind a call. -/
abbrev R27 (M : Mem) (r : Int) : Value → Mem → List Res → Prop := fun v M' H' => .int .i64 r = v ∧ M = M' ∧ H' = []
noncomputable def c27 : Code := match Try.f27.body with | some c => c | none => .skip
theorem f27_ok {M : Mem} {csx0 : List Value} (x0 : S26) (r : Int) (hm : m27 x0 = some r) (hx0 : kS26.rep M csx0 x0) : FnOk Try.prog 27 [.agg csx0.toArray] M [] (R27 M r) := by
  obtain ⟨Ahx0_2, chx0_2, Ahx0_3, chx0_3, rfl, hx0_2, hx0_3⟩ := kS26_open hx0
  refine intro_ (c := c27) 10 Try.func27 fun w => ?_
  unfold m27 at hm
  refine rg [0] ?_
  refine g_bx 1 27 (.agg (cS26 x0 Ahx0_2 chx0_2 Ahx0_3 chx0_3).toArray) fun b0_1 => ?_
  refine seg [.p 1] [] [] ?_
  refine fin ?_
  refine rs [1, 0] [.p 2, .l 0, .p 1, .l 0, .p 3] [(2, .int .i64 (IntKind.i64.wrap (x0.f0.f0 + (x0.f1.length : Int))))] [] ?_
  obtain rfl := Option.some.inj hm
  exact rtp (v := .int .i64 (IntKind.i64.wrap (x0.f0.f0 + (x0.f1.length : Int)))) [] ⟨rfl, rfl, rfl⟩

/-! ## heartwood/heartwoodref19.count -/
/-- heartwood/heartwoodref19.count: what is left behind a call. -/
abbrev R52 (M : Mem) (r : Bool) : Value → Mem → List Res → Prop := fun v M' H' => .bool r = v ∧ M = M' ∧ H' = []
noncomputable def c52 : Code := match Try.f52.body with | some c => c | none => .skip
abbrev C52 (w0 : World) (M0 : Mem) : Ctx := ⟨9, w0, M0, []⟩
abbrev D52 (w0 : World) (M0 : Mem) (r : Bool) : Post := Done Try.prog Try.f52 (C52 w0 M0) (R52 M0 r)
theorem f52_j1 {w0 : World} {M0 : Mem} {r : Bool} : ∀ {M : Mem} (xj1_s2 : Bool) (_ : m52_j1 xj1_s2 = some r), AG Try.prog c52 [1, 1] (D52 w0 M0 r) (C52 w0 M0) (env [(2, .bool xj1_s2)]) M [] := by
  intro M xj1_s2 hm; unfold m52_j1 at hm
  obtain rfl := Option.some.inj hm
  exact rtp (v := .bool xj1_s2) [] ⟨rfl, rfl, rfl⟩
theorem f52_ok {M : Mem} (x0 : Int) (r : Bool) (hm : m52 x0 = some r) : FnOk Try.prog 52 [.int .i64 x0] M [] (R52 M r) := by
  refine intro_ (c := c52) 9 Try.func52 fun w => ?_
  unfold m52 at hm
  refine rs [0] [.p 1] [] [] ?_
  refine rg [1, 0] ?_
  refine seg [.p 3] [(5, .bool (decide ((x0 : Int) ≥ 0)))] [] ?_
  refine gs 5 hm (fun hm => ?_) fun hm => ?_
  · refine seg [.p 4] [(2, .bool (decide ((x0 : Int) ≤ 1152921504606846976)))] [] ?_
    refine fin ?_
    exact to [] (@f52_j1 _ _ _ M _ hm)
  · refine seg [.p 4] [(2, .bool false)] [] ?_
    refine fin ?_
    exact to [] (@f52_j1 _ _ _ M _ hm)

/-! ## heartwood/heartwoodref18.Term -/
/-- heartwood/heartwoodref18.Term: what is left behind a call. -/
abbrev R16 (M : Mem) (r : Int) : Value → Mem → List Res → Prop := fun v M' H' => .int .i64 r = v ∧ M = M' ∧ H' = []
noncomputable def c16 : Code := match Try.f16.body with | some c => c | none => .skip
theorem f16_ok {M : Mem} {csx0 : List Value} (x0 : S26) (x1 : Int) (r : Int) (hm : m16 x0 x1 = some r) (hx0 : kS26.rep M csx0 x0) : FnOk Try.prog 16 [.agg csx0.toArray, .int .i64 x1] M [] (R16 M r) := by
  obtain ⟨Ahx0_2, chx0_2, Ahx0_3, chx0_3, rfl, hx0_2, hx0_3⟩ := kS26_open hx0
  refine intro_ (c := c16) 23 Try.func16 fun w => ?_
  unfold m16 at hm
  refine rg [0] ?_
  refine g_bx 2 27 (.agg (cS26 x0 Ahx0_2 chx0_2 Ahx0_3 chx0_3).toArray) fun b0_1 => ?_
  refine seg [.p 1] [] [] ?_
  refine fin ?_
  refine rs [1, 0] [.p 3, .l 0, .p 2] [(5, .int .i64 (IntKind.i64.wrap (x1 - x0.f0.f0)))] [] ?_
  refine rs [1, 1, 0, 0] [.p 2] [(12, .bool (((IntKind.i64.wrap (x1 - x0.f0.f0)) : Int) == 0))] [] ?_
  refine gi [1, 1, 0, 1] hm (fun hm => ?_) fun hm => ?_
  · refine rs [1, 1, 0, 1, 0, 0] [.p 2, .l 0, .p 1] [(4, .int .i64 x0.f0.f1)] [] ?_
    obtain rfl := Option.some.inj hm
    exact rtp (v := .int .i64 x0.f0.f1) [] ⟨rfl, rfl, rfl⟩
  · obtain ⟨e0_2, b0_3, f0_4, k0_5, W0_6, hm, hae0_2, hbe0_2, hme0_2, hwe0_2, hre0_2⟩ := ixo hm hx0_3
    obtain ⟨Ahre0_2_2, chre0_2_2, hce0_2, hre0_2_2⟩ := kS80_open hre0_2
    replace hwe0_2 := hwe0_2.trans hce0_2
    refine rg [1, 1, 1, 0] ?_
    refine seg [.p 1, .l 0, .p 2] [(17, .slice Ahx0_3 x0.f1.length chx0_3), (19, .int .i64 (IntKind.i64.wrap ((IntKind.i64.wrap (x1 - x0.f0.f0)) - 1)))] [] ?_
    refine g_ix 20 3 hae0_2 hbe0_2 ?_
    refine seg [.p 1] [(21, .pointer (some ⟨b0_3, (f0_4 + (IntKind.i64.wrap ((IntKind.i64.wrap (x1 - x0.f0.f0)) - 1)).toNat * 3), none⟩))] [] ?_
    refine g_lw 22 0 (.int .i64 e0_2.f0) hme0_2 hwe0_2 ?_
    refine seg [.p 1] [(4, .int .i64 e0_2.f0)] [] ?_
    refine fin ?_
    obtain rfl := Option.some.inj hm
    exact rtp (v := .int .i64 e0_2.f0) [] ⟨rfl, rfl, rfl⟩

/-! ## heartwood/heartwoodref17.Has -/
/-- heartwood/heartwoodref17.Has: what is left behind a call. -/
abbrev R53 (M : Mem) (r : Bool) : Value → Mem → List Res → Prop := fun v M' H' => .bool r = v ∧ M = M' ∧ H' = []
noncomputable def c53 : Code := match Try.f53.body with | some c => c | none => .skip
abbrev C53 (w0 : World) (M0 : Mem) : Ctx := ⟨18, w0, M0, []⟩
abbrev D53 (w0 : World) (M0 : Mem) (r : Bool) : Post := Done Try.prog Try.f53 (C53 w0 M0) (R53 M0 r)
abbrev H53_j1 (w0 : World) (M0 : Mem) (r : Bool) (Lj1 : Int → Int → (List Int) → Option Bool) : Prop := ∀ {M : Mem} {cx0 : Nat} {Ax0 : Option Addr} (x1 xj1_s5 : Int) (x0 : List Int) (_ : Lj1 x1 xj1_s5 x0 = some r) (_ : SlAt (kint .i64) M Ax0 cx0 x0), AG Try.prog c53 [1, 0, 1, 0] (D53 w0 M0 r) (C53 w0 M0) (env [(0, .slice Ax0 x0.length cx0), (1, .int .i64 x1), (5, .int .i64 xj1_s5)]) M []
theorem f53_j1 {w0 : World} {M0 : Mem} {r : Bool} : ∀ k, H53_j1 w0 M0 r (m53_j1 k) := by
  intro k; induction k with
  | zero => intro M cx0 Ax0 x1 xj1_s5 x0 hm; exact absurd hm (by simp [m53_j1])
  | succ k ihj1 =>
    intro M cx0 Ax0 x1 xj1_s5 x0 hm hj1_s0
    rw [m53_j1.eq_2] at hm
    refine gl [1, 0, 1, 0] plain_done ?_
    refine rs [1, 0, 1, 0, 0, 0, 0] [.p 4] [(9, .bool (decide ((xj1_s5 : Int) < (x0.length : Int))))] [] ?_
    refine gi [1, 0, 1, 0, 0, 0, 1] hm (fun hm => ?_) fun hm => ?_
    · obtain ⟨ej1_1, bj1_2, fj1_3, kj1_4, Wj1_5, hm, haej1_1, hbej1_1, hmej1_1, hwej1_1, hrej1_1⟩ := ixo hm hj1_s0
      replace hwej1_1 := hwej1_1.trans hrej1_1
      refine rg [1, 0, 1, 0, 0, 1, 0, 0, 0] ?_
      refine seg [.p 2] [(12, .slice Ax0 x0.length cx0), (13, .int .i64 xj1_s5)] [] ?_
      refine g_ix 14 1 haej1_1 hbej1_1 ?_
      refine g_lw 15 0 (.int .i64 ej1_1) hmej1_1 hwej1_1 ?_
      refine seg [.p 2] [(17, .bool ((ej1_1 : Int) == x1))] [] ?_
      refine fin ?_
      refine gi [1, 0, 1, 0, 0, 1, 0, 0, 1] hm (fun hm => ?_) fun hm => ?_
      · refine rs [1, 0, 1, 0, 0, 1, 0, 0, 1, 0, 0] [.p 1] [(4, .bool true)] [] ?_
        obtain rfl := Option.some.inj hm
        exact rtp (v := .bool true) [] ⟨rfl, rfl, rfl⟩
      · refine rs [1, 0, 1, 0, 0, 1, 1] [.p 3] [(5, .int .i64 (IntKind.i64.wrap (xj1_s5 + 1)))] [] ?_
        exact to [] (@ihj1 M cx0 Ax0 _ _ _ hm hj1_s0)
    · refine rs [1, 1, 0] [.p 1] [(4, .bool false)] [] ?_
      obtain rfl := Option.some.inj hm
      exact rtp (v := .bool false) [] ⟨rfl, rfl, rfl⟩
theorem f53_ok {M : Mem} {Ax0 : Option Addr} {cx0 : Nat} (x0 : List Int) (x1 : Int) (r : Bool) (hm : m53 x0 x1 = some r) (hx0 : SlAt (kint .i64) M Ax0 cx0 x0) : FnOk Try.prog 53 [.slice Ax0 x0.length cx0, .int .i64 x1] M [] (R53 M r) := by
  refine intro_ (c := c53) 18 Try.func53 fun w => ?_
  unfold m53 at hm
  refine rs [0] [.p 1] [] [] ?_
  refine rs [1, 0, 0] [.p 1] [(5, .int .i64 0)] [] ?_
  exact to [] (@f53_j1 _ _ _ FUEL M cx0 Ax0 _ _ _ hm hx0)

/-! ## heartwood/heartwoodref19.Check -/
/-- heartwood/heartwoodref19.Check: what is left behind a call. -/
abbrev R31 (M : Mem) (r : Bool) : Value → Mem → List Res → Prop := fun v M' H' => .bool r = v ∧ M = M' ∧ H' = []
noncomputable def c31 : Code := match Try.f31.body with | some c => c | none => .skip
abbrev C31 (w0 : World) (M0 : Mem) : Ctx := ⟨154, w0, M0, []⟩
abbrev D31 (w0 : World) (M0 : Mem) (r : Bool) : Post := Done Try.prog Try.f31 (C31 w0 M0) (R31 M0 r)
abbrev H31_j6 (w0 : World) (M0 : Mem) (r : Bool) (Lj6 : Int → S31 → Option Bool) : Prop := ∀ {M : Mem} {b0_1 chx0_10 chx0_7 chx0_8 : Nat} {Ahx0_10 Ahx0_7 Ahx0_8 : Option Addr} (xj6_s6 : Int) (x0 : S31) (_ : Lj6 xj6_s6 x0 = some r) (_ : SlAt (kint .i64) M Ahx0_7 chx0_7 x0.f5.f0.f2) (_ : SlAt kS80 M Ahx0_8 chx0_8 x0.f5.f1) (_ : SlAt (kint .i64) M Ahx0_10 chx0_10 x0.f7) (_ : x0.f8.length = 8) (_ : x0.f9.length = 8), AG Try.prog c31 [1, 1, 1, 1, 1, 1, 1, 0, 1, 0] (D31 w0 M0 r) (C31 w0 M0) (env [(1, .pointer (some ⟨b0_1, 0, none⟩)), (6, .int .i64 xj6_s6)]) M [.blk b0_1 (cS31 x0 Ahx0_7 chx0_7 Ahx0_8 chx0_8 Ahx0_10 chx0_10) 32]
abbrev H31_j4 (w0 : World) (M0 : Mem) (r : Bool) (Lj4 : Int → S31 → Option Bool) : Prop := ∀ {M : Mem} {b0_1 chx0_10 chx0_7 chx0_8 : Nat} {Ahx0_10 Ahx0_7 Ahx0_8 : Option Addr} (xj4_s5 : Int) (x0 : S31) (_ : Lj4 xj4_s5 x0 = some r) (_ : SlAt (kint .i64) M Ahx0_7 chx0_7 x0.f5.f0.f2) (_ : SlAt kS80 M Ahx0_8 chx0_8 x0.f5.f1) (_ : SlAt (kint .i64) M Ahx0_10 chx0_10 x0.f7) (_ : x0.f8.length = 8) (_ : x0.f9.length = 8), AG Try.prog c31 [1, 1, 1, 1, 1, 1, 0, 1, 0] (D31 w0 M0 r) (C31 w0 M0) (env [(1, .pointer (some ⟨b0_1, 0, none⟩)), (5, .int .i64 xj4_s5)]) M [.blk b0_1 (cS31 x0 Ahx0_7 chx0_7 Ahx0_8 chx0_8 Ahx0_10 chx0_10) 32]
theorem f31_j7 {w0 : World} {M0 : Mem} {r : Bool} {Lj6 : Int → S31 → Option Bool} (ihj6 : H31_j6 w0 M0 r Lj6) : ∀ {M : Mem} {b0_1 chx0_10 chx0_7 chx0_8 : Nat} {Ahx0_10 Ahx0_7 Ahx0_8 : Option Addr} (xj7_s153 : Bool) (xj7_s6 : Int) (x0 : S31) (_ : m31_j7 Lj6 xj7_s153 xj7_s6 x0 = some r) (_ : SlAt (kint .i64) M Ahx0_7 chx0_7 x0.f5.f0.f2) (_ : SlAt kS80 M Ahx0_8 chx0_8 x0.f5.f1) (_ : SlAt (kint .i64) M Ahx0_10 chx0_10 x0.f7) (_ : x0.f8.length = 8) (_ : x0.f9.length = 8), AG Try.prog c31 [1, 1, 1, 1, 1, 1, 1, 0, 1, 0, 0, 1, 0, 0, 1] (D31 w0 M0 r) (C31 w0 M0) (env [(1, .pointer (some ⟨b0_1, 0, none⟩)), (6, .int .i64 xj7_s6), (153, .bool xj7_s153)]) M [.blk b0_1 (cS31 x0 Ahx0_7 chx0_7 Ahx0_8 chx0_8 Ahx0_10 chx0_10) 32] := by
  intro M b0_1 chx0_10 chx0_7 chx0_8 Ahx0_10 Ahx0_7 Ahx0_8 xj7_s153 xj7_s6 x0 hm hj7_0_0_l7 hj7_0_0_l8 hj7_0_0_l10 lj7_0_0_l11 lj7_0_0_l12; unfold m31_j7 at hm
  refine gi [1, 1, 1, 1, 1, 1, 1, 0, 1, 0, 0, 1, 0, 0, 1] hm (fun hm => ?_) fun hm => ?_
  · refine rs [1, 1, 1, 1, 1, 1, 1, 0, 1, 0, 0, 1, 0, 0, 1, 0, 0] [.p 1] [(2, .bool false)] [] ?_
    obtain rfl := Option.some.inj hm
    exact rtp (v := .bool false) [] ⟨rfl, rfl, rfl⟩
  · refine rs [1, 1, 1, 1, 1, 1, 1, 0, 1, 0, 0, 1, 1] [.p 3] [(6, .int .i64 (IntKind.i64.wrap (xj7_s6 + 1)))] [] ?_
    exact to [0] (@ihj6 M b0_1 chx0_10 chx0_7 chx0_8 Ahx0_10 Ahx0_7 Ahx0_8 _ _ hm hj7_0_0_l7 hj7_0_0_l8 hj7_0_0_l10 lj7_0_0_l11 lj7_0_0_l12)
theorem f31_j6 {w0 : World} {M0 : Mem} {r : Bool} : ∀ k, H31_j6 w0 M0 r (m31_j6 k) := by
  intro k; induction k with
  | zero => intro M b0_1 chx0_10 chx0_7 chx0_8 Ahx0_10 Ahx0_7 Ahx0_8 xj6_s6 x0 hm; exact absurd hm (by simp [m31_j6])
  | succ k ihj6 =>
    intro M b0_1 chx0_10 chx0_7 chx0_8 Ahx0_10 Ahx0_7 Ahx0_8 xj6_s6 x0 hm hj6_0_0_l7 hj6_0_0_l8 hj6_0_0_l10 lj6_0_0_l11 lj6_0_0_l12
    rw [m31_j6.eq_2] at hm
    refine gl [1, 1, 1, 1, 1, 1, 1, 0, 1, 0] plain_done ?_
    refine rs [1, 1, 1, 1, 1, 1, 1, 0, 1, 0, 0, 0, 0] [.p 2, .l 0, .p 2] [(125, .bool (decide ((xj6_s6 : Int) < (x0.f7.length : Int))))] [] ?_
    refine gi [1, 1, 1, 1, 1, 1, 1, 0, 1, 0, 0, 0, 1] hm (fun hm => ?_) fun hm => ?_
    · obtain ⟨ej6_1, bj6_2, fj6_3, kj6_4, Wj6_5, hm, haej6_1, hbej6_1, hmej6_1, hwej6_1, hrej6_1⟩ := ixo hm hj6_0_0_l10
      replace hwej6_1 := hwej6_1.trans hrej6_1
      refine rgD [1, 1, 1, 1, 1, 1, 1, 0, 1, 0, 0, 1, 0, 0, 0] (PT.of [0, 5, 8, 12, 18, 20, 24, 28, 33, 36, 40, 46, 48, 52, 56, 60, 65, 68, 72, 76, 81, 84, 88, 94, 99, 100] .dn) [(1, 0), (8, 0), (16, 0), (20, 0)] [0] mixed plain_done ?_
      refine seg [.p 1, .l 0, .p 1] [(129, .slice Ahx0_10 x0.f7.length chx0_10), (130, .int .i64 xj6_s6)] [] ?_
      refine g_ix 131 1 haej6_1 hbej6_1 ?_
      refine g_lwD 132 0 (.int .i64 ej6_1) hmej6_1 hmej6_1 hwej6_1 ?_
      refine seg [.p 2] [(134, .bool (decide ((ej6_1 : Int) < 1)))] [] ?_
      refine gs 134 hm (fun hm => ?_) fun hm => ?_
      · refine seg [.p 19] [(153, .bool true)] [] ?_
        refine fin ?_
        exact to [0] (@f31_j7 _ _ _ _ ihj6 M b0_1 chx0_10 chx0_7 chx0_8 Ahx0_10 Ahx0_7 Ahx0_8 _ _ _ hm hj6_0_0_l7 hj6_0_0_l8 hj6_0_0_l10 lj6_0_0_l11 lj6_0_0_l12)
      · obtain ⟨ej6_6, bj6_7, fj6_8, kj6_9, Wj6_10, hm, haej6_6, hbej6_6, hmej6_6, hwej6_6, hrej6_6⟩ := ixo hm hj6_0_0_l10
        replace hwej6_6 := hwej6_6.trans hrej6_6
        refine seg [.p 1, .l 0, .p 1] [(136, .slice Ahx0_10 x0.f7.length chx0_10), (137, .int .i64 xj6_s6)] [] ?_
        refine g_ix 138 1 haej6_6 hbej6_6 ?_
        refine g_lwD 139 0 (.int .i64 ej6_6) hmej6_6 hmej6_6 hwej6_6 ?_
        refine seg [.p 3] [(142, .bool (decide ((ej6_6 : Int) > 7)))] [] ?_
        refine gs 142 hm (fun hm => ?_) fun hm => ?_
        · refine seg [.p 11] [(153, .bool true)] [] ?_
          refine fin ?_
          exact to [0] (@f31_j7 _ _ _ _ ihj6 M b0_1 chx0_10 chx0_7 chx0_8 Ahx0_10 Ahx0_7 Ahx0_8 _ _ _ hm hj6_0_0_l7 hj6_0_0_l8 hj6_0_0_l10 lj6_0_0_l11 lj6_0_0_l12)
        · obtain ⟨hbj6_11, hm⟩ := gd3 hm
          refine seg [.p 1, .l 0, .p 1] [(144, .slice Ahx0_10 x0.f7.length chx0_10), (145, .int .i64 xj6_s6)] [] ?_
          refine g_sl 146 hj6_0_0_l10 hbj6_11 fun Aj6_12 cj6_13 lj6_13 => ?_
          obtain ⟨ej6_14, bj6_15, fj6_16, kj6_17, Wj6_18, hm, haej6_14, hbej6_14, hmej6_14, hwej6_14, hrej6_14⟩ := ixo hm hj6_0_0_l10
          replace hwej6_14 := hwej6_14.trans hrej6_14
          refine seg [.p 1, .l 0, .p 1] [(148, .slice Ahx0_10 x0.f7.length chx0_10), (149, .int .i64 xj6_s6)] [] ?_
          refine g_ix 150 1 haej6_14 hbej6_14 ?_
          refine g_lwD 151 0 (.int .i64 ej6_14) hmej6_14 hmej6_14 hwej6_14 ?_
          obtain ⟨tj6_19, htj6_19, hm⟩ := bind_some hm
          refine g_call0 152 (f53_ok _ _ _ htj6_19 lj6_13) ?_
          rintro _ _ _ ⟨rfl, rfl, rfl⟩ -
          refine seg [.p 1] [(153, .bool tj6_19)] [] ?_
          refine fin ?_
          exact to [0] (@f31_j7 _ _ _ _ ihj6 M b0_1 chx0_10 chx0_7 chx0_8 Ahx0_10 Ahx0_7 Ahx0_8 _ _ _ hm hj6_0_0_l7 hj6_0_0_l8 hj6_0_0_l10 lj6_0_0_l11 lj6_0_0_l12)
    · refine rs [1, 1, 1, 1, 1, 1, 1, 1, 0] [.p 1] [(2, .bool true)] [] ?_
      obtain rfl := Option.some.inj hm
      exact rtp (v := .bool true) [] ⟨rfl, rfl, rfl⟩
theorem f31_j5 {w0 : World} {M0 : Mem} {r : Bool} {Lj4 : Int → S31 → Option Bool} (ihj4 : H31_j4 w0 M0 r Lj4) : ∀ {M : Mem} {b0_1 chx0_10 chx0_7 chx0_8 : Nat} {Ahx0_10 Ahx0_7 Ahx0_8 : Option Addr} (xj5_s120 : Bool) (xj5_s5 : Int) (x0 : S31) (_ : m31_j5 Lj4 xj5_s120 xj5_s5 x0 = some r) (_ : SlAt (kint .i64) M Ahx0_7 chx0_7 x0.f5.f0.f2) (_ : SlAt kS80 M Ahx0_8 chx0_8 x0.f5.f1) (_ : SlAt (kint .i64) M Ahx0_10 chx0_10 x0.f7) (_ : x0.f8.length = 8) (_ : x0.f9.length = 8), AG Try.prog c31 [1, 1, 1, 1, 1, 1, 0, 1, 0, 0, 1, 0, 0, 1] (D31 w0 M0 r) (C31 w0 M0) (env [(1, .pointer (some ⟨b0_1, 0, none⟩)), (5, .int .i64 xj5_s5), (120, .bool xj5_s120)]) M [.blk b0_1 (cS31 x0 Ahx0_7 chx0_7 Ahx0_8 chx0_8 Ahx0_10 chx0_10) 32] := by
  intro M b0_1 chx0_10 chx0_7 chx0_8 Ahx0_10 Ahx0_7 Ahx0_8 xj5_s120 xj5_s5 x0 hm hj5_0_0_l7 hj5_0_0_l8 hj5_0_0_l10 lj5_0_0_l11 lj5_0_0_l12; unfold m31_j5 at hm
  refine gi [1, 1, 1, 1, 1, 1, 0, 1, 0, 0, 1, 0, 0, 1] hm (fun hm => ?_) fun hm => ?_
  · refine rs [1, 1, 1, 1, 1, 1, 0, 1, 0, 0, 1, 0, 0, 1, 0, 0] [.p 1] [(2, .bool false)] [] ?_
    obtain rfl := Option.some.inj hm
    exact rtp (v := .bool false) [] ⟨rfl, rfl, rfl⟩
  · refine rs [1, 1, 1, 1, 1, 1, 0, 1, 0, 0, 1, 1] [.p 3] [(5, .int .i64 (IntKind.i64.wrap (xj5_s5 + 1)))] [] ?_
    exact to [0] (@ihj4 M b0_1 chx0_10 chx0_7 chx0_8 Ahx0_10 Ahx0_7 Ahx0_8 _ _ hm hj5_0_0_l7 hj5_0_0_l8 hj5_0_0_l10 lj5_0_0_l11 lj5_0_0_l12)
theorem f31_j4 {w0 : World} {M0 : Mem} {r : Bool} : ∀ k, H31_j4 w0 M0 r (m31_j4 k) := by
  intro k; induction k with
  | zero => intro M b0_1 chx0_10 chx0_7 chx0_8 Ahx0_10 Ahx0_7 Ahx0_8 xj4_s5 x0 hm; exact absurd hm (by simp [m31_j4])
  | succ k ihj4 =>
    intro M b0_1 chx0_10 chx0_7 chx0_8 Ahx0_10 Ahx0_7 Ahx0_8 xj4_s5 x0 hm hj4_0_0_l7 hj4_0_0_l8 hj4_0_0_l10 lj4_0_0_l11 lj4_0_0_l12
    rw [m31_j4.eq_2] at hm
    refine gl [1, 1, 1, 1, 1, 1, 0, 1, 0] plain_done ?_
    refine rs [1, 1, 1, 1, 1, 1, 0, 1, 0, 0, 0, 0] [.p 2] [(104, .bool (decide ((xj4_s5 : Int) < 8)))] [] ?_
    refine gi [1, 1, 1, 1, 1, 1, 0, 1, 0, 0, 0, 1] hm (fun hm => ?_) fun hm => ?_
    · obtain ⟨hbj4_1, hm⟩ := gd2 hm
      refine rg [1, 1, 1, 1, 1, 1, 0, 1, 0, 0, 1, 0, 0, 0] ?_
      refine seg [.p 2] [(107, .int .i64 xj4_s5), (108, .pointer (some ⟨b0_1, 11, none⟩))] [] ?_
      refine g_ixA 109 b0_1 11 8 1 hbj4_1 ?_
      refine g_la 110 0 11 8 .i64 lj4_0_0_l11 hbj4_1 ?_
      obtain ⟨tj4_2, htj4_2, hm⟩ := bind_some hm
      refine g_call0 111 (f52_ok (M := M) _ _ htj4_2) ?_
      rintro _ _ _ ⟨rfl, rfl, rfl⟩ -
      refine seg [.p 2] [(113, .bool (!tj4_2))] [] ?_
      refine gs 113 hm (fun hm => ?_) fun hm => ?_
      · refine seg [.p 7] [(120, .bool true)] [] ?_
        refine fin ?_
        exact to [0] (@f31_j5 _ _ _ _ ihj4 M b0_1 chx0_10 chx0_7 chx0_8 Ahx0_10 Ahx0_7 Ahx0_8 _ _ _ hm hj4_0_0_l7 hj4_0_0_l8 hj4_0_0_l10 lj4_0_0_l11 lj4_0_0_l12)
      · obtain ⟨hbj4_3, hm⟩ := gd2 hm
        refine seg [.p 2] [(114, .int .i64 xj4_s5), (115, .pointer (some ⟨b0_1, 19, none⟩))] [] ?_
        refine g_ixA 116 b0_1 19 8 1 hbj4_3 ?_
        refine g_la 117 0 19 8 .i64 lj4_0_0_l12 hbj4_3 ?_
        obtain ⟨tj4_4, htj4_4, hm⟩ := bind_some hm
        refine g_call0 118 (f52_ok (M := M) _ _ htj4_4) ?_
        rintro _ _ _ ⟨rfl, rfl, rfl⟩ -
        refine seg [.p 2] [(120, .bool (!tj4_4))] [] ?_
        refine fin ?_
        exact to [0] (@f31_j5 _ _ _ _ ihj4 M b0_1 chx0_10 chx0_7 chx0_8 Ahx0_10 Ahx0_7 Ahx0_8 _ _ _ hm hj4_0_0_l7 hj4_0_0_l8 hj4_0_0_l10 lj4_0_0_l11 lj4_0_0_l12)
    · refine rs [1, 1, 1, 1, 1, 1, 1, 0, 0] [.p 1] [(6, .int .i64 0)] [] ?_
      exact to [0] (@f31_j6 _ _ _ FUEL M b0_1 chx0_10 chx0_7 chx0_8 Ahx0_10 Ahx0_7 Ahx0_8 _ _ hm hj4_0_0_l7 hj4_0_0_l8 hj4_0_0_l10 lj4_0_0_l11 lj4_0_0_l12)
theorem f31_j3 {w0 : World} {M0 : Mem} {r : Bool} : ∀ {M : Mem} {b0_1 chx0_10 chx0_7 chx0_8 : Nat} {Ahx0_10 Ahx0_7 Ahx0_8 : Option Addr} (xj3_s102 : Bool) (x0 : S31) (_ : m31_j3 xj3_s102 x0 = some r) (_ : SlAt (kint .i64) M Ahx0_7 chx0_7 x0.f5.f0.f2) (_ : SlAt kS80 M Ahx0_8 chx0_8 x0.f5.f1) (_ : SlAt (kint .i64) M Ahx0_10 chx0_10 x0.f7) (_ : x0.f8.length = 8) (_ : x0.f9.length = 8), AG Try.prog c31 [1, 1, 1, 1, 1, 0, 1] (D31 w0 M0 r) (C31 w0 M0) (env [(1, .pointer (some ⟨b0_1, 0, none⟩)), (102, .bool xj3_s102)]) M [.blk b0_1 (cS31 x0 Ahx0_7 chx0_7 Ahx0_8 chx0_8 Ahx0_10 chx0_10) 32] := by
  intro M b0_1 chx0_10 chx0_7 chx0_8 Ahx0_10 Ahx0_7 Ahx0_8 xj3_s102 x0 hm hj3_0_0_l7 hj3_0_0_l8 hj3_0_0_l10 lj3_0_0_l11 lj3_0_0_l12; unfold m31_j3 at hm
  refine gi [1, 1, 1, 1, 1, 0, 1] hm (fun hm => ?_) fun hm => ?_
  · refine rs [1, 1, 1, 1, 1, 0, 1, 0, 0] [.p 1] [(2, .bool false)] [] ?_
    obtain rfl := Option.some.inj hm
    exact rtp (v := .bool false) [] ⟨rfl, rfl, rfl⟩
  · refine rs [1, 1, 1, 1, 1, 1, 0, 0] [.p 1] [(5, .int .i64 0)] [] ?_
    exact to [0] (@f31_j4 _ _ _ FUEL M b0_1 chx0_10 chx0_7 chx0_8 Ahx0_10 Ahx0_7 Ahx0_8 _ _ hm hj3_0_0_l7 hj3_0_0_l8 hj3_0_0_l10 lj3_0_0_l11 lj3_0_0_l12)
theorem f31_j2 {w0 : World} {M0 : Mem} {r : Bool} : ∀ {M : Mem} {b0_1 chx0_10 chx0_7 chx0_8 : Nat} {Ahx0_10 Ahx0_7 Ahx0_8 : Option Addr} (xj2_s59 : Bool) (x0 : S31) (_ : m31_j2 xj2_s59 x0 = some r) (_ : SlAt (kint .i64) M Ahx0_7 chx0_7 x0.f5.f0.f2) (_ : SlAt kS80 M Ahx0_8 chx0_8 x0.f5.f1) (_ : SlAt (kint .i64) M Ahx0_10 chx0_10 x0.f7) (_ : x0.f8.length = 8) (_ : x0.f9.length = 8), AG Try.prog c31 [1, 1, 1, 0, 1] (D31 w0 M0 r) (C31 w0 M0) (env [(1, .pointer (some ⟨b0_1, 0, none⟩)), (59, .bool xj2_s59)]) M [.blk b0_1 (cS31 x0 Ahx0_7 chx0_7 Ahx0_8 chx0_8 Ahx0_10 chx0_10) 32] := by
  intro M b0_1 chx0_10 chx0_7 chx0_8 Ahx0_10 Ahx0_7 Ahx0_8 xj2_s59 x0 hm hj2_0_0_l7 hj2_0_0_l8 hj2_0_0_l10 lj2_0_0_l11 lj2_0_0_l12; unfold m31_j2 at hm
  refine gi [1, 1, 1, 0, 1] hm (fun hm => ?_) fun hm => ?_
  · refine rs [1, 1, 1, 0, 1, 0, 0] [.p 1] [(2, .bool false)] [] ?_
    obtain rfl := Option.some.inj hm
    exact rtp (v := .bool false) [] ⟨rfl, rfl, rfl⟩
  · obtain ⟨tj2_1, htj2_1, hm⟩ := bind_some hm
    refine rg [1, 1, 1, 1, 0] ?_
    refine seg [.p 1, .l 0] [(61, .agg (cS26 x0.f5 Ahx0_7 chx0_7 Ahx0_8 chx0_8).toArray)] [] ?_
    refine g_call0 62 (f27_ok _ _ htj2_1 (kS26_mk (cs := (cS26 x0.f5 Ahx0_7 chx0_7 Ahx0_8 chx0_8)) x0.f5 rfl hj2_0_0_l7 hj2_0_0_l8)) ?_
    rintro _ _ _ ⟨rfl, rfl, rfl⟩ -
    refine seg [.p 1] [(4, .int .i64 tj2_1)] [] ?_
    refine fin ?_
    obtain ⟨tj2_2, htj2_2, hm⟩ := bind_some hm
    refine rgD [1, 1, 1, 1, 1, 0, 0] (PT.of [0, 5, 11, 12, 16, 20, 25, 28, 33, 36, 43, 44, 48, 52, 56, 61, 64, 68, 72, 77, 80, 84, 88, 92, 97, 100, 104, 108, 112, 116, 121, 127, 128, 132, 136, 140, 145, 151, 152, 156] .dn) [(1, 0), (6, 0), (8, 0), (15, 0), (19, 0), (24, 0), (30, 0), (36, 0)] [0] mixed plain_done ?_
    refine seg [.p 1, .l 0] [(64, .int .i64 x0.f1)] [] ?_
    refine g_call0 65 (f52_ok (M := M) _ _ htj2_2) ?_
    rintro _ _ _ ⟨rfl, rfl, rfl⟩ -
    refine seg [.p 2] [(67, .bool (!tj2_2))] [] ?_
    refine gs 67 hm (fun hm => ?_) fun hm => ?_
    · refine seg [.p 35] [(102, .bool true)] [] ?_
      refine fin ?_
      exact to [0] (@f31_j3 _ _ _ M b0_1 chx0_10 chx0_7 chx0_8 Ahx0_10 Ahx0_7 Ahx0_8 _ _ hm hj2_0_0_l7 hj2_0_0_l8 hj2_0_0_l10 lj2_0_0_l11 lj2_0_0_l12)
    · obtain ⟨tj2_3, htj2_3, hm⟩ := bind_some hm
      refine seg [.p 1, .l 0, .p 1, .l 0, .p 1] [(69, .int .i64 x0.f1), (71, .agg (cS26 x0.f5 Ahx0_7 chx0_7 Ahx0_8 chx0_8).toArray), (72, .int .i64 tj2_1)] [] ?_
      refine g_call0 73 (f16_ok _ _ _ htj2_3 (kS26_mk (cs := (cS26 x0.f5 Ahx0_7 chx0_7 Ahx0_8 chx0_8)) x0.f5 rfl hj2_0_0_l7 hj2_0_0_l8)) ?_
      rintro _ _ _ ⟨rfl, rfl, rfl⟩ -
      refine seg [.p 3] [(76, .bool (decide ((x0.f1 : Int) < tj2_3)))] [] ?_
      refine gs 76 hm (fun hm => ?_) fun hm => ?_
      · refine seg [.p 26] [(102, .bool true)] [] ?_
        refine fin ?_
        exact to [0] (@f31_j3 _ _ _ M b0_1 chx0_10 chx0_7 chx0_8 Ahx0_10 Ahx0_7 Ahx0_8 _ _ hm hj2_0_0_l7 hj2_0_0_l8 hj2_0_0_l10 lj2_0_0_l11 lj2_0_0_l12)
      · refine seg [.p 1, .l 0, .p 3, .l 0, .p 3] [(85, .bool (decide ((x0.f6 : Int) < x0.f5.f0.f0)))] [] ?_
        refine gs 85 hm (fun hm => ?_) fun hm => ?_
        · refine seg [.p 17] [(102, .bool true)] [] ?_
          refine fin ?_
          exact to [0] (@f31_j3 _ _ _ M b0_1 chx0_10 chx0_7 chx0_8 Ahx0_10 Ahx0_7 Ahx0_8 _ _ hm hj2_0_0_l7 hj2_0_0_l8 hj2_0_0_l10 lj2_0_0_l11 lj2_0_0_l12)
        · refine seg [.p 1, .l 0, .p 4] [(91, .bool (decide ((x0.f6 : Int) > tj2_1)))] [] ?_
          refine gs 91 hm (fun hm => ?_) fun hm => ?_
          · refine seg [.p 11] [(102, .bool true)] [] ?_
            refine fin ?_
            exact to [0] (@f31_j3 _ _ _ M b0_1 chx0_10 chx0_7 chx0_8 Ahx0_10 Ahx0_7 Ahx0_8 _ _ hm hj2_0_0_l7 hj2_0_0_l8 hj2_0_0_l10 lj2_0_0_l11 lj2_0_0_l12)
          · obtain ⟨tj2_4, htj2_4, hm⟩ := bind_some hm
            refine seg [.p 1, .l 0] [(93, .int .i64 x0.f10)] [] ?_
            refine g_call0 94 (f52_ok (M := M) _ _ htj2_4) ?_
            rintro _ _ _ ⟨rfl, rfl, rfl⟩ -
            refine seg [.p 3] [(97, .bool (!tj2_4))] [] ?_
            refine gs 97 hm (fun hm => ?_) fun hm => ?_
            · refine seg [.p 5] [(102, .bool true)] [] ?_
              refine fin ?_
              exact to [0] (@f31_j3 _ _ _ M b0_1 chx0_10 chx0_7 chx0_8 Ahx0_10 Ahx0_7 Ahx0_8 _ _ hm hj2_0_0_l7 hj2_0_0_l8 hj2_0_0_l10 lj2_0_0_l11 lj2_0_0_l12)
            · obtain ⟨tj2_5, htj2_5, hm⟩ := bind_some hm
              refine seg [.p 1, .l 0] [(99, .int .i64 x0.f11)] [] ?_
              refine g_call0 100 (f52_ok (M := M) _ _ htj2_5) ?_
              rintro _ _ _ ⟨rfl, rfl, rfl⟩ -
              refine seg [.p 2] [(102, .bool (!tj2_5))] [] ?_
              refine fin ?_
              exact to [0] (@f31_j3 _ _ _ M b0_1 chx0_10 chx0_7 chx0_8 Ahx0_10 Ahx0_7 Ahx0_8 _ _ hm hj2_0_0_l7 hj2_0_0_l8 hj2_0_0_l10 lj2_0_0_l11 lj2_0_0_l12)
theorem f31_j1 {w0 : World} {M0 : Mem} {r : Bool} : ∀ {M : Mem} {b0_1 chx0_10 chx0_7 chx0_8 : Nat} {Ahx0_10 Ahx0_7 Ahx0_8 : Option Addr} (xj1_s51 : Bool) (x0 : S31) (_ : m31_j1 xj1_s51 x0 = some r) (_ : SlAt (kint .i64) M Ahx0_7 chx0_7 x0.f5.f0.f2) (_ : SlAt kS80 M Ahx0_8 chx0_8 x0.f5.f1) (_ : SlAt (kint .i64) M Ahx0_10 chx0_10 x0.f7) (_ : x0.f8.length = 8) (_ : x0.f9.length = 8), AG Try.prog c31 [1, 1, 0, 1] (D31 w0 M0 r) (C31 w0 M0) (env [(1, .pointer (some ⟨b0_1, 0, none⟩)), (51, .bool xj1_s51)]) M [.blk b0_1 (cS31 x0 Ahx0_7 chx0_7 Ahx0_8 chx0_8 Ahx0_10 chx0_10) 32] := by
  intro M b0_1 chx0_10 chx0_7 chx0_8 Ahx0_10 Ahx0_7 Ahx0_8 xj1_s51 x0 hm hj1_0_0_l7 hj1_0_0_l8 hj1_0_0_l10 lj1_0_0_l11 lj1_0_0_l12; unfold m31_j1 at hm
  refine gi [1, 1, 0, 1] hm (fun hm => ?_) fun hm => ?_
  · refine rs [1, 1, 0, 1, 0, 0] [.p 1] [(2, .bool false)] [] ?_
    obtain rfl := Option.some.inj hm
    exact rtp (v := .bool false) [] ⟨rfl, rfl, rfl⟩
  · refine rg [1, 1, 1, 0, 0] ?_
    refine seg [.p 1, .l 0, .p 2] [(55, .bool (decide ((x0.f3 : Int) > 0)))] [] ?_
    refine gs 55 hm (fun hm => ?_) fun hm => ?_
    · refine seg [.p 1, .l 0, .p 2] [(59, .bool ((x0.f1 : Int) == 0))] [] ?_
      refine fin ?_
      exact to [0] (@f31_j2 _ _ _ M b0_1 chx0_10 chx0_7 chx0_8 Ahx0_10 Ahx0_7 Ahx0_8 _ _ hm hj1_0_0_l7 hj1_0_0_l8 hj1_0_0_l10 lj1_0_0_l11 lj1_0_0_l12)
    · refine seg [.p 4] [(59, .bool false)] [] ?_
      refine fin ?_
      exact to [0] (@f31_j2 _ _ _ M b0_1 chx0_10 chx0_7 chx0_8 Ahx0_10 Ahx0_7 Ahx0_8 _ _ hm hj1_0_0_l7 hj1_0_0_l8 hj1_0_0_l10 lj1_0_0_l11 lj1_0_0_l12)
theorem f31_ok {M : Mem} {csx0 : List Value} (x0 : S31) (r : Bool) (hm : m31 x0 = some r) (hx0 : kS31.rep M csx0 x0) : FnOk Try.prog 31 [.agg csx0.toArray] M [] (R31 M r) := by
  obtain ⟨Ahx0_7, chx0_7, Ahx0_8, chx0_8, Ahx0_10, chx0_10, rfl, hx0_7, hx0_8, hx0_10, hx0_11, hx0_12⟩ := kS31_open hx0
  refine intro_ (c := c31) 154 Try.func31 fun w => ?_
  unfold m31 at hm
  refine rg [0] ?_
  refine g_bx 1 32 (.agg (cS31 x0 Ahx0_7 chx0_7 Ahx0_8 chx0_8 Ahx0_10 chx0_10).toArray) fun b0_1 => ?_
  refine seg [.p 1] [] [] ?_
  refine fin ?_
  obtain ⟨t0_2, ht0_2, hm⟩ := bind_some hm
  refine rg [1, 0] ?_
  refine seg [.p 1, .l 0] [(8, .agg (cS26 x0.f5 Ahx0_7 chx0_7 Ahx0_8 chx0_8).toArray)] [] ?_
  refine g_call0 9 (f51_ok _ _ ht0_2 (kS26_mk (cs := (cS26 x0.f5 Ahx0_7 chx0_7 Ahx0_8 chx0_8)) x0.f5 rfl hx0_7 hx0_8)) ?_
  rintro _ _ _ ⟨rfl, rfl, rfl⟩ -
  refine seg [.p 1] [(3, .bool t0_2)] [] ?_
  refine fin ?_
  refine rg [1, 1, 0, 0] ?_
  refine seg [.p 3] [(12, .bool (!t0_2))] [] ?_
  refine gs 12 hm (fun hm => ?_) fun hm => ?_
  · refine seg [.p 39] [(51, .bool true)] [] ?_
    refine fin ?_
    exact to [0] (@f31_j1 _ _ _ M b0_1 chx0_10 chx0_7 chx0_8 Ahx0_10 Ahx0_7 Ahx0_8 _ _ hm hx0_7 hx0_8 hx0_10 hx0_11 hx0_12)
  · refine seg [.p 1, .l 0, .p 3] [(17, .bool (decide ((x0.f0 : Int) < 1)))] [] ?_
    refine gs 17 hm (fun hm => ?_) fun hm => ?_
    · refine seg [.p 34] [(51, .bool true)] [] ?_
      refine fin ?_
      exact to [0] (@f31_j1 _ _ _ M b0_1 chx0_10 chx0_7 chx0_8 Ahx0_10 Ahx0_7 Ahx0_8 _ _ hm hx0_7 hx0_8 hx0_10 hx0_11 hx0_12)
    · refine seg [.p 1, .l 0, .p 3] [(22, .bool (decide ((x0.f0 : Int) > 7)))] [] ?_
      refine gs 22 hm (fun hm => ?_) fun hm => ?_
      · refine seg [.p 29] [(51, .bool true)] [] ?_
        refine fin ?_
        exact to [0] (@f31_j1 _ _ _ M b0_1 chx0_10 chx0_7 chx0_8 Ahx0_10 Ahx0_7 Ahx0_8 _ _ hm hx0_7 hx0_8 hx0_10 hx0_11 hx0_12)
      · refine seg [.p 1, .l 0, .p 3] [(27, .bool (decide ((x0.f2 : Int) < 0)))] [] ?_
        refine gs 27 hm (fun hm => ?_) fun hm => ?_
        · refine seg [.p 24] [(51, .bool true)] [] ?_
          refine fin ?_
          exact to [0] (@f31_j1 _ _ _ M b0_1 chx0_10 chx0_7 chx0_8 Ahx0_10 Ahx0_7 Ahx0_8 _ _ hm hx0_7 hx0_8 hx0_10 hx0_11 hx0_12)
        · refine seg [.p 1, .l 0, .p 3] [(32, .bool (decide ((x0.f2 : Int) > 7)))] [] ?_
          refine gs 32 hm (fun hm => ?_) fun hm => ?_
          · refine seg [.p 19] [(51, .bool true)] [] ?_
            refine fin ?_
            exact to [0] (@f31_j1 _ _ _ M b0_1 chx0_10 chx0_7 chx0_8 Ahx0_10 Ahx0_7 Ahx0_8 _ _ hm hx0_7 hx0_8 hx0_10 hx0_11 hx0_12)
          · refine seg [.p 1, .l 0, .p 3] [(37, .bool (decide ((x0.f4 : Int) < 0)))] [] ?_
            refine gs 37 hm (fun hm => ?_) fun hm => ?_
            · refine seg [.p 14] [(51, .bool true)] [] ?_
              refine fin ?_
              exact to [0] (@f31_j1 _ _ _ M b0_1 chx0_10 chx0_7 chx0_8 Ahx0_10 Ahx0_7 Ahx0_8 _ _ hm hx0_7 hx0_8 hx0_10 hx0_11 hx0_12)
            · refine seg [.p 1, .l 0, .p 3] [(42, .bool (decide ((x0.f4 : Int) > 7)))] [] ?_
              refine gs 42 hm (fun hm => ?_) fun hm => ?_
              · refine seg [.p 9] [(51, .bool true)] [] ?_
                refine fin ?_
                exact to [0] (@f31_j1 _ _ _ M b0_1 chx0_10 chx0_7 chx0_8 Ahx0_10 Ahx0_7 Ahx0_8 _ _ hm hx0_7 hx0_8 hx0_10 hx0_11 hx0_12)
              · refine seg [.p 1, .l 0, .p 3] [(47, .bool (decide ((x0.f3 : Int) < 0)))] [] ?_
                refine gs 47 hm (fun hm => ?_) fun hm => ?_
                · refine seg [.p 4] [(51, .bool true)] [] ?_
                  refine fin ?_
                  exact to [0] (@f31_j1 _ _ _ M b0_1 chx0_10 chx0_7 chx0_8 Ahx0_10 Ahx0_7 Ahx0_8 _ _ hm hx0_7 hx0_8 hx0_10 hx0_11 hx0_12)
                · refine seg [.p 1, .l 0, .p 2] [(51, .bool (decide ((x0.f3 : Int) > 2)))] [] ?_
                  refine fin ?_
                  exact to [0] (@f31_j1 _ _ _ M b0_1 chx0_10 chx0_7 chx0_8 Ahx0_10 Ahx0_7 Ahx0_8 _ _ hm hx0_7 hx0_8 hx0_10 hx0_11 hx0_12)

/-! ## heartwood/heartwoodref19.New -/
/-- heartwood/heartwoodref19.New: what is left behind a call. -/
abbrev R11 (M : Mem) (r : (S31 × Bool)) : Value → Mem → List Res → Prop := fun v M' H' => ∃ (q0 : List Value), .tuple #[.agg q0.toArray, .bool r.2] = v ∧ H' = [] ∧ kS31.rep M' q0 r.1
noncomputable def c11 : Code := match Try.f11.body with | some c => c | none => .skip
abbrev C11 (w0 : World) (M0 : Mem) : Ctx := ⟨30, w0, M0, []⟩
abbrev D11 (w0 : World) (M0 : Mem) (r : (S31 × Bool)) : Post := Done Try.prog Try.f11 (C11 w0 M0) (R11 M0 r)
theorem f11_j1 {w0 : World} {M0 : Mem} {r : (S31 × Bool)} : ∀ {M : Mem} {b0_2 b0_663 chx3_2 chx3_3 : Nat} {Ahx3_2 Ahx3_3 : Option Addr} (t0_543 x0 x1 x2 : Int) (x3 : S26) (_ : m11_j1 t0_543 x0 x1 x2 x3 = some r) (_ : [0, 0, 0, 0, 0, 0, 0, 0].length = 8) (_ : [0, 0, 0, 0, 0, 0, 0, 0].length = 8) (_ : SlAt (kint .i64) M Ahx3_2 chx3_2 x3.f0.f2) (_ : SlAt kS80 M Ahx3_3 chx3_3 x3.f1) (_ : [0, 0, 0, 0, 0, 0, 0, 0].length = 8) (_ : [0, 0, 0, 0, 0, 0, 0, 0].length = 8), AG Try.prog c11 [1, 1] (D11 w0 M0 r) (C11 w0 M0) (env [(10, .pointer (some ⟨b0_2, 0, none⟩)), (12, .pointer (some ⟨b0_663, 0, none⟩))]) M [.blk b0_2 (cS31 (S31.mk 0 0 0 0 0 (S26.mk (S23.mk 0 0 []) []) 0 [] [0, 0, 0, 0, 0, 0, 0, 0] [0, 0, 0, 0, 0, 0, 0, 0] 0 0) none 0 none 0 none 0) 32, .blk b0_663 (cS31 (S31.mk x0 x1 x2 0 0 x3 x3.f0.f0 [] [0, 0, 0, 0, 0, 0, 0, 0] [0, 0, 0, 0, 0, 0, 0, 0] 0 t0_543) Ahx3_2 chx3_2 Ahx3_3 chx3_3 none 0) 32] := by
  intro M b0_2 b0_663 chx3_2 chx3_3 Ahx3_2 Ahx3_3 t0_543 x0 x1 x2 x3 hm lj1_0_1_l11 lj1_0_1_l12 hj1_1_0_10_l7 hj1_1_0_10_l8 lj1_1_0_10_l11 lj1_1_0_10_l12; unfold m11_j1 at hm
  obtain ⟨tj1_1, htj1_1, hm⟩ := bind_some hm
  refine rg [1, 1, 0] ?_
  refine seg [.l 1] [(24, .agg (cS31 (S31.mk x0 x1 x2 0 0 x3 x3.f0.f0 [] [0, 0, 0, 0, 0, 0, 0, 0] [0, 0, 0, 0, 0, 0, 0, 0] 0 t0_543) Ahx3_2 chx3_2 Ahx3_3 chx3_3 none 0).toArray)] [] ?_
  refine g_call0 25 (f31_ok _ _ htj1_1 (kS31_mk (cs := (cS31 (S31.mk x0 x1 x2 0 0 x3 x3.f0.f0 [] [0, 0, 0, 0, 0, 0, 0, 0] [0, 0, 0, 0, 0, 0, 0, 0] 0 t0_543) Ahx3_2 chx3_2 Ahx3_3 chx3_3 none 0)) (S31.mk x0 x1 x2 0 0 x3 x3.f0.f0 [] [0, 0, 0, 0, 0, 0, 0, 0] [0, 0, 0, 0, 0, 0, 0, 0] 0 t0_543) rfl hj1_1_0_10_l7 hj1_1_0_10_l8 slNil lj1_1_0_10_l11 lj1_1_0_10_l12)) ?_
  rintro _ _ _ ⟨rfl, rfl, rfl⟩ -
  refine seg [.p 1] [(13, .bool tj1_1)] [] ?_
  refine fin ?_
  refine rs [1, 1, 1, 0, 0] [.p 2] [(27, .bool (!tj1_1))] [] ?_
  refine gi [1, 1, 1, 0, 1] hm (fun hm => ?_) fun hm => ?_
  · refine rs [1, 1, 1, 0, 1, 0, 0] [.b, .s 0, .p 1] [(11, .bool false)] [(0, .blk b0_2 (cS31 (S31.mk 0 0 0 0 0 (S26.mk (S23.mk 0 0 []) []) 0 [] [0, 0, 0, 0, 0, 0, 0, 0] [0, 0, 0, 0, 0, 0, 0, 0] 0 0) none 0 none 0 none 0) 32)] ?_
    obtain rfl := Option.some.inj hm
    exact rtc (vs := [.agg (cS31 (S31.mk 0 0 0 0 0 (S26.mk (S23.mk 0 0 []) []) 0 [] [0, 0, 0, 0, 0, 0, 0, 0] [0, 0, 0, 0, 0, 0, 0, 0] 0 0) none 0 none 0 none 0).toArray, .bool false]) (v := .tuple #[.agg (cS31 (S31.mk 0 0 0 0 0 (S26.mk (S23.mk 0 0 []) []) 0 [] [0, 0, 0, 0, 0, 0, 0, 0] [0, 0, 0, 0, 0, 0, 0, 0] 0 0) none 0 none 0 none 0).toArray, .bool false]) [] [.cell 10 32, .tmp 11] (.cell 0 0 (by kernel_rfl) (by kernel_rfl) (.tmp (by kernel_rfl) .nil)) ⟨(cS31 (S31.mk 0 0 0 0 0 (S26.mk (S23.mk 0 0 []) []) 0 [] [0, 0, 0, 0, 0, 0, 0, 0] [0, 0, 0, 0, 0, 0, 0, 0] 0 0) none 0 none 0 none 0), rfl, rfl, (kS31_mk (cs := (cS31 (S31.mk 0 0 0 0 0 (S26.mk (S23.mk 0 0 []) []) 0 [] [0, 0, 0, 0, 0, 0, 0, 0] [0, 0, 0, 0, 0, 0, 0, 0] 0 0) none 0 none 0 none 0)) (S31.mk 0 0 0 0 0 (S26.mk (S23.mk 0 0 []) []) 0 [] [0, 0, 0, 0, 0, 0, 0, 0] [0, 0, 0, 0, 0, 0, 0, 0] 0 0) rfl slNil slNil slNil rfl rfl)⟩ rfl rfl
  · refine rs [1, 1, 1, 1, 0] [.l 1, .s 0, .p 1] [(11, .bool true)] [(0, .blk b0_2 (cS31 (S31.mk x0 x1 x2 0 0 x3 x3.f0.f0 [] [0, 0, 0, 0, 0, 0, 0, 0] [0, 0, 0, 0, 0, 0, 0, 0] 0 t0_543) Ahx3_2 chx3_2 Ahx3_3 chx3_3 none 0) 32)] ?_
    obtain rfl := Option.some.inj hm
    exact rtc (vs := [.agg (cS31 (S31.mk x0 x1 x2 0 0 x3 x3.f0.f0 [] [0, 0, 0, 0, 0, 0, 0, 0] [0, 0, 0, 0, 0, 0, 0, 0] 0 t0_543) Ahx3_2 chx3_2 Ahx3_3 chx3_3 none 0).toArray, .bool true]) (v := .tuple #[.agg (cS31 (S31.mk x0 x1 x2 0 0 x3 x3.f0.f0 [] [0, 0, 0, 0, 0, 0, 0, 0] [0, 0, 0, 0, 0, 0, 0, 0] 0 t0_543) Ahx3_2 chx3_2 Ahx3_3 chx3_3 none 0).toArray, .bool true]) [] [.cell 10 32, .tmp 11] (.cell 0 0 (by kernel_rfl) (by kernel_rfl) (.tmp (by kernel_rfl) .nil)) ⟨(cS31 (S31.mk x0 x1 x2 0 0 x3 x3.f0.f0 [] [0, 0, 0, 0, 0, 0, 0, 0] [0, 0, 0, 0, 0, 0, 0, 0] 0 t0_543) Ahx3_2 chx3_2 Ahx3_3 chx3_3 none 0), rfl, rfl, (kS31_mk (cs := (cS31 (S31.mk x0 x1 x2 0 0 x3 x3.f0.f0 [] [0, 0, 0, 0, 0, 0, 0, 0] [0, 0, 0, 0, 0, 0, 0, 0] 0 t0_543) Ahx3_2 chx3_2 Ahx3_3 chx3_3 none 0)) (S31.mk x0 x1 x2 0 0 x3 x3.f0.f0 [] [0, 0, 0, 0, 0, 0, 0, 0] [0, 0, 0, 0, 0, 0, 0, 0] 0 t0_543) rfl hj1_1_0_10_l7 hj1_1_0_10_l8 slNil lj1_1_0_10_l11 lj1_1_0_10_l12)⟩ rfl rfl
theorem f11_ok {M : Mem} {csx3 : List Value} (x0 : Int) (x1 : Int) (x2 : Int) (x3 : S26) (x4 : Int) (r : (S31 × Bool)) (hm : m11 x0 x1 x2 x3 x4 = some r) (hx3 : kS26.rep M csx3 x3) : FnOk Try.prog 11 [.int .i64 x0, .int .i64 x1, .int .i64 x2, .agg csx3.toArray, .int .i64 x4] M [] (R11 M r) := by
  obtain ⟨Ahx3_2, chx3_2, Ahx3_3, chx3_3, rfl, hx3_2, hx3_3⟩ := kS26_open hx3
  refine intro_ (c := c11) 30 Try.func11 fun w => ?_
  unfold m11 at hm
  refine rg [0] ?_
  refine g_bx 8 27 (.agg (cS26 x3 Ahx3_2 chx3_2 Ahx3_3 chx3_3).toArray) fun b0_1 => ?_
  refine g_al 10 32 (cS31 (S31.mk 0 0 0 0 0 (S26.mk (S23.mk 0 0 []) []) 0 [] [0, 0, 0, 0, 0, 0, 0, 0] [0, 0, 0, 0, 0, 0, 0, 0] 0 0) none 0 none 0 none 0) fun b0_2 => ?_
  refine seg [.p 1] [] [] ?_
  refine fin ?_
  obtain ⟨t0_543, ht0_543, hm⟩ := bind_some hm
  refine rgD [1, 0] (PT.of [0, 4, 8, 13, 16, 20, 25, 28] (.two 8 (PT.of [36, 43, 47] .dn) 10 (PT.of [35, 36, 47] .dn))) [(3, 0), (6, 0)] [0] mixed plain_done ?_
  refine seg [.p 3, .l 0, .p 2, .l 0, .p 1] [(14, .int .i64 x0), (15, .int .i64 x1), (16, .int .i64 x2), (17, .agg (cS26 x3 Ahx3_2 chx3_2 Ahx3_3 chx3_3).toArray), (20, .int .i64 x3.f0.f0), (21, .int .i64 x4)] [] ?_
  refine g2 ?_ ?_
  · refine g_call0 22 (f30_ok (M := M) _ _ ht0_543) ?_
    rintro _ _ _ ⟨rfl, rfl, rfl⟩ -
    refine seg [.b] [(23, .agg (cS31 (S31.mk x0 x1 x2 0 0 x3 x3.f0.f0 [] [0, 0, 0, 0, 0, 0, 0, 0] [0, 0, 0, 0, 0, 0, 0, 0] 0 t0_543) Ahx3_2 chx3_2 Ahx3_3 chx3_3 none 0).toArray)] [] ?_
    refine g_al 12 32 (cS31 (S31.mk 0 0 0 0 0 (S26.mk (S23.mk 0 0 []) []) 0 [] [0, 0, 0, 0, 0, 0, 0, 0] [0, 0, 0, 0, 0, 0, 0, 0] 0 0) none 0 none 0 none 0) fun b0_663 => ?_
    refine seg [.s 2] [] [(2, .blk b0_663 (cS31 (S31.mk x0 x1 x2 0 0 x3 x3.f0.f0 [] [0, 0, 0, 0, 0, 0, 0, 0] [0, 0, 0, 0, 0, 0, 0, 0] 0 t0_543) Ahx3_2 chx3_2 Ahx3_3 chx3_3 none 0) 32)] ?_
    refine fin ?_
    exact to [1, 2] (@f11_j1 _ _ _ M b0_2 b0_663 chx3_2 chx3_3 Ahx3_2 Ahx3_3 _ _ _ _ _ hm rfl rfl hx3_2 hx3_3 rfl rfl)
  · refine g_al 12 32 (cS31 (S31.mk 0 0 0 0 0 (S26.mk (S23.mk 0 0 []) []) 0 [] [0, 0, 0, 0, 0, 0, 0, 0] [0, 0, 0, 0, 0, 0, 0, 0] 0 0) none 0 none 0 none 0) fun b0_663 => ?_
    refine g_call0 22 (f30_ok (M := M) _ _ ht0_543) ?_
    rintro _ _ _ ⟨rfl, rfl, rfl⟩ -
    refine seg [.b, .s 2] [] [(2, .blk b0_663 (cS31 (S31.mk x0 x1 x2 0 0 x3 x3.f0.f0 [] [0, 0, 0, 0, 0, 0, 0, 0] [0, 0, 0, 0, 0, 0, 0, 0] 0 t0_543) Ahx3_2 chx3_2 Ahx3_3 chx3_3 none 0) 32)] ?_
    refine fin ?_
    exact to [1, 2] (@f11_j1 _ _ _ M b0_2 b0_663 chx3_2 chx3_3 Ahx3_2 Ahx3_3 _ _ _ _ _ hm rfl rfl hx3_2 hx3_3 rfl rfl)

/-! ## heartwood/heartwoodref17.Same -/
/-- heartwood/heartwoodref17.Same: what is left behind a call. -/
abbrev R33 (M : Mem) (r : Bool) : Value → Mem → List Res → Prop := fun v M' H' => .bool r = v ∧ M = M' ∧ H' = []
noncomputable def c33 : Code := match Try.f33.body with | some c => c | none => .skip
abbrev C33 (w0 : World) (M0 : Mem) : Ctx := ⟨26, w0, M0, []⟩
abbrev D33 (w0 : World) (M0 : Mem) (r : Bool) : Post := Done Try.prog Try.f33 (C33 w0 M0) (R33 M0 r)
abbrev H33_j1 (w0 : World) (M0 : Mem) (r : Bool) (Lj1 : Int → (List Int) → (List Int) → Option Bool) : Prop := ∀ {M : Mem} {cx0 cx1 : Nat} {Ax0 Ax1 : Option Addr} (xj1_s5 : Int) (x0 x1 : List Int) (_ : Lj1 xj1_s5 x0 x1 = some r) (_ : SlAt (kint .i64) M Ax0 cx0 x0) (_ : SlAt (kint .i64) M Ax1 cx1 x1), AG Try.prog c33 [1, 1, 0, 1, 0] (D33 w0 M0 r) (C33 w0 M0) (env [(0, .slice Ax0 x0.length cx0), (1, .slice Ax1 x1.length cx1), (5, .int .i64 xj1_s5)]) M []
theorem f33_j1 {w0 : World} {M0 : Mem} {r : Bool} : ∀ k, H33_j1 w0 M0 r (m33_j1 k) := by
  intro k; induction k with
  | zero => intro M cx0 cx1 Ax0 Ax1 xj1_s5 x0 x1 hm; exact absurd hm (by simp [m33_j1])
  | succ k ihj1 =>
    intro M cx0 cx1 Ax0 Ax1 xj1_s5 x0 x1 hm hj1_s0 hj1_s1
    rw [m33_j1.eq_2] at hm
    refine gl [1, 1, 0, 1, 0] plain_done ?_
    refine rs [1, 1, 0, 1, 0, 0, 0, 0] [.p 4] [(14, .bool (decide ((xj1_s5 : Int) < (x0.length : Int))))] [] ?_
    refine gi [1, 1, 0, 1, 0, 0, 0, 1] hm (fun hm => ?_) fun hm => ?_
    · obtain ⟨ej1_1, bj1_2, fj1_3, kj1_4, Wj1_5, hm, haej1_1, hbej1_1, hmej1_1, hwej1_1, hrej1_1⟩ := ixo hm hj1_s0
      replace hwej1_1 := hwej1_1.trans hrej1_1
      refine rgD [1, 1, 0, 1, 0, 0, 1, 0, 0, 0] (PT.of [0, 4, 8, 14, 16, 20, 24, 30, 32] .dn) [] [] mixed plain_done ?_
      refine seg [.p 2] [(17, .slice Ax0 x0.length cx0), (18, .int .i64 xj1_s5)] [] ?_
      refine g_ix 19 1 haej1_1 hbej1_1 ?_
      refine g_lwD 20 0 (.int .i64 ej1_1) hmej1_1 hmej1_1 hwej1_1 ?_
      obtain ⟨ej1_6, bj1_7, fj1_8, kj1_9, Wj1_10, hm, haej1_6, hbej1_6, hmej1_6, hwej1_6, hrej1_6⟩ := ixo hm hj1_s1
      replace hwej1_6 := hwej1_6.trans hrej1_6
      refine seg [.p 2] [(21, .slice Ax1 x1.length cx1), (22, .int .i64 xj1_s5)] [] ?_
      refine g_ix 23 1 haej1_6 hbej1_6 ?_
      refine g_lwD 24 0 (.int .i64 ej1_6) hmej1_6 hmej1_6 hwej1_6 ?_
      refine seg [.p 1] [(25, .bool ((ej1_1 : Int) != ej1_6))] [] ?_
      refine fin ?_
      refine gi [1, 1, 0, 1, 0, 0, 1, 0, 0, 1] hm (fun hm => ?_) fun hm => ?_
      · refine rs [1, 1, 0, 1, 0, 0, 1, 0, 0, 1, 0, 0] [.p 1] [(4, .bool false)] [] ?_
        obtain rfl := Option.some.inj hm
        exact rtp (v := .bool false) [] ⟨rfl, rfl, rfl⟩
      · refine rs [1, 1, 0, 1, 0, 0, 1, 1] [.p 3] [(5, .int .i64 (IntKind.i64.wrap (xj1_s5 + 1)))] [] ?_
        exact to [] (@ihj1 M cx0 cx1 Ax0 Ax1 _ _ _ hm hj1_s0 hj1_s1)
    · refine rs [1, 1, 1, 0] [.p 1] [(4, .bool true)] [] ?_
      obtain rfl := Option.some.inj hm
      exact rtp (v := .bool true) [] ⟨rfl, rfl, rfl⟩
theorem f33_ok {M : Mem} {Ax0 : Option Addr} {cx0 : Nat} {Ax1 : Option Addr} {cx1 : Nat} (x0 : List Int) (x1 : List Int) (r : Bool) (hm : m33 x0 x1 = some r) (hx0 : SlAt (kint .i64) M Ax0 cx0 x0) (hx1 : SlAt (kint .i64) M Ax1 cx1 x1) : FnOk Try.prog 33 [.slice Ax0 x0.length cx0, .slice Ax1 x1.length cx1] M [] (R33 M r) := by
  refine intro_ (c := c33) 26 Try.func33 fun w => ?_
  unfold m33 at hm
  refine rs [0] [.p 1] [] [] ?_
  refine rs [1, 0, 0] [.p 5] [(10, .bool (((x0.length : Int) : Int) != (x1.length : Int)))] [] ?_
  refine gi [1, 0, 1] hm (fun hm => ?_) fun hm => ?_
  · refine rs [1, 0, 1, 0, 0] [.p 1] [(4, .bool false)] [] ?_
    obtain rfl := Option.some.inj hm
    exact rtp (v := .bool false) [] ⟨rfl, rfl, rfl⟩
  · refine rs [1, 1, 0, 0] [.p 1] [(5, .int .i64 0)] [] ?_
    exact to [] (@f33_j1 _ _ _ FUEL M cx0 cx1 Ax0 Ax1 _ _ _ hm hx0 hx1)

/-! ## heartwood/heartwoodref18.SameEntries -/
/-- heartwood/heartwoodref18.SameEntries: what is left behind a call. -/
abbrev R18 (M : Mem) (r : Bool) : Value → Mem → List Res → Prop := fun v M' H' => .bool r = v ∧ M = M' ∧ H' = []
noncomputable def c18 : Code := match Try.f18.body with | some c => c | none => .skip
abbrev C18 (w0 : World) (M0 : Mem) : Ctx := ⟨56, w0, M0, []⟩
abbrev D18 (w0 : World) (M0 : Mem) (r : Bool) : Post := Done Try.prog Try.f18 (C18 w0 M0) (R18 M0 r)
abbrev H18_j1 (w0 : World) (M0 : Mem) (r : Bool) (Lj1 : Int → (List S80) → (List S80) → Option Bool) : Prop := ∀ {M : Mem} {cx0 cx1 : Nat} {Ax0 Ax1 : Option Addr} (xj1_s5 : Int) (x0 x1 : List S80) (_ : Lj1 xj1_s5 x0 x1 = some r) (_ : SlAt kS80 M Ax0 cx0 x0) (_ : SlAt kS80 M Ax1 cx1 x1), AG Try.prog c18 [1, 1, 0, 1, 0] (D18 w0 M0 r) (C18 w0 M0) (env [(0, .slice Ax0 x0.length cx0), (1, .slice Ax1 x1.length cx1), (5, .int .i64 xj1_s5)]) M []
theorem f18_j2 {w0 : World} {M0 : Mem} {r : Bool} {Lj1 : Int → (List S80) → (List S80) → Option Bool} (ihj1 : H18_j1 w0 M0 r Lj1) : ∀ {M : Mem} {cx0 cx1 : Nat} {Ax0 Ax1 : Option Addr} (xj2_s55 : Bool) (xj2_s5 : Int) (x0 x1 : List S80) (_ : m18_j2 Lj1 xj2_s55 xj2_s5 x0 x1 = some r) (_ : SlAt kS80 M Ax0 cx0 x0) (_ : SlAt kS80 M Ax1 cx1 x1), AG Try.prog c18 [1, 1, 0, 1, 0, 0, 1, 0, 0, 1] (D18 w0 M0 r) (C18 w0 M0) (env [(0, .slice Ax0 x0.length cx0), (1, .slice Ax1 x1.length cx1), (5, .int .i64 xj2_s5), (55, .bool xj2_s55)]) M [] := by
  intro M cx0 cx1 Ax0 Ax1 xj2_s55 xj2_s5 x0 x1 hm hj2_s0 hj2_s1; unfold m18_j2 at hm
  refine gi [1, 1, 0, 1, 0, 0, 1, 0, 0, 1] hm (fun hm => ?_) fun hm => ?_
  · refine rs [1, 1, 0, 1, 0, 0, 1, 0, 0, 1, 0, 0] [.p 1] [(4, .bool false)] [] ?_
    obtain rfl := Option.some.inj hm
    exact rtp (v := .bool false) [] ⟨rfl, rfl, rfl⟩
  · refine rs [1, 1, 0, 1, 0, 0, 1, 1] [.p 3] [(5, .int .i64 (IntKind.i64.wrap (xj2_s5 + 1)))] [] ?_
    exact to [] (@ihj1 M cx0 cx1 Ax0 Ax1 _ _ _ hm hj2_s0 hj2_s1)
theorem f18_j1 {w0 : World} {M0 : Mem} {r : Bool} : ∀ k, H18_j1 w0 M0 r (m18_j1 k) := by
  intro k; induction k with
  | zero => intro M cx0 cx1 Ax0 Ax1 xj1_s5 x0 x1 hm; exact absurd hm (by simp [m18_j1])
  | succ k ihj1 =>
    intro M cx0 cx1 Ax0 Ax1 xj1_s5 x0 x1 hm hj1_s0 hj1_s1
    rw [m18_j1.eq_2] at hm
    refine gl [1, 1, 0, 1, 0] plain_done ?_
    refine rs [1, 1, 0, 1, 0, 0, 0, 0] [.p 4] [(14, .bool (decide ((xj1_s5 : Int) < (x0.length : Int))))] [] ?_
    refine gi [1, 1, 0, 1, 0, 0, 0, 1] hm (fun hm => ?_) fun hm => ?_
    · obtain ⟨ej1_1, bj1_2, fj1_3, kj1_4, Wj1_5, hm, haej1_1, hbej1_1, hmej1_1, hwej1_1, hrej1_1⟩ := ixo hm hj1_s0
      obtain ⟨Ahrej1_1_2, chrej1_1_2, hcej1_1, hrej1_1_2⟩ := kS80_open hrej1_1
      replace hwej1_1 := hwej1_1.trans hcej1_1
      refine rgD [1, 1, 0, 1, 0, 0, 1, 0, 0, 0] (PT.of [0, 4, 8, 12, 18, 20, 24, 28, 32, 38, 40, 44, 48, 52, 56, 60, 66, 68, 72, 76, 80, 86, 88, 92, 96, 100, 104, 108, 112, 118, 122, 124, 128, 132, 136, 142, 146, 148, 152] .dn) [] [] mixed plain_done ?_
      refine seg [.p 2] [(17, .slice Ax0 x0.length cx0), (18, .int .i64 xj1_s5)] [] ?_
      refine g_ix 19 3 haej1_1 hbej1_1 ?_
      refine seg [.p 1] [(20, .pointer (some ⟨bj1_2, (fj1_3 + xj1_s5.toNat * 3), none⟩))] [] ?_
      refine g_lwD 21 0 (.int .i64 ej1_1.f0) hmej1_1 hmej1_1 hwej1_1 ?_
      obtain ⟨ej1_6, bj1_7, fj1_8, kj1_9, Wj1_10, hm, haej1_6, hbej1_6, hmej1_6, hwej1_6, hrej1_6⟩ := ixo hm hj1_s1
      obtain ⟨Ahrej1_6_2, chrej1_6_2, hcej1_6, hrej1_6_2⟩ := kS80_open hrej1_6
      replace hwej1_6 := hwej1_6.trans hcej1_6
      refine seg [.p 2] [(22, .slice Ax1 x1.length cx1), (23, .int .i64 xj1_s5)] [] ?_
      refine g_ix 24 3 haej1_6 hbej1_6 ?_
      refine seg [.p 1] [(25, .pointer (some ⟨bj1_7, (fj1_8 + xj1_s5.toNat * 3), none⟩))] [] ?_
      refine g_lwD 26 0 (.int .i64 ej1_6.f0) hmej1_6 hmej1_6 hwej1_6 ?_
      refine seg [.p 2] [(28, .bool ((ej1_1.f0 : Int) != ej1_6.f0))] [] ?_
      refine gs 28 hm (fun hm => ?_) fun hm => ?_
      · refine seg [.p 27] [(55, .bool true)] [] ?_
        refine fin ?_
        exact to [] (@f18_j2 _ _ _ _ ihj1 M cx0 cx1 Ax0 Ax1 _ _ _ _ hm hj1_s0 hj1_s1)
      · obtain ⟨ej1_11, bj1_12, fj1_13, kj1_14, Wj1_15, hm, haej1_11, hbej1_11, hmej1_11, hwej1_11, hrej1_11⟩ := ixo hm hj1_s0
        obtain ⟨Ahrej1_11_2, chrej1_11_2, hcej1_11, hrej1_11_2⟩ := kS80_open hrej1_11
        replace hwej1_11 := hwej1_11.trans hcej1_11
        refine seg [.p 2] [(29, .slice Ax0 x0.length cx0), (30, .int .i64 xj1_s5)] [] ?_
        refine g_ix 31 3 haej1_11 hbej1_11 ?_
        refine seg [.p 1] [(32, .pointer (some ⟨bj1_12, (fj1_13 + xj1_s5.toNat * 3) + 1, none⟩))] [] ?_
        refine g_lwD 33 1 (.int .i64 ej1_11.f1) hmej1_11 hmej1_11 hwej1_11 ?_
        obtain ⟨ej1_16, bj1_17, fj1_18, kj1_19, Wj1_20, hm, haej1_16, hbej1_16, hmej1_16, hwej1_16, hrej1_16⟩ := ixo hm hj1_s1
        obtain ⟨Ahrej1_16_2, chrej1_16_2, hcej1_16, hrej1_16_2⟩ := kS80_open hrej1_16
        replace hwej1_16 := hwej1_16.trans hcej1_16
        refine seg [.p 2] [(34, .slice Ax1 x1.length cx1), (35, .int .i64 xj1_s5)] [] ?_
        refine g_ix 36 3 haej1_16 hbej1_16 ?_
        refine seg [.p 1] [(37, .pointer (some ⟨bj1_17, (fj1_18 + xj1_s5.toNat * 3) + 1, none⟩))] [] ?_
        refine g_lwD 38 1 (.int .i64 ej1_16.f1) hmej1_16 hmej1_16 hwej1_16 ?_
        refine seg [.p 3] [(41, .bool ((ej1_11.f1 : Int) != ej1_16.f1))] [] ?_
        refine gs 41 hm (fun hm => ?_) fun hm => ?_
        · refine seg [.p 14] [(55, .bool true)] [] ?_
          refine fin ?_
          exact to [] (@f18_j2 _ _ _ _ ihj1 M cx0 cx1 Ax0 Ax1 _ _ _ _ hm hj1_s0 hj1_s1)
        · obtain ⟨ej1_21, bj1_22, fj1_23, kj1_24, Wj1_25, hm, haej1_21, hbej1_21, hmej1_21, hwej1_21, hrej1_21⟩ := ixo hm hj1_s0
          obtain ⟨Ahrej1_21_2, chrej1_21_2, hcej1_21, hrej1_21_2⟩ := kS80_open hrej1_21
          replace hwej1_21 := hwej1_21.trans hcej1_21
          refine seg [.p 2] [(42, .slice Ax0 x0.length cx0), (43, .int .i64 xj1_s5)] [] ?_
          refine g_ix 44 3 haej1_21 hbej1_21 ?_
          refine seg [.p 1] [(45, .pointer (some ⟨bj1_22, (fj1_23 + xj1_s5.toNat * 3) + 2, none⟩))] [] ?_
          refine g_lwD 46 2 (.slice Ahrej1_21_2 ej1_21.f2.length chrej1_21_2) hmej1_21 hmej1_21 hwej1_21 ?_
          refine g_cvD 47 (Mem.le_refl _) hrej1_21_2 ?_
          obtain ⟨ej1_26, bj1_27, fj1_28, kj1_29, Wj1_30, hm, haej1_26, hbej1_26, hmej1_26, hwej1_26, hrej1_26⟩ := ixo hm hj1_s1
          obtain ⟨Ahrej1_26_2, chrej1_26_2, hcej1_26, hrej1_26_2⟩ := kS80_open hrej1_26
          replace hwej1_26 := hwej1_26.trans hcej1_26
          refine seg [.p 2] [(48, .slice Ax1 x1.length cx1), (49, .int .i64 xj1_s5)] [] ?_
          refine g_ix 50 3 haej1_26 hbej1_26 ?_
          refine seg [.p 1] [(51, .pointer (some ⟨bj1_27, (fj1_28 + xj1_s5.toNat * 3) + 2, none⟩))] [] ?_
          refine g_lwD 52 2 (.slice Ahrej1_26_2 ej1_26.f2.length chrej1_26_2) hmej1_26 hmej1_26 hwej1_26 ?_
          refine g_cvD 53 (Mem.le_refl _) hrej1_26_2 ?_
          refine seg [.p 2] [(55, .bool (!(strEq (strOfNums ej1_21.f2) (strOfNums ej1_26.f2))))] [] ?_
          refine fin ?_
          exact to [] (@f18_j2 _ _ _ _ ihj1 M cx0 cx1 Ax0 Ax1 _ _ _ _ hm hj1_s0 hj1_s1)
    · refine rs [1, 1, 1, 0] [.p 1] [(4, .bool true)] [] ?_
      obtain rfl := Option.some.inj hm
      exact rtp (v := .bool true) [] ⟨rfl, rfl, rfl⟩
theorem f18_ok {M : Mem} {Ax0 : Option Addr} {cx0 : Nat} {Ax1 : Option Addr} {cx1 : Nat} (x0 : List S80) (x1 : List S80) (r : Bool) (hm : m18 x0 x1 = some r) (hx0 : SlAt kS80 M Ax0 cx0 x0) (hx1 : SlAt kS80 M Ax1 cx1 x1) : FnOk Try.prog 18 [.slice Ax0 x0.length cx0, .slice Ax1 x1.length cx1] M [] (R18 M r) := by
  refine intro_ (c := c18) 56 Try.func18 fun w => ?_
  unfold m18 at hm
  refine rs [0] [.p 1] [] [] ?_
  refine rs [1, 0, 0] [.p 5] [(10, .bool (((x0.length : Int) : Int) != (x1.length : Int)))] [] ?_
  refine gi [1, 0, 1] hm (fun hm => ?_) fun hm => ?_
  · refine rs [1, 0, 1, 0, 0] [.p 1] [(4, .bool false)] [] ?_
    obtain rfl := Option.some.inj hm
    exact rtp (v := .bool false) [] ⟨rfl, rfl, rfl⟩
  · refine rs [1, 1, 0, 0] [.p 1] [(5, .int .i64 0)] [] ?_
    exact to [] (@f18_j1 _ _ _ FUEL M cx0 cx1 Ax0 Ax1 _ _ _ hm hx0 hx1)

/-! ## heartwood/heartwoodref18.Same -/
/-- heartwood/heartwoodref18.Same: what is left behind a call. -/
abbrev R32 (M : Mem) (r : Bool) : Value → Mem → List Res → Prop := fun v M' H' => .bool r = v ∧ M = M' ∧ H' = []
noncomputable def c32 : Code := match Try.f32.body with | some c => c | none => .skip
abbrev C32 (w0 : World) (M0 : Mem) : Ctx := ⟨37, w0, M0, []⟩
abbrev D32 (w0 : World) (M0 : Mem) (r : Bool) : Post := Done Try.prog Try.f32 (C32 w0 M0) (R32 M0 r)
theorem f32_j1 {w0 : World} {M0 : Mem} {r : Bool} : ∀ {M : Mem} (xj1_s4 : Bool) (_ : m32_j1 xj1_s4 = some r), AG Try.prog c32 [1, 1] (D32 w0 M0 r) (C32 w0 M0) (env [(4, .bool xj1_s4)]) M [] := by
  intro M xj1_s4 hm; unfold m32_j1 at hm
  obtain rfl := Option.some.inj hm
  exact rtp (v := .bool xj1_s4) [] ⟨rfl, rfl, rfl⟩
theorem f32_ok {M : Mem} {csx0 : List Value} {csx1 : List Value} (x0 : S26) (x1 : S26) (r : Bool) (hm : m32 x0 x1 = some r) (hx0 : kS26.rep M csx0 x0) (hx1 : kS26.rep M csx1 x1) : FnOk Try.prog 32 [.agg csx0.toArray, .agg csx1.toArray] M [] (R32 M r) := by
  obtain ⟨Ahx0_2, chx0_2, Ahx0_3, chx0_3, rfl, hx0_2, hx0_3⟩ := kS26_open hx0
  obtain ⟨Ahx1_2, chx1_2, Ahx1_3, chx1_3, rfl, hx1_2, hx1_3⟩ := kS26_open hx1
  refine intro_ (c := c32) 37 Try.func32 fun w => ?_
  unfold m32 at hm
  refine rg [0] ?_
  refine g_bx 2 27 (.agg (cS26 x0 Ahx0_2 chx0_2 Ahx0_3 chx0_3).toArray) fun b0_1 => ?_
  refine g_bx 3 27 (.agg (cS26 x1 Ahx1_2 chx1_2 Ahx1_3 chx1_3).toArray) fun b0_2 => ?_
  refine seg [.p 1] [] [] ?_
  refine fin ?_
  refine rg [1, 0] ?_
  refine seg [.p 2, .l 0, .p 2, .l 1, .p 2] [(12, .bool ((x0.f0.f0 : Int) == x1.f0.f0))] [] ?_
  refine gs 12 hm (fun hm => ?_) fun hm => ?_
  · refine seg [.p 2, .l 0, .p 2, .l 1, .p 3] [(21, .bool ((x0.f0.f1 : Int) == x1.f0.f1))] [] ?_
    refine gs 21 hm (fun hm => ?_) fun hm => ?_
    · obtain ⟨t0_3, ht0_3, hm⟩ := bind_some hm
      refine seg [.p 2, .l 0, .p 2, .l 1] [(24, .slice Ahx0_2 x0.f0.f2.length chx0_2), (27, .slice Ahx1_2 x1.f0.f2.length chx1_2)] [] ?_
      refine g_call0 28 (f33_ok _ _ _ ht0_3 hx0_2 hx1_2) ?_
      rintro _ _ _ ⟨rfl, rfl, rfl⟩ -
      refine seg [.p 2] [(30, .bool t0_3)] [] ?_
      refine gs 30 hm (fun hm => ?_) fun hm => ?_
      · obtain ⟨t0_4, ht0_4, hm⟩ := bind_some hm
        refine seg [.p 1, .l 0, .p 1, .l 1] [(32, .slice Ahx0_3 x0.f1.length chx0_3), (34, .slice Ahx1_3 x1.f1.length chx1_3)] [] ?_
        refine g_call0 35 (f18_ok _ _ _ ht0_4 hx0_3 hx1_3) ?_
        rintro _ _ _ ⟨rfl, rfl, rfl⟩ -
        refine seg [.p 2] [(4, .bool t0_4)] [] ?_
        refine fin ?_
        exact to [] (@f32_j1 _ _ _ M _ hm)
      · refine seg [.p 7] [(4, .bool false)] [] ?_
        refine fin ?_
        exact to [] (@f32_j1 _ _ _ M _ hm)
    · refine seg [.p 16] [(4, .bool false)] [] ?_
      refine fin ?_
      exact to [] (@f32_j1 _ _ _ M _ hm)
  · refine seg [.p 25] [(4, .bool false)] [] ?_
    refine fin ?_
    exact to [] (@f32_j1 _ _ _ M _ hm)

/-! ## heartwood/heartwoodref19.Same -/
/-- heartwood/heartwoodref19.Same: what is left behind a call. -/
abbrev R12 (M : Mem) (r : Bool) : Value → Mem → List Res → Prop := fun v M' H' => .bool r = v ∧ M = M' ∧ H' = []
noncomputable def c12 : Code := match Try.f12.body with | some c => c | none => .skip
abbrev C12 (w0 : World) (M0 : Mem) : Ctx := ⟨87, w0, M0, []⟩
abbrev D12 (w0 : World) (M0 : Mem) (r : Bool) : Post := Done Try.prog Try.f12 (C12 w0 M0) (R12 M0 r)
theorem f12_j1 {w0 : World} {M0 : Mem} {r : Bool} : ∀ {M : Mem} (xj1_s4 : Bool) (_ : m12_j1 xj1_s4 = some r), AG Try.prog c12 [1, 1] (D12 w0 M0 r) (C12 w0 M0) (env [(4, .bool xj1_s4)]) M [] := by
  intro M xj1_s4 hm; unfold m12_j1 at hm
  obtain rfl := Option.some.inj hm
  exact rtp (v := .bool xj1_s4) [] ⟨rfl, rfl, rfl⟩
theorem f12_ok {M : Mem} {csx0 : List Value} {csx1 : List Value} (x0 : S31) (x1 : S31) (r : Bool) (hm : m12 x0 x1 = some r) (hx0 : kS31.rep M csx0 x0) (hx1 : kS31.rep M csx1 x1) : FnOk Try.prog 12 [.agg csx0.toArray, .agg csx1.toArray] M [] (R12 M r) := by
  obtain ⟨Ahx0_7, chx0_7, Ahx0_8, chx0_8, Ahx0_10, chx0_10, rfl, hx0_7, hx0_8, hx0_10, hx0_11, hx0_12⟩ := kS31_open hx0
  obtain ⟨Ahx1_7, chx1_7, Ahx1_8, chx1_8, Ahx1_10, chx1_10, rfl, hx1_7, hx1_8, hx1_10, hx1_11, hx1_12⟩ := kS31_open hx1
  refine intro_ (c := c12) 87 Try.func12 fun w => ?_
  unfold m12 at hm
  refine rg [0] ?_
  refine g_bx 2 32 (.agg (cS31 x0 Ahx0_7 chx0_7 Ahx0_8 chx0_8 Ahx0_10 chx0_10).toArray) fun b0_1 => ?_
  refine g_bx 3 32 (.agg (cS31 x1 Ahx1_7 chx1_7 Ahx1_8 chx1_8 Ahx1_10 chx1_10).toArray) fun b0_2 => ?_
  refine seg [.p 1] [] [] ?_
  refine fin ?_
  refine rg [1, 0] ?_
  refine seg [.p 1, .l 0, .p 1, .l 1, .p 2] [(10, .bool ((x0.f0 : Int) == x1.f0))] [] ?_
  refine gs 10 hm (fun hm => ?_) fun hm => ?_
  · refine seg [.p 1, .l 0, .p 1, .l 1, .p 3] [(17, .bool ((x0.f1 : Int) == x1.f1))] [] ?_
    refine gs 17 hm (fun hm => ?_) fun hm => ?_
    · refine seg [.p 1, .l 0, .p 1, .l 1, .p 3] [(24, .bool ((x0.f2 : Int) == x1.f2))] [] ?_
      refine gs 24 hm (fun hm => ?_) fun hm => ?_
      · refine seg [.p 1, .l 0, .p 1, .l 1, .p 3] [(31, .bool ((x0.f3 : Int) == x1.f3))] [] ?_
        refine gs 31 hm (fun hm => ?_) fun hm => ?_
        · refine seg [.p 1, .l 0, .p 1, .l 1, .p 3] [(38, .bool ((x0.f4 : Int) == x1.f4))] [] ?_
          refine gs 38 hm (fun hm => ?_) fun hm => ?_
          · obtain ⟨t0_3, ht0_3, hm⟩ := bind_some hm
            refine seg [.p 1, .l 0, .p 1, .l 1] [(40, .agg (cS26 x0.f5 Ahx0_7 chx0_7 Ahx0_8 chx0_8).toArray), (42, .agg (cS26 x1.f5 Ahx1_7 chx1_7 Ahx1_8 chx1_8).toArray)] [] ?_
            refine g_call0 43 (f32_ok _ _ _ ht0_3 (kS26_mk (cs := (cS26 x0.f5 Ahx0_7 chx0_7 Ahx0_8 chx0_8)) x0.f5 rfl hx0_7 hx0_8) (kS26_mk (cs := (cS26 x1.f5 Ahx1_7 chx1_7 Ahx1_8 chx1_8)) x1.f5 rfl hx1_7 hx1_8)) ?_
            rintro _ _ _ ⟨rfl, rfl, rfl⟩ -
            refine seg [.p 2] [(45, .bool t0_3)] [] ?_
            refine gs 45 hm (fun hm => ?_) fun hm => ?_
            · refine seg [.p 1, .l 0, .p 1, .l 1, .p 3] [(52, .bool ((x0.f6 : Int) == x1.f6))] [] ?_
              refine gs 52 hm (fun hm => ?_) fun hm => ?_
              · obtain ⟨t0_4, ht0_4, hm⟩ := bind_some hm
                refine seg [.p 1, .l 0, .p 1, .l 1] [(54, .slice Ahx0_10 x0.f7.length chx0_10), (56, .slice Ahx1_10 x1.f7.length chx1_10)] [] ?_
                refine g_call0 57 (f33_ok _ _ _ ht0_4 hx0_10 hx1_10) ?_
                rintro _ _ _ ⟨rfl, rfl, rfl⟩ -
                refine seg [.p 2] [(59, .bool t0_4)] [] ?_
                refine gs 59 hm (fun hm => ?_) fun hm => ?_
                · refine seg [.p 1, .l 0, .p 1, .l 1] [(61, .agg #[.int .i64 (x0.f8.getD 0 0), .int .i64 (x0.f8.getD 1 0), .int .i64 (x0.f8.getD 2 0), .int .i64 (x0.f8.getD 3 0), .int .i64 (x0.f8.getD 4 0), .int .i64 (x0.f8.getD 5 0), .int .i64 (x0.f8.getD 6 0), .int .i64 (x0.f8.getD 7 0)]), (63, .agg #[.int .i64 (x1.f8.getD 0 0), .int .i64 (x1.f8.getD 1 0), .int .i64 (x1.f8.getD 2 0), .int .i64 (x1.f8.getD 3 0), .int .i64 (x1.f8.getD 4 0), .int .i64 (x1.f8.getD 5 0), .int .i64 (x1.f8.getD 6 0), .int .i64 (x1.f8.getD 7 0)])] [] ?_
                  refine g_ae 64 8 .eql .i64 x0.f8 x1.f8 ((arEq 8 x0.f8 x1.f8)) (.inl ⟨rfl, rfl⟩) ?_
                  refine seg [.p 2] [(66, .bool (arEq 8 x0.f8 x1.f8))] [] ?_
                  refine gs 66 hm (fun hm => ?_) fun hm => ?_
                  · refine seg [.p 1, .l 0, .p 1, .l 1] [(68, .agg #[.int .i64 (x0.f9.getD 0 0), .int .i64 (x0.f9.getD 1 0), .int .i64 (x0.f9.getD 2 0), .int .i64 (x0.f9.getD 3 0), .int .i64 (x0.f9.getD 4 0), .int .i64 (x0.f9.getD 5 0), .int .i64 (x0.f9.getD 6 0), .int .i64 (x0.f9.getD 7 0)]), (70, .agg #[.int .i64 (x1.f9.getD 0 0), .int .i64 (x1.f9.getD 1 0), .int .i64 (x1.f9.getD 2 0), .int .i64 (x1.f9.getD 3 0), .int .i64 (x1.f9.getD 4 0), .int .i64 (x1.f9.getD 5 0), .int .i64 (x1.f9.getD 6 0), .int .i64 (x1.f9.getD 7 0)])] [] ?_
                    refine g_ae 71 8 .eql .i64 x0.f9 x1.f9 ((arEq 8 x0.f9 x1.f9)) (.inl ⟨rfl, rfl⟩) ?_
                    refine seg [.p 2] [(73, .bool (arEq 8 x0.f9 x1.f9))] [] ?_
                    refine gs 73 hm (fun hm => ?_) fun hm => ?_
                    · refine seg [.p 1, .l 0, .p 1, .l 1, .p 3] [(80, .bool ((x0.f10 : Int) == x1.f10))] [] ?_
                      refine gs 80 hm (fun hm => ?_) fun hm => ?_
                      · refine seg [.p 1, .l 0, .p 1, .l 1, .p 3] [(4, .bool ((x0.f11 : Int) == x1.f11))] [] ?_
                        refine fin ?_
                        exact to [] (@f12_j1 _ _ _ M _ hm)
                      · refine seg [.p 7] [(4, .bool false)] [] ?_
                        refine fin ?_
                        exact to [] (@f12_j1 _ _ _ M _ hm)
                    · refine seg [.p 14] [(4, .bool false)] [] ?_
                      refine fin ?_
                      exact to [] (@f12_j1 _ _ _ M _ hm)
                  · refine seg [.p 21] [(4, .bool false)] [] ?_
                    refine fin ?_
                    exact to [] (@f12_j1 _ _ _ M _ hm)
                · refine seg [.p 28] [(4, .bool false)] [] ?_
                  refine fin ?_
                  exact to [] (@f12_j1 _ _ _ M _ hm)
              · refine seg [.p 35] [(4, .bool false)] [] ?_
                refine fin ?_
                exact to [] (@f12_j1 _ _ _ M _ hm)
            · refine seg [.p 42] [(4, .bool false)] [] ?_
              refine fin ?_
              exact to [] (@f12_j1 _ _ _ M _ hm)
          · refine seg [.p 49] [(4, .bool false)] [] ?_
            refine fin ?_
            exact to [] (@f12_j1 _ _ _ M _ hm)
        · refine seg [.p 56] [(4, .bool false)] [] ?_
          refine fin ?_
          exact to [] (@f12_j1 _ _ _ M _ hm)
      · refine seg [.p 63] [(4, .bool false)] [] ?_
        refine fin ?_
        exact to [] (@f12_j1 _ _ _ M _ hm)
    · refine seg [.p 70] [(4, .bool false)] [] ?_
      refine fin ?_
      exact to [] (@f12_j1 _ _ _ M _ hm)
  · refine seg [.p 77] [(4, .bool false)] [] ?_
    refine fin ?_
    exact to [] (@f12_j1 _ _ _ M _ hm)

/-! ## heartwood/heartwoodlaw19.RaftNew -/
/-- heartwood/heartwoodlaw19.RaftNew: what is left behind a call. -/
abbrev R3 (M : Mem) (r : Bool) : Value → Mem → List Res → Prop := fun v M' H' => .bool r = v ∧ M = M' ∧ H' = []
noncomputable def c3 : Code := match Try.f3.body with | some c => c | none => .skip
abbrev C3 (w0 : World) (M0 : Mem) : Ctx := ⟨64, w0, M0, []⟩
abbrev D3 (w0 : World) (M0 : Mem) (r : Bool) : Post := Done Try.prog Try.f3 (C3 w0 M0) (R3 M0 r)
theorem f3_j2 {w0 : World} {M0 : Mem} {r : Bool} : ∀ {M : Mem} (xj2_s10 : Bool) (_ : m3_j2 xj2_s10 = some r), AG Try.prog c3 [1, 1, 1, 1, 1, 1, 1, 1] (D3 w0 M0 r) (C3 w0 M0) (env [(10, .bool xj2_s10)]) M [] := by
  intro M xj2_s10 hm; unfold m3_j2 at hm
  obtain rfl := Option.some.inj hm
  exact rtp (v := .bool xj2_s10) [] ⟨rfl, rfl, rfl⟩
theorem f3_j1 {w0 : World} {M0 : Mem} {r : Bool} : ∀ {M : Mem} (xj1_s10 : Bool) (_ : m3_j1 xj1_s10 = some r), AG Try.prog c3 [1, 1, 1, 1, 1, 1, 0, 1, 0, 1] (D3 w0 M0 r) (C3 w0 M0) (env [(10, .bool xj1_s10)]) M [] := by
  intro M xj1_s10 hm; unfold m3_j1 at hm
  obtain rfl := Option.some.inj hm
  exact rtp (v := .bool xj1_s10) [] ⟨rfl, rfl, rfl⟩
theorem f3_ok {M : Mem} {csx3 : List Value} (x0 : Int) (x1 : Int) (x2 : Int) (x3 : S26) (x4 : Int) (r : Bool) (hm : m3 x0 x1 x2 x3 x4 = some r) (hx3 : kS26.rep M csx3 x3) : FnOk Try.prog 3 [.int .i64 x0, .int .i64 x1, .int .i64 x2, .agg csx3.toArray, .int .i64 x4] M [] (R3 M r) := by
  obtain ⟨Ahx3_2, chx3_2, Ahx3_3, chx3_3, rfl, hx3_2, hx3_3⟩ := kS26_open hx3
  refine intro_ (c := c3) 64 Try.func3 fun w => ?_
  unfold m3 at hm
  refine rg [0] ?_
  refine g_bx 8 27 (.agg (cS26 x3 Ahx3_2 chx3_2 Ahx3_3 chx3_3).toArray) fun b0_1 => ?_
  refine seg [.p 1] [] [] ?_
  refine fin ?_
  obtain ⟨t0_2, ht0_2, hm⟩ := bind_some hm
  refine rg [1, 0] ?_
  refine g_call0 17 (f8_ok (M := M) t0_2 ht0_2) ?_
  rintro _ _ _ ⟨rfl, rfl, rfl⟩ -
  refine seg [.p 1] [(11, .bool t0_2)] [] ?_
  refine fin ?_
  obtain ⟨t0_3, ht0_3, hm⟩ := bind_some hm
  refine rg [1, 1, 0] ?_
  refine seg [.l 0] [(18, .agg (cS26 x3 Ahx3_2 chx3_2 Ahx3_3 chx3_3).toArray)] [] ?_
  refine g_call0 19 (f9_ok _ _ ht0_3 (kS26_mk (cs := (cS26 x3 Ahx3_2 chx3_2 Ahx3_3 chx3_3)) x3 rfl hx3_2 hx3_3)) ?_
  rintro _ _ _ ⟨rfl, rfl, rfl⟩ -
  refine seg [.p 1] [(12, .bool t0_3)] [] ?_
  refine fin ?_
  refine rs [1, 1, 1, 0, 0] [.p 2] [(21, .bool (!t0_3))] [] ?_
  refine gi [1, 1, 1, 0, 1] hm (fun hm => ?_) fun hm => ?_
  · refine rs [1, 1, 1, 0, 1, 0, 0] [.p 2] [(10, .bool t0_2)] [] ?_
    obtain rfl := Option.some.inj hm
    exact rtp (v := .bool t0_2) [] ⟨rfl, rfl, rfl⟩
  · obtain ⟨t0_4, ht0_4, hm⟩ := bind_some hm
    refine rg [1, 1, 1, 1, 0] ?_
    refine seg [.p 3, .l 0, .p 1] [(24, .int .i64 x0), (25, .int .i64 x1), (26, .int .i64 x2), (27, .agg (cS26 x3 Ahx3_2 chx3_2 Ahx3_3 chx3_3).toArray), (28, .int .i64 x4)] [] ?_
    refine g_call0 29 (f10_ok _ _ _ _ _ _ ht0_4 (kS26_mk (cs := (cS26 x3 Ahx3_2 chx3_2 Ahx3_3 chx3_3)) x3 rfl hx3_2 hx3_3)) ?_
    rintro _ M0_6 _ ⟨cs0_5, rfl, rfl, h0_6⟩ hM0_6
    obtain ⟨Ah0_6_7, ch0_6_7, Ah0_6_8, ch0_6_8, Ah0_6_10, ch0_6_10, rfl, h0_6_7, h0_6_8, h0_6_10, h0_6_11, h0_6_12⟩ := kS31_open h0_6
    refine seg [.p 3] [(30, .agg (cS31 (S31.mk t0_4.1.f0 t0_4.1.f1 t0_4.1.f2 t0_4.1.f3 t0_4.1.f4 (S26.mk (S23.mk t0_4.1.f5.f0.f0 t0_4.1.f5.f0.f1 t0_4.1.f5.f0.f2) t0_4.1.f5.f1) t0_4.1.f6 t0_4.1.f7 t0_4.1.f8 t0_4.1.f9 t0_4.1.f10 t0_4.1.f11) Ah0_6_7 ch0_6_7 Ah0_6_8 ch0_6_8 Ah0_6_10 ch0_6_10).toArray), (31, errV 39 t0_4.2)] [] ?_
    refine g_al 13 32 (cS31 (S31.mk 0 0 0 0 0 (S26.mk (S23.mk 0 0 []) []) 0 [] [0, 0, 0, 0, 0, 0, 0, 0] [0, 0, 0, 0, 0, 0, 0, 0] 0 0) none 0 none 0 none 0) fun b0_7 => ?_
    refine seg [.s 1, .p 1] [(14, errV 39 t0_4.2)] [(1, .blk b0_7 (cS31 (S31.mk t0_4.1.f0 t0_4.1.f1 t0_4.1.f2 t0_4.1.f3 t0_4.1.f4 (S26.mk (S23.mk t0_4.1.f5.f0.f0 t0_4.1.f5.f0.f1 t0_4.1.f5.f0.f2) t0_4.1.f5.f1) t0_4.1.f6 t0_4.1.f7 t0_4.1.f8 t0_4.1.f9 t0_4.1.f10 t0_4.1.f11) Ah0_6_7 ch0_6_7 Ah0_6_8 ch0_6_8 Ah0_6_10 ch0_6_10) 32)] ?_
    refine fin ?_
    obtain ⟨t0_8, ht0_8, hm⟩ := bind_some hm
    refine rg [1, 1, 1, 1, 1, 0] ?_
    refine seg [.p 3, .l 0, .p 1] [(33, .int .i64 x0), (34, .int .i64 x1), (35, .int .i64 x2), (36, .agg (cS26 x3 Ahx3_2 chx3_2 Ahx3_3 chx3_3).toArray), (37, .int .i64 x4)] [] ?_
    replace hx3_2 := (hx3_2.mono hM0_6)
    replace hx3_3 := (hx3_3.mono hM0_6)
    refine g_call0 38 (f11_ok _ _ _ _ _ _ ht0_8 (kS26_mk (cs := (cS26 x3 Ahx3_2 chx3_2 Ahx3_3 chx3_3)) x3 rfl hx3_2 hx3_3)) ?_
    rintro _ M0_10 _ ⟨cs0_9, rfl, rfl, h0_10⟩ hM0_10
    obtain ⟨Ah0_10_7, ch0_10_7, Ah0_10_8, ch0_10_8, Ah0_10_10, ch0_10_10, rfl, h0_10_7, h0_10_8, h0_10_10, h0_10_11, h0_10_12⟩ := kS31_open h0_10
    refine seg [.p 3] [(39, .agg (cS31 (S31.mk t0_8.1.f0 t0_8.1.f1 t0_8.1.f2 t0_8.1.f3 t0_8.1.f4 (S26.mk (S23.mk t0_8.1.f5.f0.f0 t0_8.1.f5.f0.f1 t0_8.1.f5.f0.f2) t0_8.1.f5.f1) t0_8.1.f6 t0_8.1.f7 t0_8.1.f8 t0_8.1.f9 t0_8.1.f10 t0_8.1.f11) Ah0_10_7 ch0_10_7 Ah0_10_8 ch0_10_8 Ah0_10_10 ch0_10_10).toArray), (40, .bool t0_8.2)] [] ?_
    refine g_al 15 32 (cS31 (S31.mk 0 0 0 0 0 (S26.mk (S23.mk 0 0 []) []) 0 [] [0, 0, 0, 0, 0, 0, 0, 0] [0, 0, 0, 0, 0, 0, 0, 0] 0 0) none 0 none 0 none 0) fun b0_11 => ?_
    refine seg [.s 2, .p 1] [(16, .bool t0_8.2)] [(2, .blk b0_11 (cS31 (S31.mk t0_8.1.f0 t0_8.1.f1 t0_8.1.f2 t0_8.1.f3 t0_8.1.f4 (S26.mk (S23.mk t0_8.1.f5.f0.f0 t0_8.1.f5.f0.f1 t0_8.1.f5.f0.f2) t0_8.1.f5.f1) t0_8.1.f6 t0_8.1.f7 t0_8.1.f8 t0_8.1.f9 t0_8.1.f10 t0_8.1.f11) Ah0_10_7 ch0_10_7 Ah0_10_8 ch0_10_8 Ah0_10_10 ch0_10_10) 32)] ?_
    refine fin ?_
    refine rs [1, 1, 1, 1, 1, 1, 0, 0] [.p 2] [(42, .bool (!t0_8.2))] [] ?_
    refine gi [1, 1, 1, 1, 1, 1, 0, 1] hm (fun hm => ?_) fun hm => ?_
    · refine rg [1, 1, 1, 1, 1, 1, 0, 1, 0, 0] ?_
      refine seg [.p 2] [(44, .bool t0_2)] [] ?_
      refine gs 44 hm (fun hm => ?_) fun hm => ?_
      · refine seg [.p 2] [(45, errV 39 t0_4.2), (46, errV 39 3)] [] ?_
        refine g_ee 47 39 34 .eql t0_4.2 3 ((t0_4.2 : Int) == 3) (.inl ⟨rfl, rfl⟩) ?_
        refine seg [.p 2] [(49, .bool ((t0_4.2 : Int) == 3))] [] ?_
        refine gs 49 hm (fun hm => ?_) fun hm => ?_
        · obtain ⟨t0_12, ht0_12, hm⟩ := bind_some hm
          refine seg [.l 1, .b] [(50, .agg (cS31 (S31.mk t0_4.1.f0 t0_4.1.f1 t0_4.1.f2 t0_4.1.f3 t0_4.1.f4 (S26.mk (S23.mk t0_4.1.f5.f0.f0 t0_4.1.f5.f0.f1 t0_4.1.f5.f0.f2) t0_4.1.f5.f1) t0_4.1.f6 t0_4.1.f7 t0_4.1.f8 t0_4.1.f9 t0_4.1.f10 t0_4.1.f11) Ah0_6_7 ch0_6_7 Ah0_6_8 ch0_6_8 Ah0_6_10 ch0_6_10).toArray), (51, .agg (cS31 (S31.mk 0 0 0 0 0 (S26.mk (S23.mk 0 0 []) []) 0 [] [0, 0, 0, 0, 0, 0, 0, 0] [0, 0, 0, 0, 0, 0, 0, 0] 0 0) none 0 none 0 none 0).toArray)] [] ?_
          replace h0_6_7 := (h0_6_7.mono hM0_10)
          replace h0_6_8 := (h0_6_8.mono hM0_10)
          replace h0_6_10 := (h0_6_10.mono hM0_10)
          refine g_call0 52 (f12_ok _ _ _ ht0_12 (kS31_mk (cs := (cS31 (S31.mk t0_4.1.f0 t0_4.1.f1 t0_4.1.f2 t0_4.1.f3 t0_4.1.f4 (S26.mk (S23.mk t0_4.1.f5.f0.f0 t0_4.1.f5.f0.f1 t0_4.1.f5.f0.f2) t0_4.1.f5.f1) t0_4.1.f6 t0_4.1.f7 t0_4.1.f8 t0_4.1.f9 t0_4.1.f10 t0_4.1.f11) Ah0_6_7 ch0_6_7 Ah0_6_8 ch0_6_8 Ah0_6_10 ch0_6_10)) (S31.mk t0_4.1.f0 t0_4.1.f1 t0_4.1.f2 t0_4.1.f3 t0_4.1.f4 (S26.mk (S23.mk t0_4.1.f5.f0.f0 t0_4.1.f5.f0.f1 t0_4.1.f5.f0.f2) t0_4.1.f5.f1) t0_4.1.f6 t0_4.1.f7 t0_4.1.f8 t0_4.1.f9 t0_4.1.f10 t0_4.1.f11) rfl h0_6_7 h0_6_8 h0_6_10 h0_6_11 h0_6_12) (kS31_mk (cs := (cS31 (S31.mk 0 0 0 0 0 (S26.mk (S23.mk 0 0 []) []) 0 [] [0, 0, 0, 0, 0, 0, 0, 0] [0, 0, 0, 0, 0, 0, 0, 0] 0 0) none 0 none 0 none 0)) (S31.mk 0 0 0 0 0 (S26.mk (S23.mk 0 0 []) []) 0 [] [0, 0, 0, 0, 0, 0, 0, 0] [0, 0, 0, 0, 0, 0, 0, 0] 0 0) rfl slNil slNil slNil rfl rfl)) ?_
          rintro _ _ _ ⟨rfl, rfl, rfl⟩ -
          refine seg [.p 2] [(10, .bool t0_12)] [] ?_
          refine fin ?_
          exact to [] (@f3_j1 _ _ _ M0_10 _ hm)
        · refine seg [.p 5] [(10, .bool false)] [] ?_
          refine fin ?_
          exact to [] (@f3_j1 _ _ _ M0_10 _ hm)
      · refine seg [.p 10] [(10, .bool false)] [] ?_
        refine fin ?_
        exact to [] (@f3_j1 _ _ _ M0_10 _ hm)
    · refine rg [1, 1, 1, 1, 1, 1, 1, 0] ?_
      refine seg [.p 2] [(55, .bool t0_2)] [] ?_
      refine gs 55 hm (fun hm => ?_) fun hm => ?_
      · refine seg [.p 1, .e 39 t0_4.2, .p 2] [(59, .bool ((t0_4.2 : Int) == 0))] [] ?_
        refine gs 59 hm (fun hm => ?_) fun hm => ?_
        · obtain ⟨t0_13, ht0_13, hm⟩ := bind_some hm
          refine seg [.l 1, .l 2] [(60, .agg (cS31 (S31.mk t0_4.1.f0 t0_4.1.f1 t0_4.1.f2 t0_4.1.f3 t0_4.1.f4 (S26.mk (S23.mk t0_4.1.f5.f0.f0 t0_4.1.f5.f0.f1 t0_4.1.f5.f0.f2) t0_4.1.f5.f1) t0_4.1.f6 t0_4.1.f7 t0_4.1.f8 t0_4.1.f9 t0_4.1.f10 t0_4.1.f11) Ah0_6_7 ch0_6_7 Ah0_6_8 ch0_6_8 Ah0_6_10 ch0_6_10).toArray), (61, .agg (cS31 (S31.mk t0_8.1.f0 t0_8.1.f1 t0_8.1.f2 t0_8.1.f3 t0_8.1.f4 (S26.mk (S23.mk t0_8.1.f5.f0.f0 t0_8.1.f5.f0.f1 t0_8.1.f5.f0.f2) t0_8.1.f5.f1) t0_8.1.f6 t0_8.1.f7 t0_8.1.f8 t0_8.1.f9 t0_8.1.f10 t0_8.1.f11) Ah0_10_7 ch0_10_7 Ah0_10_8 ch0_10_8 Ah0_10_10 ch0_10_10).toArray)] [] ?_
          replace h0_6_7 := (h0_6_7.mono hM0_10)
          replace h0_6_8 := (h0_6_8.mono hM0_10)
          replace h0_6_10 := (h0_6_10.mono hM0_10)
          refine g_call0 62 (f12_ok _ _ _ ht0_13 (kS31_mk (cs := (cS31 (S31.mk t0_4.1.f0 t0_4.1.f1 t0_4.1.f2 t0_4.1.f3 t0_4.1.f4 (S26.mk (S23.mk t0_4.1.f5.f0.f0 t0_4.1.f5.f0.f1 t0_4.1.f5.f0.f2) t0_4.1.f5.f1) t0_4.1.f6 t0_4.1.f7 t0_4.1.f8 t0_4.1.f9 t0_4.1.f10 t0_4.1.f11) Ah0_6_7 ch0_6_7 Ah0_6_8 ch0_6_8 Ah0_6_10 ch0_6_10)) (S31.mk t0_4.1.f0 t0_4.1.f1 t0_4.1.f2 t0_4.1.f3 t0_4.1.f4 (S26.mk (S23.mk t0_4.1.f5.f0.f0 t0_4.1.f5.f0.f1 t0_4.1.f5.f0.f2) t0_4.1.f5.f1) t0_4.1.f6 t0_4.1.f7 t0_4.1.f8 t0_4.1.f9 t0_4.1.f10 t0_4.1.f11) rfl h0_6_7 h0_6_8 h0_6_10 h0_6_11 h0_6_12) (kS31_mk (cs := (cS31 (S31.mk t0_8.1.f0 t0_8.1.f1 t0_8.1.f2 t0_8.1.f3 t0_8.1.f4 (S26.mk (S23.mk t0_8.1.f5.f0.f0 t0_8.1.f5.f0.f1 t0_8.1.f5.f0.f2) t0_8.1.f5.f1) t0_8.1.f6 t0_8.1.f7 t0_8.1.f8 t0_8.1.f9 t0_8.1.f10 t0_8.1.f11) Ah0_10_7 ch0_10_7 Ah0_10_8 ch0_10_8 Ah0_10_10 ch0_10_10)) (S31.mk t0_8.1.f0 t0_8.1.f1 t0_8.1.f2 t0_8.1.f3 t0_8.1.f4 (S26.mk (S23.mk t0_8.1.f5.f0.f0 t0_8.1.f5.f0.f1 t0_8.1.f5.f0.f2) t0_8.1.f5.f1) t0_8.1.f6 t0_8.1.f7 t0_8.1.f8 t0_8.1.f9 t0_8.1.f10 t0_8.1.f11) rfl h0_10_7 h0_10_8 h0_10_10 h0_10_11 h0_10_12)) ?_
          rintro _ _ _ ⟨rfl, rfl, rfl⟩ -
          refine seg [.p 2] [(10, .bool t0_13)] [] ?_
          refine fin ?_
          exact to [] (@f3_j2 _ _ _ M0_10 _ hm)
        · refine seg [.p 5] [(10, .bool false)] [] ?_
          refine fin ?_
          exact to [] (@f3_j2 _ _ _ M0_10 _ hm)
      · refine seg [.p 9] [(10, .bool false)] [] ?_
        refine fin ?_
        exact to [] (@f3_j2 _ _ _ M0_10 _ hm)

/-! ## heartwood/heartwoodref19.Light -/
/-- heartwood/heartwoodref19.Light: what is left behind a call. -/
abbrev R13 (M : Mem) (r : Bool) : Value → Mem → List Res → Prop := fun v M' H' => .bool r = v ∧ M = M' ∧ H' = []
noncomputable def c13 : Code := match Try.f13.body with | some c => c | none => .skip
abbrev C13 (w0 : World) (M0 : Mem) : Ctx := ⟨44, w0, M0, []⟩
abbrev D13 (w0 : World) (M0 : Mem) (r : Bool) : Post := Done Try.prog Try.f13 (C13 w0 M0) (R13 M0 r)
theorem f13_j1 {w0 : World} {M0 : Mem} {r : Bool} : ∀ {M : Mem} (xj1_s4 : Bool) (_ : m13_j1 xj1_s4 = some r), AG Try.prog c13 [1, 1, 1, 1] (D13 w0 M0 r) (C13 w0 M0) (env [(4, .bool xj1_s4)]) M [] := by
  intro M xj1_s4 hm; unfold m13_j1 at hm
  obtain rfl := Option.some.inj hm
  exact rtp (v := .bool xj1_s4) [] ⟨rfl, rfl, rfl⟩
theorem f13_ok {M : Mem} {csx0 : List Value} {csx1 : List Value} (x0 : S31) (x1 : S48) (r : Bool) (hm : m13 x0 x1 = some r) (hx0 : kS31.rep M csx0 x0) (hx1 : kS48.rep M csx1 x1) : FnOk Try.prog 13 [.agg csx0.toArray, .agg csx1.toArray] M [] (R13 M r) := by
  obtain ⟨Ahx0_7, chx0_7, Ahx0_8, chx0_8, Ahx0_10, chx0_10, rfl, hx0_7, hx0_8, hx0_10, hx0_11, hx0_12⟩ := kS31_open hx0
  obtain ⟨Ahx1_11, chx1_11, Ahx1_12, chx1_12, Ahx1_14, chx1_14, Ahx1_16, chx1_16, Ahx1_17, chx1_17, Ahx1_18, chx1_18, Ahx1_20, chx1_20, Ahx1_21, chx1_21, rfl, hx1_11, hx1_12, hx1_14, hx1_16, hx1_17, hx1_18, hx1_20, hx1_21, hx1_19⟩ := kS48_open hx1
  refine intro_ (c := c13) 44 Try.func13 fun w => ?_
  unfold m13 at hm
  refine rg [0] ?_
  refine g_bx 2 32 (.agg (cS31 x0 Ahx0_7 chx0_7 Ahx0_8 chx0_8 Ahx0_10 chx0_10).toArray) fun b0_1 => ?_
  refine g_bx 3 49 (.agg (cS48 x1 Ahx1_11 chx1_11 Ahx1_12 chx1_12 Ahx1_14 chx1_14 Ahx1_16 chx1_16 Ahx1_17 chx1_17 Ahx1_18 chx1_18 Ahx1_20 chx1_20 Ahx1_21 chx1_21).toArray) fun b0_2 => ?_
  refine seg [.p 1] [] [] ?_
  refine fin ?_
  obtain ⟨t0_3, ht0_3, hm⟩ := bind_some hm
  refine rg [1, 0] ?_
  refine seg [.p 1, .l 0] [(8, .agg (cS26 x0.f5 Ahx0_7 chx0_7 Ahx0_8 chx0_8).toArray)] [] ?_
  refine g_call0 9 (f9_ok _ _ ht0_3 (kS26_mk (cs := (cS26 x0.f5 Ahx0_7 chx0_7 Ahx0_8 chx0_8)) x0.f5 rfl hx0_7 hx0_8)) ?_
  rintro _ _ _ ⟨rfl, rfl, rfl⟩ -
  refine seg [.p 1] [(5, .bool t0_3)] [] ?_
  refine fin ?_
  obtain ⟨t0_4, ht0_4, hm⟩ := bind_some hm
  refine rg [1, 1, 0] ?_
  refine seg [.p 2, .l 1, .b] [(13, .agg (cS26 (S26.mk (S23.mk 0 0 []) x1.f3.f8) none 0 Ahx1_11 chx1_11).toArray)] [] ?_
  refine g_call0 14 (f9_ok _ _ ht0_4 (kS26_mk (cs := (cS26 (S26.mk (S23.mk 0 0 []) x1.f3.f8) none 0 Ahx1_11 chx1_11)) (S26.mk (S23.mk 0 0 []) x1.f3.f8) rfl slNil hx1_11)) ?_
  rintro _ _ _ ⟨rfl, rfl, rfl⟩ -
  refine seg [.p 1] [(6, .bool t0_4)] [] ?_
  refine fin ?_
  refine rg [1, 1, 1, 0] ?_
  refine seg [.p 2] [(16, .bool t0_3)] [] ?_
  refine gs 16 hm (fun hm => ?_) fun hm => ?_
  · refine seg [.p 3] [(19, .bool t0_4)] [] ?_
    refine gs 19 hm (fun hm => ?_) fun hm => ?_
    · refine seg [.p 1, .l 0, .p 4] [(25, .bool (decide (((x0.f7.length : Int) : Int) < 100)))] [] ?_
      refine gs 25 hm (fun hm => ?_) fun hm => ?_
      · refine seg [.p 1, .l 1, .p 4] [(31, .bool (decide (((x1.f4.length : Int) : Int) < 10000)))] [] ?_
        refine gs 31 hm (fun hm => ?_) fun hm => ?_
        · refine seg [.p 1, .l 1, .p 4] [(37, .bool (decide (((x1.f5.length : Int) : Int) < 100)))] [] ?_
          refine gs 37 hm (fun hm => ?_) fun hm => ?_
          · refine seg [.p 2, .l 1, .p 4] [(4, .bool (decide (((x1.f3.f9.length : Int) : Int) < 100)))] [] ?_
            refine fin ?_
            exact to [] (@f13_j1 _ _ _ M _ hm)
          · refine seg [.p 7] [(4, .bool false)] [] ?_
            refine fin ?_
            exact to [] (@f13_j1 _ _ _ M _ hm)
        · refine seg [.p 13] [(4, .bool false)] [] ?_
          refine fin ?_
          exact to [] (@f13_j1 _ _ _ M _ hm)
      · refine seg [.p 19] [(4, .bool false)] [] ?_
        refine fin ?_
        exact to [] (@f13_j1 _ _ _ M _ hm)
    · refine seg [.p 25] [(4, .bool false)] [] ?_
      refine fin ?_
      exact to [] (@f13_j1 _ _ _ M _ hm)
  · refine seg [.p 28] [(4, .bool false)] [] ?_
    refine fin ?_
    exact to [] (@f13_j1 _ _ _ M _ hm)

/-! ## heartwood/heartwoodref18.Copy -/
/-- heartwood/heartwoodref18.Copy: what is left behind a call. -/
abbrev R17 (M : Mem) (r : S26) : Value → Mem → List Res → Prop := fun v M' H' => ∃ (q0 : List Value), .agg q0.toArray = v ∧ H' = [] ∧ kS26.rep M' q0 r
noncomputable def c17 : Code := match Try.f17.body with | some c => c | none => .skip
abbrev C17 (w0 : World) (M0 : Mem) : Ctx := ⟨52, w0, M0, []⟩
abbrev D17 (w0 : World) (M0 : Mem) (r : S26) : Post := Done Try.prog Try.f17 (C17 w0 M0) (R17 M0 r)
abbrev H17_j2 (w0 : World) (M0 : Mem) (r : S26) (Lj2 : Int → (List S80) → S26 → Option S26) : Prop := ∀ {M : Mem} {cs0_666 csj2_1_1_0_1_0_0_1_0_0_24 : List Value} {b0_1 b0_2 b0_843 c0_665 chx0_2 chx0_3 cj2_1_1_0_1_0_0_1_0_0_24 : Nat} {A0_664 Ahx0_2 Ahx0_3 Aj2_1_1_0_1_0_0_1_0_0_24 : Option Addr} (xj2_s4 : Int) (xj2_1_1_0_1_0_0_1_0_0_24 : List S80) (x0 : S26) (_ : Lj2 xj2_s4 xj2_1_1_0_1_0_0_1_0_0_24 x0 = some r) (_ : SlAt (kint .i64) M Ahx0_2 chx0_2 x0.f0.f2) (_ : SlAt kS80 M Ahx0_3 chx0_3 x0.f1) (_ : Elems (kint .i64) M cs0_666 (([] : List Int) ++ x0.f0.f2)) (_ : Elems kS80 M csj2_1_1_0_1_0_0_1_0_0_24 xj2_1_1_0_1_0_0_1_0_0_24), AG Try.prog c17 [1, 1, 0, 1, 0] (D17 w0 M0 r) (C17 w0 M0) (env [(1, .pointer (some ⟨b0_1, 0, none⟩)), (2, .pointer (some ⟨b0_2, 0, none⟩)), (3, .pointer (some ⟨b0_843, 0, none⟩)), (4, .int .i64 xj2_s4)]) M [.blk b0_1 (cS26 x0 Ahx0_2 chx0_2 Ahx0_3 chx0_3) 27, .blk b0_2 (cS26 (S26.mk (S23.mk 0 0 []) []) none 0 none 0) 27, .blk b0_843 (cS26 (S26.mk ({ x0.f0 with f2 := (([] : List Int) ++ x0.f0.f2) }) xj2_1_1_0_1_0_0_1_0_0_24) A0_664 c0_665 Aj2_1_1_0_1_0_0_1_0_0_24 cj2_1_1_0_1_0_0_1_0_0_24) 27, .row (.slice A0_664 ((([] : List Int) ++ x0.f0.f2).length) c0_665) 3 1 ((([] : List Int) ++ x0.f0.f2).length) cs0_666, .row (.slice Aj2_1_1_0_1_0_0_1_0_0_24 xj2_1_1_0_1_0_0_1_0_0_24.length cj2_1_1_0_1_0_0_1_0_0_24) 81 3 xj2_1_1_0_1_0_0_1_0_0_24.length csj2_1_1_0_1_0_0_1_0_0_24]
theorem f17_j2 {w0 : World} {M0 : Mem} {r : S26} : ∀ k, H17_j2 w0 M0 r (m17_j2 k) := by
  intro k; induction k with
  | zero => intro M cs0_666 csj2_1_1_0_1_0_0_1_0_0_24 b0_1 b0_2 b0_843 c0_665 chx0_2 chx0_3 cj2_1_1_0_1_0_0_1_0_0_24 A0_664 Ahx0_2 Ahx0_3 Aj2_1_1_0_1_0_0_1_0_0_24 xj2_s4 xj2_1_1_0_1_0_0_1_0_0_24 x0 hm; exact absurd hm (by simp [m17_j2])
  | succ k ihj2 =>
    intro M cs0_666 csj2_1_1_0_1_0_0_1_0_0_24 b0_1 b0_2 b0_843 c0_665 chx0_2 chx0_3 cj2_1_1_0_1_0_0_1_0_0_24 A0_664 Ahx0_2 Ahx0_3 Aj2_1_1_0_1_0_0_1_0_0_24 xj2_s4 xj2_1_1_0_1_0_0_1_0_0_24 x0 hm hj2_0_0_l2 hj2_0_0_l3 ej2_1_0_6 ej2_1_1_0_1_0_0_1_0_0_24
    rw [m17_j2.eq_2] at hm
    refine gl [1, 1, 0, 1, 0] plain_done ?_
    refine rs [1, 1, 0, 1, 0, 0, 0, 0] [.p 2, .l 0, .p 2] [(22, .bool (decide ((xj2_s4 : Int) < (x0.f1.length : Int))))] [] ?_
    refine gi [1, 1, 0, 1, 0, 0, 0, 1] hm (fun hm => ?_) fun hm => ?_
    · obtain ⟨ej2_1, bj2_2, fj2_3, kj2_4, Wj2_5, hm, haej2_1, hbej2_1, hmej2_1, hwej2_1, hrej2_1⟩ := ixo hm hj2_0_0_l3
      obtain ⟨Ahrej2_1_2, chrej2_1_2, hcej2_1, hrej2_1_2⟩ := kS80_open hrej2_1
      replace hwej2_1 := hwej2_1.trans hcej2_1
      refine rgD [1, 1, 0, 1, 0, 0, 1, 0, 0] (PT.of [0, 5, 8, 13, 16, 20, 24, 30, 32, 37, 40, 44, 48, 54, 60, 65, 68, 72, 76, 82, 59, 87, 88, 95, 99, 100, 107] .dn) [(1, 2), (3, 0), (9, 0), (16, 0)] [0, 4] mixed plain_done ?_
      refine seg [.p 1, .l 2, .p 1, .l 0, .p 1] [(26, (.slice Aj2_1_1_0_1_0_0_1_0_0_24 xj2_1_1_0_1_0_0_1_0_0_24.length cj2_1_1_0_1_0_0_1_0_0_24)), (28, .slice Ahx0_3 x0.f1.length chx0_3), (29, .int .i64 xj2_s4)] [] ?_
      refine g_ix 30 3 haej2_1 hbej2_1 ?_
      refine seg [.p 1] [(31, .pointer (some ⟨bj2_2, (fj2_3 + xj2_s4.toNat * 3), none⟩))] [] ?_
      refine g_lwD 32 0 (.int .i64 ej2_1.f0) hmej2_1 hmej2_1 hwej2_1 ?_
      obtain ⟨ej2_6, bj2_7, fj2_8, kj2_9, Wj2_10, hm, haej2_6, hbej2_6, hmej2_6, hwej2_6, hrej2_6⟩ := ixo hm hj2_0_0_l3
      obtain ⟨Ahrej2_6_2, chrej2_6_2, hcej2_6, hrej2_6_2⟩ := kS80_open hrej2_6
      replace hwej2_6 := hwej2_6.trans hcej2_6
      refine seg [.p 1, .l 0, .p 1] [(34, .slice Ahx0_3 x0.f1.length chx0_3), (35, .int .i64 xj2_s4)] [] ?_
      refine g_ix 36 3 haej2_6 hbej2_6 ?_
      refine seg [.p 1] [(37, .pointer (some ⟨bj2_7, (fj2_8 + xj2_s4.toNat * 3) + 1, none⟩))] [] ?_
      refine g_lwD 38 1 (.int .i64 ej2_6.f1) hmej2_6 hmej2_6 hwej2_6 ?_
      obtain ⟨ej2_11, bj2_12, fj2_13, kj2_14, Wj2_15, hm, haej2_11, hbej2_11, hmej2_11, hwej2_11, hrej2_11⟩ := ixo hm hj2_0_0_l3
      obtain ⟨Ahrej2_11_2, chrej2_11_2, hcej2_11, hrej2_11_2⟩ := kS80_open hrej2_11
      replace hwej2_11 := hwej2_11.trans hcej2_11
      refine seg [.p 1, .l 0, .p 1] [(41, .slice Ahx0_3 x0.f1.length chx0_3), (42, .int .i64 xj2_s4)] [] ?_
      refine g_ix 43 3 haej2_11 hbej2_11 ?_
      refine seg [.p 1] [(44, .pointer (some ⟨bj2_12, (fj2_13 + xj2_s4.toNat * 3) + 2, none⟩))] [] ?_
      refine g_lwD 45 2 (.slice Ahrej2_11_2 ej2_11.f2.length chrej2_11_2) hmej2_11 hmej2_11 hwej2_11 ?_
      have ej2_16 : Elems (kint .u8) M [] ([] : List Int) := elNil
      refine g_bs 39 5 1 0 [] fun bj2_17 => ?_
      obtain ⟨hbj2_18, hm⟩ := gd2 hm
      refine g_apD 46 5 5 1 (some ⟨bj2_17, 0, none⟩) 0 ej2_16 hrej2_11_2 hbj2_18 fun Aj2_19 cj2_20 csj2_21 ej2_18 => ?_
      refine seg [.b] [(47, .agg (cS80 (S80.mk ej2_1.f0 ej2_6.f1 (([] : List Int) ++ ej2_11.f2)) Aj2_19 cj2_20).toArray)] [] ?_
      refine fzI 5 5 Aj2_19 cj2_20 ej2_18 fun Mhj2_22 lhj2_22 hj2_22 => ?_
      have ej2_23 : Elems kS80 Mhj2_22 (cS80 (S80.mk ej2_1.f0 ej2_6.f1 (([] : List Int) ++ ej2_11.f2)) Aj2_19 cj2_20) ([(S80.mk ej2_1.f0 ej2_6.f1 (([] : List Int) ++ ej2_11.f2))] : List S80) := (elCons (d := kS80) (M := Mhj2_22) (a := (cS80 (S80.mk ej2_1.f0 ej2_6.f1 (([] : List Int) ++ ej2_11.f2)) Aj2_19 cj2_20)) (x := (S80.mk ej2_1.f0 ej2_6.f1 (([] : List Int) ++ ej2_11.f2))) (kS80_mk (cs := (cS80 (S80.mk ej2_1.f0 ej2_6.f1 (([] : List Int) ++ ej2_11.f2)) Aj2_19 cj2_20)) (S80.mk ej2_1.f0 ej2_6.f1 (([] : List Int) ++ ej2_11.f2)) rfl hj2_22) elNil)
      refine g_bs 48 81 3 1 (cS80 (S80.mk ej2_1.f0 ej2_6.f1 (([] : List Int) ++ ej2_11.f2)) Aj2_19 cj2_20) fun bj2_24 => ?_
      obtain ⟨hbj2_25, hm⟩ := gd2 hm
      replace ej2_1_1_0_1_0_0_1_0_0_24 := (ej2_1_1_0_1_0_0_1_0_0_24.mono lhj2_22)
      refine g_apR 49 4 81 40 6 Aj2_1_1_0_1_0_0_1_0_0_24 cj2_1_1_0_1_0_0_1_0_0_24 (some ⟨bj2_24, 0, none⟩) 1 ej2_1_1_0_1_0_0_1_0_0_24 ej2_23 hbj2_25 fun Aj2_26 cj2_27 csj2_28 ej2_25 => ?_
      refine seg [.p 1, .s 2] [] [(2, .blk b0_843 (cS26 (S26.mk ({ x0.f0 with f2 := (([] : List Int) ++ x0.f0.f2) }) (xj2_1_1_0_1_0_0_1_0_0_24 ++ ([(S80.mk ej2_1.f0 ej2_6.f1 (([] : List Int) ++ ej2_11.f2))] : List S80))) A0_664 c0_665 Aj2_26 cj2_27) 27)] ?_
      refine fin ?_
      refine rs [1, 1, 0, 1, 0, 0, 1, 1] [.p 3] [(4, .int .i64 (IntKind.i64.wrap (xj2_s4 + 1)))] [] ?_
      replace hj2_0_0_l2 := (hj2_0_0_l2.mono lhj2_22)
      replace hj2_0_0_l3 := (hj2_0_0_l3.mono lhj2_22)
      replace ej2_1_0_6 := (ej2_1_0_6.mono lhj2_22)
      exact to [0, 1, 2, 3, 4] (@ihj2 Mhj2_22 cs0_666 csj2_28 b0_1 b0_2 b0_843 c0_665 chx0_2 chx0_3 cj2_27 A0_664 Ahx0_2 Ahx0_3 Aj2_26 _ _ _ hm hj2_0_0_l2 hj2_0_0_l3 ej2_1_0_6 ej2_25)
    · refine rs [1, 1, 1, 0] [.l 2, .s 1] [] [(1, .blk b0_2 (cS26 (S26.mk ({ x0.f0 with f2 := (([] : List Int) ++ x0.f0.f2) }) xj2_1_1_0_1_0_0_1_0_0_24) A0_664 c0_665 Aj2_1_1_0_1_0_0_1_0_0_24 cj2_1_1_0_1_0_0_1_0_0_24) 27)] ?_
      refine fzA 3 3 A0_664 c0_665 ej2_1_0_6 fun Mhj2_29 lhj2_29 hj2_29 => ?_
      replace ej2_1_1_0_1_0_0_1_0_0_24 := (ej2_1_1_0_1_0_0_1_0_0_24.mono lhj2_29)
      refine fzA 4 81 Aj2_1_1_0_1_0_0_1_0_0_24 cj2_1_1_0_1_0_0_1_0_0_24 ej2_1_1_0_1_0_0_1_0_0_24 fun Mhj2_30 lhj2_30 hj2_30 => ?_
      obtain rfl := Option.some.inj hm
      replace hj2_29 := (hj2_29.mono lhj2_30)
      exact rtc (vs := [.agg (cS26 (S26.mk ({ x0.f0 with f2 := (([] : List Int) ++ x0.f0.f2) }) xj2_1_1_0_1_0_0_1_0_0_24) A0_664 c0_665 Aj2_1_1_0_1_0_0_1_0_0_24 cj2_1_1_0_1_0_0_1_0_0_24).toArray]) (v := .agg (cS26 (S26.mk ({ x0.f0 with f2 := (([] : List Int) ++ x0.f0.f2) }) xj2_1_1_0_1_0_0_1_0_0_24) A0_664 c0_665 Aj2_1_1_0_1_0_0_1_0_0_24 cj2_1_1_0_1_0_0_1_0_0_24).toArray) [] [.cell 2 27] (.cell 1 0 (by kernel_rfl) (by kernel_rfl) .nil) ⟨(cS26 (S26.mk ({ x0.f0 with f2 := (([] : List Int) ++ x0.f0.f2) }) xj2_1_1_0_1_0_0_1_0_0_24) A0_664 c0_665 Aj2_1_1_0_1_0_0_1_0_0_24 cj2_1_1_0_1_0_0_1_0_0_24), rfl, rfl, (kS26_mk (cs := (cS26 (S26.mk ({ x0.f0 with f2 := (([] : List Int) ++ x0.f0.f2) }) xj2_1_1_0_1_0_0_1_0_0_24) A0_664 c0_665 Aj2_1_1_0_1_0_0_1_0_0_24 cj2_1_1_0_1_0_0_1_0_0_24)) (S26.mk ({ x0.f0 with f2 := (([] : List Int) ++ x0.f0.f2) }) xj2_1_1_0_1_0_0_1_0_0_24) rfl hj2_29 hj2_30)⟩ rfl rfl
theorem f17_j1 {w0 : World} {M0 : Mem} {r : S26} : ∀ {M : Mem} {cs0_666 : List Value} {b0_1 b0_2 b0_843 c0_665 chx0_2 chx0_3 : Nat} {A0_664 Ahx0_2 Ahx0_3 : Option Addr} (x0 : S26) (_ : m17_j1 x0 = some r) (_ : SlAt (kint .i64) M Ahx0_2 chx0_2 x0.f0.f2) (_ : SlAt kS80 M Ahx0_3 chx0_3 x0.f1) (_ : Elems (kint .i64) M cs0_666 (([] : List Int) ++ x0.f0.f2)), AG Try.prog c17 [1, 1] (D17 w0 M0 r) (C17 w0 M0) (env [(1, .pointer (some ⟨b0_1, 0, none⟩)), (2, .pointer (some ⟨b0_2, 0, none⟩)), (3, .pointer (some ⟨b0_843, 0, none⟩))]) M [.blk b0_1 (cS26 x0 Ahx0_2 chx0_2 Ahx0_3 chx0_3) 27, .blk b0_2 (cS26 (S26.mk (S23.mk 0 0 []) []) none 0 none 0) 27, .blk b0_843 (cS26 (S26.mk ({ x0.f0 with f2 := (([] : List Int) ++ x0.f0.f2) }) []) A0_664 c0_665 none 0) 27, .row (.slice A0_664 ((([] : List Int) ++ x0.f0.f2).length) c0_665) 3 1 ((([] : List Int) ++ x0.f0.f2).length) cs0_666] := by
  intro M cs0_666 b0_1 b0_2 b0_843 c0_665 chx0_2 chx0_3 A0_664 Ahx0_2 Ahx0_3 x0 hm hj1_0_0_l2 hj1_0_0_l3 ej1_1_0_6; unfold m17_j1 at hm
  refine rs [1, 1, 0, 0] [.p 1] [(4, .int .i64 0)] [] ?_
  refine nlA 81 3 ?_
  exact to [0, 1, 2, 3, 4] (@f17_j2 _ _ _ FUEL M cs0_666 [] b0_1 b0_2 b0_843 c0_665 chx0_2 chx0_3 0 A0_664 Ahx0_2 Ahx0_3 none _ _ _ hm hj1_0_0_l2 hj1_0_0_l3 ej1_1_0_6 (elNil (d := kS80) (M := M)))
theorem f17_ok {M : Mem} {csx0 : List Value} (x0 : S26) (r : S26) (hm : m17 x0 = some r) (hx0 : kS26.rep M csx0 x0) : FnOk Try.prog 17 [.agg csx0.toArray] M [] (R17 M r) := by
  obtain ⟨Ahx0_2, chx0_2, Ahx0_3, chx0_3, rfl, hx0_2, hx0_3⟩ := kS26_open hx0
  refine intro_ (c := c17) 52 Try.func17 fun w => ?_
  unfold m17 at hm
  refine rg [0] ?_
  refine g_bx 1 27 (.agg (cS26 x0 Ahx0_2 chx0_2 Ahx0_3 chx0_3).toArray) fun b0_1 => ?_
  refine g_al 2 27 (cS26 (S26.mk (S23.mk 0 0 []) []) none 0 none 0) fun b0_2 => ?_
  refine fin ?_
  obtain ⟨hb0_663, hm⟩ := gd2 hm
  refine rgD [1, 0] (PT.of [0, 4, 9, 12, 16, 21, 28, 32, 37] (.two 6 (PT.of [] (.two 10 (PT.of [44, 48, 55, 59] .dn) 13 (PT.of [43, 44, 48, 59] .dn))) 13 (PT.of [27, 43, 44, 48, 59] .dn))) [(2, 0), (5, 0), (9, 0)] [0] mixed plain_done ?_
  refine seg [.p 2, .l 0, .p 2, .l 0, .p 2, .l 0] [(7, .int .i64 x0.f0.f0), (10, .int .i64 x0.f0.f1), (14, .slice Ahx0_2 x0.f0.f2.length chx0_2)] [] ?_
  refine g2 ?_ ?_
  · have e0_423 : Elems (kint .i64) M [] ([] : List Int) := elNil
    refine g_bs 11 3 1 0 [] fun b0_424 => ?_
    refine g2 ?_ ?_
    · refine g_apD 15 2 3 8 (some ⟨b0_424, 0, none⟩) 0 e0_423 hx0_2 hb0_663 fun A0_664 c0_665 cs0_666 e0_663 => ?_
      refine seg [.b, .b] [(17, .agg (cS26 (S26.mk ({ x0.f0 with f2 := (([] : List Int) ++ x0.f0.f2) }) []) A0_664 c0_665 none 0).toArray)] [] ?_
      refine g_al 3 27 (cS26 (S26.mk (S23.mk 0 0 []) []) none 0 none 0) fun b0_843 => ?_
      refine seg [.s 3] [] [(3, .blk b0_843 (cS26 (S26.mk ({ x0.f0 with f2 := (([] : List Int) ++ x0.f0.f2) }) []) A0_664 c0_665 none 0) 27)] ?_
      refine fin ?_
      exact to [0, 1, 3, 2] (@f17_j1 _ _ _ M cs0_666 b0_1 b0_2 b0_843 c0_665 chx0_2 chx0_3 A0_664 Ahx0_2 Ahx0_3 _ hm hx0_2 hx0_3 e0_663)
    · refine g_al 3 27 (cS26 (S26.mk (S23.mk 0 0 []) []) none 0 none 0) fun b0_843 => ?_
      refine g_apD 15 2 3 8 (some ⟨b0_424, 0, none⟩) 0 e0_423 hx0_2 hb0_663 fun A0_664 c0_665 cs0_666 e0_663 => ?_
      refine seg [.b, .b, .s 3] [] [(3, .blk b0_843 (cS26 (S26.mk ({ x0.f0 with f2 := (([] : List Int) ++ x0.f0.f2) }) []) A0_664 c0_665 none 0) 27)] ?_
      refine fin ?_
      exact to [0, 1, 3, 2] (@f17_j1 _ _ _ M cs0_666 b0_1 b0_2 b0_843 c0_665 chx0_2 chx0_3 A0_664 Ahx0_2 Ahx0_3 _ hm hx0_2 hx0_3 e0_663)
  · refine g_al 3 27 (cS26 (S26.mk (S23.mk 0 0 []) []) none 0 none 0) fun b0_843 => ?_
    have e0_423 : Elems (kint .i64) M [] ([] : List Int) := elNil
    refine g_bs 11 3 1 0 [] fun b0_424 => ?_
    refine g_apD 15 3 3 8 (some ⟨b0_424, 0, none⟩) 0 e0_423 hx0_2 hb0_663 fun A0_664 c0_665 cs0_666 e0_663 => ?_
    refine seg [.b, .b, .s 2] [] [(2, .blk b0_843 (cS26 (S26.mk ({ x0.f0 with f2 := (([] : List Int) ++ x0.f0.f2) }) []) A0_664 c0_665 none 0) 27)] ?_
    refine fin ?_
    exact to [0, 1, 2, 3] (@f17_j1 _ _ _ M cs0_666 b0_1 b0_2 b0_843 c0_665 chx0_2 chx0_3 A0_664 Ahx0_2 Ahx0_3 _ hm hx0_2 hx0_3 e0_663)

/-! ## heartwood/heartwoodref19.SameMsg -/
/-- heartwood/heartwoodref19.SameMsg: what is left behind a call. -/
abbrev R44 (M : Mem) (r : Bool) : Value → Mem → List Res → Prop := fun v M' H' => .bool r = v ∧ M = M' ∧ H' = []
noncomputable def c44 : Code := match Try.f44.body with | some c => c | none => .skip
abbrev C44 (w0 : World) (M0 : Mem) : Ctx := ⟨98, w0, M0, []⟩
abbrev D44 (w0 : World) (M0 : Mem) (r : Bool) : Post := Done Try.prog Try.f44 (C44 w0 M0) (R44 M0 r)
theorem f44_j1 {w0 : World} {M0 : Mem} {r : Bool} : ∀ {M : Mem} (xj1_s4 : Bool) (_ : m44_j1 xj1_s4 = some r), AG Try.prog c44 [1, 1] (D44 w0 M0 r) (C44 w0 M0) (env [(4, .bool xj1_s4)]) M [] := by
  intro M xj1_s4 hm; unfold m44_j1 at hm
  obtain rfl := Option.some.inj hm
  exact rtp (v := .bool xj1_s4) [] ⟨rfl, rfl, rfl⟩
theorem f44_ok {M : Mem} {csx0 : List Value} {csx1 : List Value} (x0 : S46) (x1 : S46) (r : Bool) (hm : m44 x0 x1 = some r) (hx0 : kS46.rep M csx0 x0) (hx1 : kS46.rep M csx1 x1) : FnOk Try.prog 44 [.agg csx0.toArray, .agg csx1.toArray] M [] (R44 M r) := by
  obtain ⟨Ahx0_8, chx0_8, Ahx0_9, chx0_9, Ahx0_11, chx0_11, Ahx0_13, chx0_13, Ahx0_14, chx0_14, Ahx0_15, chx0_15, rfl, hx0_8, hx0_9, hx0_11, hx0_13, hx0_14, hx0_15, hx0_16⟩ := kS46_open hx0
  obtain ⟨Ahx1_8, chx1_8, Ahx1_9, chx1_9, Ahx1_11, chx1_11, Ahx1_13, chx1_13, Ahx1_14, chx1_14, Ahx1_15, chx1_15, rfl, hx1_8, hx1_9, hx1_11, hx1_13, hx1_14, hx1_15, hx1_16⟩ := kS46_open hx1
  refine intro_ (c := c44) 98 Try.func44 fun w => ?_
  unfold m44 at hm
  refine rg [0] ?_
  refine g_bx 2 47 (.agg (cS46 x0 Ahx0_8 chx0_8 Ahx0_9 chx0_9 Ahx0_11 chx0_11 Ahx0_13 chx0_13 Ahx0_14 chx0_14 Ahx0_15 chx0_15).toArray) fun b0_1 => ?_
  refine g_bx 3 47 (.agg (cS46 x1 Ahx1_8 chx1_8 Ahx1_9 chx1_9 Ahx1_11 chx1_11 Ahx1_13 chx1_13 Ahx1_14 chx1_14 Ahx1_15 chx1_15).toArray) fun b0_2 => ?_
  refine seg [.p 1] [] [] ?_
  refine fin ?_
  refine rg [1, 0] ?_
  refine seg [.p 1, .l 0, .p 1, .l 1, .p 2] [(10, .bool ((x0.f0 : Int) == x1.f0))] [] ?_
  refine gs 10 hm (fun hm => ?_) fun hm => ?_
  · refine seg [.p 1, .l 0, .p 1, .l 1, .p 3] [(17, .bool ((x0.f1 : Int) == x1.f1))] [] ?_
    refine gs 17 hm (fun hm => ?_) fun hm => ?_
    · refine seg [.p 1, .l 0, .p 1, .l 1, .p 3] [(24, .bool ((x0.f2 : Int) == x1.f2))] [] ?_
      refine gs 24 hm (fun hm => ?_) fun hm => ?_
      · refine seg [.p 1, .l 0, .p 1, .l 1, .p 3] [(31, .bool ((x0.f3 : Int) == x1.f3))] [] ?_
        refine gs 31 hm (fun hm => ?_) fun hm => ?_
        · refine seg [.p 1, .l 0, .p 1, .l 1, .p 3] [(38, .bool ((x0.f4 : Int) == x1.f4))] [] ?_
          refine gs 38 hm (fun hm => ?_) fun hm => ?_
          · refine seg [.p 1, .l 0, .p 1, .l 1, .p 3] [(45, .bool ((x0.f5 : Int) == x1.f5))] [] ?_
            refine gs 45 hm (fun hm => ?_) fun hm => ?_
            · refine seg [.p 1, .l 0, .p 1, .l 1, .p 3] [(52, .bool ((x0.f6 : Int) == x1.f6))] [] ?_
              refine gs 52 hm (fun hm => ?_) fun hm => ?_
              · refine seg [.p 1, .l 0, .p 1, .l 1, .p 3] [(59, .bool (x0.f7 == x1.f7))] [] ?_
                refine gs 59 hm (fun hm => ?_) fun hm => ?_
                · obtain ⟨t0_3, ht0_3, hm⟩ := bind_some hm
                  refine seg [.p 1, .l 0, .p 1, .l 1] [(61, .slice Ahx0_8 x0.f8.length chx0_8), (63, .slice Ahx1_8 x1.f8.length chx1_8)] [] ?_
                  refine g_call0 64 (f18_ok _ _ _ ht0_3 hx0_8 hx1_8) ?_
                  rintro _ _ _ ⟨rfl, rfl, rfl⟩ -
                  refine seg [.p 2] [(66, .bool t0_3)] [] ?_
                  refine gs 66 hm (fun hm => ?_) fun hm => ?_
                  · obtain ⟨t0_4, ht0_4, hm⟩ := bind_some hm
                    refine seg [.p 1, .l 0, .p 1, .l 1] [(68, .slice Ahx0_9 x0.f9.length chx0_9), (70, .slice Ahx1_9 x1.f9.length chx1_9)] [] ?_
                    refine g_call0 71 (f33_ok _ _ _ ht0_4 hx0_9 hx1_9) ?_
                    rintro _ _ _ ⟨rfl, rfl, rfl⟩ -
                    refine seg [.p 2] [(73, .bool t0_4)] [] ?_
                    refine gs 73 hm (fun hm => ?_) fun hm => ?_
                    · refine seg [.p 1, .l 0, .p 1, .l 1, .p 3] [(80, .bool ((x0.f10 : Int) == x1.f10))] [] ?_
                      refine gs 80 hm (fun hm => ?_) fun hm => ?_
                      · refine seg [.p 1, .l 0, .p 2, .l 1, .p 4] [(89, .bool (((x0.f11.length : Int) : Int) == (x1.f11.length : Int)))] [] ?_
                        refine gs 89 hm (fun hm => ?_) fun hm => ?_
                        · refine seg [.p 2, .l 0, .p 2, .l 1, .p 3] [(4, .bool ((x0.f12.f0 : Int) == x1.f12.f0))] [] ?_
                          refine fin ?_
                          exact to [] (@f44_j1 _ _ _ M _ hm)
                        · refine seg [.p 9] [(4, .bool false)] [] ?_
                          refine fin ?_
                          exact to [] (@f44_j1 _ _ _ M _ hm)
                      · refine seg [.p 18] [(4, .bool false)] [] ?_
                        refine fin ?_
                        exact to [] (@f44_j1 _ _ _ M _ hm)
                    · refine seg [.p 25] [(4, .bool false)] [] ?_
                      refine fin ?_
                      exact to [] (@f44_j1 _ _ _ M _ hm)
                  · refine seg [.p 32] [(4, .bool false)] [] ?_
                    refine fin ?_
                    exact to [] (@f44_j1 _ _ _ M _ hm)
                · refine seg [.p 39] [(4, .bool false)] [] ?_
                  refine fin ?_
                  exact to [] (@f44_j1 _ _ _ M _ hm)
              · refine seg [.p 46] [(4, .bool false)] [] ?_
                refine fin ?_
                exact to [] (@f44_j1 _ _ _ M _ hm)
            · refine seg [.p 53] [(4, .bool false)] [] ?_
              refine fin ?_
              exact to [] (@f44_j1 _ _ _ M _ hm)
          · refine seg [.p 60] [(4, .bool false)] [] ?_
            refine fin ?_
            exact to [] (@f44_j1 _ _ _ M _ hm)
        · refine seg [.p 67] [(4, .bool false)] [] ?_
          refine fin ?_
          exact to [] (@f44_j1 _ _ _ M _ hm)
      · refine seg [.p 74] [(4, .bool false)] [] ?_
        refine fin ?_
        exact to [] (@f44_j1 _ _ _ M _ hm)
    · refine seg [.p 81] [(4, .bool false)] [] ?_
      refine fin ?_
      exact to [] (@f44_j1 _ _ _ M _ hm)
  · refine seg [.p 88] [(4, .bool false)] [] ?_
    refine fin ?_
    exact to [] (@f44_j1 _ _ _ M _ hm)

/-! ## heartwood/heartwoodref19.SameMsgs -/
/-- heartwood/heartwoodref19.SameMsgs: what is left behind a call. -/
abbrev R19 (M : Mem) (r : Bool) : Value → Mem → List Res → Prop := fun v M' H' => .bool r = v ∧ M = M' ∧ H' = []
noncomputable def c19 : Code := match Try.f19.body with | some c => c | none => .skip
abbrev C19 (w0 : World) (M0 : Mem) : Ctx := ⟨29, w0, M0, []⟩
abbrev D19 (w0 : World) (M0 : Mem) (r : Bool) : Post := Done Try.prog Try.f19 (C19 w0 M0) (R19 M0 r)
abbrev H19_j1 (w0 : World) (M0 : Mem) (r : Bool) (Lj1 : Int → (List S46) → (List S46) → Option Bool) : Prop := ∀ {M : Mem} {cx0 cx1 : Nat} {Ax0 Ax1 : Option Addr} (xj1_s5 : Int) (x0 x1 : List S46) (_ : Lj1 xj1_s5 x0 x1 = some r) (_ : SlAt kS46 M Ax0 cx0 x0) (_ : SlAt kS46 M Ax1 cx1 x1), AG Try.prog c19 [1, 1, 0, 1, 0] (D19 w0 M0 r) (C19 w0 M0) (env [(0, .slice Ax0 x0.length cx0), (1, .slice Ax1 x1.length cx1), (5, .int .i64 xj1_s5)]) M []
theorem f19_j1 {w0 : World} {M0 : Mem} {r : Bool} : ∀ k, H19_j1 w0 M0 r (m19_j1 k) := by
  intro k; induction k with
  | zero => intro M cx0 cx1 Ax0 Ax1 xj1_s5 x0 x1 hm; exact absurd hm (by simp [m19_j1])
  | succ k ihj1 =>
    intro M cx0 cx1 Ax0 Ax1 xj1_s5 x0 x1 hm hj1_s0 hj1_s1
    rw [m19_j1.eq_2] at hm
    refine gl [1, 1, 0, 1, 0] plain_done ?_
    refine rs [1, 1, 0, 1, 0, 0, 0, 0] [.p 4] [(15, .bool (decide ((xj1_s5 : Int) < (x0.length : Int))))] [] ?_
    refine gi [1, 1, 0, 1, 0, 0, 0, 1] hm (fun hm => ?_) fun hm => ?_
    · obtain ⟨ej1_1, bj1_2, fj1_3, kj1_4, Wj1_5, hm, haej1_1, hbej1_1, hmej1_1, hwej1_1, hrej1_1⟩ := ixo hm hj1_s0
      obtain ⟨Ahrej1_1_8, chrej1_1_8, Ahrej1_1_9, chrej1_1_9, Ahrej1_1_11, chrej1_1_11, Ahrej1_1_13, chrej1_1_13, Ahrej1_1_14, chrej1_1_14, Ahrej1_1_15, chrej1_1_15, hcej1_1, hrej1_1_8, hrej1_1_9, hrej1_1_11, hrej1_1_13, hrej1_1_14, hrej1_1_15, hrej1_1_16⟩ := kS46_open hrej1_1
      replace hwej1_1 := hwej1_1.trans hcej1_1
      refine rgD [1, 1, 0, 1, 0, 0, 1, 0, 0, 0] (PT.of [0, 4, 8, 14, 16, 20, 24, 30, 35, 36] .dn) [] [] mixed plain_done ?_
      refine seg [.p 2] [(18, .slice Ax0 x0.length cx0), (19, .int .i64 xj1_s5)] [] ?_
      refine g_ix 20 17 haej1_1 hbej1_1 ?_
      refine g_lwD 21 0 (.agg (cS46 ej1_1 Ahrej1_1_8 chrej1_1_8 Ahrej1_1_9 chrej1_1_9 Ahrej1_1_11 chrej1_1_11 Ahrej1_1_13 chrej1_1_13 Ahrej1_1_14 chrej1_1_14 Ahrej1_1_15 chrej1_1_15).toArray) hmej1_1 hmej1_1 hwej1_1 ?_
      obtain ⟨ej1_6, bj1_7, fj1_8, kj1_9, Wj1_10, hm, haej1_6, hbej1_6, hmej1_6, hwej1_6, hrej1_6⟩ := ixo hm hj1_s1
      obtain ⟨Ahrej1_6_8, chrej1_6_8, Ahrej1_6_9, chrej1_6_9, Ahrej1_6_11, chrej1_6_11, Ahrej1_6_13, chrej1_6_13, Ahrej1_6_14, chrej1_6_14, Ahrej1_6_15, chrej1_6_15, hcej1_6, hrej1_6_8, hrej1_6_9, hrej1_6_11, hrej1_6_13, hrej1_6_14, hrej1_6_15, hrej1_6_16⟩ := kS46_open hrej1_6
      replace hwej1_6 := hwej1_6.trans hcej1_6
      refine seg [.p 2] [(22, .slice Ax1 x1.length cx1), (23, .int .i64 xj1_s5)] [] ?_
      refine g_ix 24 17 haej1_6 hbej1_6 ?_
      refine g_lwD 25 0 (.agg (cS46 ej1_6 Ahrej1_6_8 chrej1_6_8 Ahrej1_6_9 chrej1_6_9 Ahrej1_6_11 chrej1_6_11 Ahrej1_6_13 chrej1_6_13 Ahrej1_6_14 chrej1_6_14 Ahrej1_6_15 chrej1_6_15).toArray) hmej1_6 hmej1_6 hwej1_6 ?_
      obtain ⟨tj1_11, htj1_11, hm⟩ := bind_some hm
      refine g_call0 26 (f44_ok _ _ _ htj1_11 (kS46_mk (cs := (cS46 ej1_1 Ahrej1_1_8 chrej1_1_8 Ahrej1_1_9 chrej1_1_9 Ahrej1_1_11 chrej1_1_11 Ahrej1_1_13 chrej1_1_13 Ahrej1_1_14 chrej1_1_14 Ahrej1_1_15 chrej1_1_15)) ej1_1 rfl hrej1_1_8 hrej1_1_9 hrej1_1_11 hrej1_1_13 hrej1_1_14 hrej1_1_15 hrej1_1_16) (kS46_mk (cs := (cS46 ej1_6 Ahrej1_6_8 chrej1_6_8 Ahrej1_6_9 chrej1_6_9 Ahrej1_6_11 chrej1_6_11 Ahrej1_6_13 chrej1_6_13 Ahrej1_6_14 chrej1_6_14 Ahrej1_6_15 chrej1_6_15)) ej1_6 rfl hrej1_6_8 hrej1_6_9 hrej1_6_11 hrej1_6_13 hrej1_6_14 hrej1_6_15 hrej1_6_16)) ?_
      rintro _ _ _ ⟨rfl, rfl, rfl⟩ -
      refine seg [.p 1] [(6, .bool tj1_11)] [] ?_
      refine fin ?_
      refine rs [1, 1, 0, 1, 0, 0, 1, 0, 0, 1, 0] [.p 2] [(28, .bool (!tj1_11))] [] ?_
      refine gi [1, 1, 0, 1, 0, 0, 1, 0, 0, 1, 1] hm (fun hm => ?_) fun hm => ?_
      · refine rs [1, 1, 0, 1, 0, 0, 1, 0, 0, 1, 1, 0, 0] [.p 1] [(4, .bool false)] [] ?_
        obtain rfl := Option.some.inj hm
        exact rtp (v := .bool false) [] ⟨rfl, rfl, rfl⟩
      · refine rs [1, 1, 0, 1, 0, 0, 1, 1] [.p 3] [(5, .int .i64 (IntKind.i64.wrap (xj1_s5 + 1)))] [] ?_
        exact to [] (@ihj1 M cx0 cx1 Ax0 Ax1 _ _ _ hm hj1_s0 hj1_s1)
    · refine rs [1, 1, 1, 0] [.p 1] [(4, .bool true)] [] ?_
      obtain rfl := Option.some.inj hm
      exact rtp (v := .bool true) [] ⟨rfl, rfl, rfl⟩
theorem f19_ok {M : Mem} {Ax0 : Option Addr} {cx0 : Nat} {Ax1 : Option Addr} {cx1 : Nat} (x0 : List S46) (x1 : List S46) (r : Bool) (hm : m19 x0 x1 = some r) (hx0 : SlAt kS46 M Ax0 cx0 x0) (hx1 : SlAt kS46 M Ax1 cx1 x1) : FnOk Try.prog 19 [.slice Ax0 x0.length cx0, .slice Ax1 x1.length cx1] M [] (R19 M r) := by
  refine intro_ (c := c19) 29 Try.func19 fun w => ?_
  unfold m19 at hm
  refine rs [0] [.p 1] [] [] ?_
  refine rs [1, 0, 0] [.p 5] [(11, .bool (((x0.length : Int) : Int) != (x1.length : Int)))] [] ?_
  refine gi [1, 0, 1] hm (fun hm => ?_) fun hm => ?_
  · refine rs [1, 0, 1, 0, 0] [.p 1] [(4, .bool false)] [] ?_
    obtain rfl := Option.some.inj hm
    exact rtp (v := .bool false) [] ⟨rfl, rfl, rfl⟩
  · refine rs [1, 1, 0, 0] [.p 1] [(5, .int .i64 0)] [] ?_
    exact to [] (@f19_j1 _ _ _ FUEL M cx0 cx1 Ax0 Ax1 _ _ _ hm hx0 hx1)

/-! ## heartwood/heartwoodlaw19.RaftStays -/
/-- heartwood/heartwoodlaw19.RaftStays: what is left behind a call. -/
abbrev R5 (M : Mem) (r : Bool) : Value → Mem → List Res → Prop := fun v M' H' => .bool r = v ∧ M = M' ∧ H' = []
noncomputable def c5 : Code := match Try.f5.body with | some c => c | none => .skip
abbrev C5 (w0 : World) (M0 : Mem) : Ctx := ⟨98, w0, M0, []⟩
abbrev D5 (w0 : World) (M0 : Mem) (r : Bool) : Post := Done Try.prog Try.f5 (C5 w0 M0) (R5 M0 r)
theorem f5_j2 {w0 : World} {M0 : Mem} {r : Bool} : ∀ {M : Mem} (xj2_s4 : Bool) (_ : m5_j2 xj2_s4 = some r), AG Try.prog c5 [1, 1, 1, 1, 1, 1, 1, 1, 1, 1, 1, 1, 1] (D5 w0 M0 r) (C5 w0 M0) (env [(4, .bool xj2_s4)]) M [] := by
  intro M xj2_s4 hm; unfold m5_j2 at hm
  obtain rfl := Option.some.inj hm
  exact rtp (v := .bool xj2_s4) [] ⟨rfl, rfl, rfl⟩
theorem f5_j1 {w0 : World} {M0 : Mem} {r : Bool} : ∀ {M : Mem} {b0_15 b0_26 b0_5 c0_13 c0_24 ch0_18_3 ch0_22_10 ch0_22_7 ch0_22_8 ch0_8_2 ch0_8_3 chx1_12 chx1_14 chx1_16 chx1_17 chx1_18 chx1_20 chx1_21 : Nat} {A0_12 A0_23 Ah0_18_3 Ah0_22_10 Ah0_22_7 Ah0_22_8 Ah0_8_2 Ah0_8_3 Ahx1_12 Ahx1_14 Ahx1_16 Ahx1_17 Ahx1_18 Ahx1_20 Ahx1_21 : Option Addr} (t0_20 : (S31 × (List S46) × Int × Int)) (t0_3 xj1_s13 : Bool) (t0_16 t0_6 : S26) (x0 : S31) (x1 : S48) (_ : m5_j1 t0_20 t0_3 xj1_s13 t0_16 t0_6 x0 x1 = some r) (_ : SlAt kS46 M A0_23 c0_24 t0_20.2.1) (_ : SlAt (kint .i64) M Ah0_8_2 ch0_8_2 t0_6.f0.f2) (_ : SlAt kS80 M Ah0_8_3 ch0_8_3 t0_6.f1) (_ : SlAt (kint .i64) M A0_12 c0_13 (([] : List Int) ++ x0.f7)) (_ : x0.f8.length = 8) (_ : x0.f9.length = 8) (_ : SlAt kS80 M Ah0_18_3 ch0_18_3 t0_16.f1) (_ : SlAt (kint .i64) M Ahx1_12 chx1_12 x1.f3.f9) (_ : SlAt (kint .u8) M Ahx1_14 chx1_14 x1.f3.f11) (_ : SlAt (kint .u8) M Ahx1_16 chx1_16 x1.f3.f12.f1) (_ : SlAt (kint .u8) M Ahx1_17 chx1_17 x1.f3.f12.f2) (_ : SlAt (kint .u8) M Ahx1_18 chx1_18 x1.f3.f12.f3) (_ : Value.oneCell' x1.f3.f12.f4 = true) (_ : SlAt (kint .u8) M Ahx1_20 chx1_20 x1.f4) (_ : SlAt (kint .i64) M Ahx1_21 chx1_21 x1.f5) (_ : SlAt (kint .i64) M Ah0_22_7 ch0_22_7 t0_20.1.f5.f0.f2) (_ : SlAt kS80 M Ah0_22_8 ch0_22_8 t0_20.1.f5.f1) (_ : SlAt (kint .i64) M Ah0_22_10 ch0_22_10 t0_20.1.f7) (_ : t0_20.1.f8.length = 8) (_ : t0_20.1.f9.length = 8), AG Try.prog c5 [1, 1, 1, 1, 1, 1, 1, 1, 1, 1, 1] (D5 w0 M0 r) (C5 w0 M0) (env [(5, .bool t0_3), (7, .pointer (some ⟨b0_5, 0, none⟩)), (8, .pointer (some ⟨b0_15, 0, none⟩)), (9, .pointer (some ⟨b0_26, 0, none⟩)), (10, .slice A0_23 t0_20.2.1.length c0_24), (11, .int .i64 t0_20.2.2.1), (12, errV 39 t0_20.2.2.2), (13, .bool xj1_s13)]) M [.blk b0_5 (cS31 ({ x0 with f5 := t0_6, f7 := (([] : List Int) ++ x0.f7) }) Ah0_8_2 ch0_8_2 Ah0_8_3 ch0_8_3 A0_12 c0_13) 32, .blk b0_15 (cS48 ({ x1 with f3 := { x1.f3 with f8 := t0_16.f1 } }) Ah0_18_3 ch0_18_3 Ahx1_12 chx1_12 Ahx1_14 chx1_14 Ahx1_16 chx1_16 Ahx1_17 chx1_17 Ahx1_18 chx1_18 Ahx1_20 chx1_20 Ahx1_21 chx1_21) 49, .blk b0_26 (cS31 (S31.mk t0_20.1.f0 t0_20.1.f1 t0_20.1.f2 t0_20.1.f3 t0_20.1.f4 (S26.mk (S23.mk t0_20.1.f5.f0.f0 t0_20.1.f5.f0.f1 t0_20.1.f5.f0.f2) t0_20.1.f5.f1) t0_20.1.f6 t0_20.1.f7 t0_20.1.f8 t0_20.1.f9 t0_20.1.f10 t0_20.1.f11) Ah0_22_7 ch0_22_7 Ah0_22_8 ch0_22_8 Ah0_22_10 ch0_22_10) 32] := by
  intro M b0_15 b0_26 b0_5 c0_13 c0_24 ch0_18_3 ch0_22_10 ch0_22_7 ch0_22_8 ch0_8_2 ch0_8_3 chx1_12 chx1_14 chx1_16 chx1_17 chx1_18 chx1_20 chx1_21 A0_12 A0_23 Ah0_18_3 Ah0_22_10 Ah0_22_7 Ah0_22_8 Ah0_8_2 Ah0_8_3 Ahx1_12 Ahx1_14 Ahx1_16 Ahx1_17 Ahx1_18 Ahx1_20 Ahx1_21 t0_20 t0_3 xj1_s13 t0_16 t0_6 x0 x1 hm hj1_s10 hj1_1_1_1_1_0_1_l7 hj1_1_1_1_1_0_1_l8 hj1_1_1_1_1_0_1_l10 lj1_1_1_1_1_0_1_l11 lj1_1_1_1_1_0_1_l12 hj1_1_1_1_1_1_1_1_0_1_l11 hj1_1_1_1_1_1_1_1_0_1_l12 hj1_1_1_1_1_1_1_1_0_1_l14 hj1_1_1_1_1_1_1_1_0_1_l16 hj1_1_1_1_1_1_1_1_0_1_l17 hj1_1_1_1_1_1_1_1_0_1_l18 oj1_1_1_1_1_1_1_1_0_1_l19 hj1_1_1_1_1_1_1_1_0_1_l20 hj1_1_1_1_1_1_1_1_0_1_l21 hj1_1_1_1_1_1_1_1_1_1_0_8_l7 hj1_1_1_1_1_1_1_1_1_1_0_8_l8 hj1_1_1_1_1_1_1_1_1_1_0_8_l10 lj1_1_1_1_1_1_1_1_1_1_0_8_l11 lj1_1_1_1_1_1_1_1_1_1_0_8_l12; unfold m5_j1 at hm
  obtain ⟨tj1_1, htj1_1, hm⟩ := bind_some hm
  refine rg [1, 1, 1, 1, 1, 1, 1, 1, 1, 1, 1, 0] ?_
  refine seg [.l 0, .l 1] [(65, .agg (cS31 ({ x0 with f5 := t0_6, f7 := (([] : List Int) ++ x0.f7) }) Ah0_8_2 ch0_8_2 Ah0_8_3 ch0_8_3 A0_12 c0_13).toArray), (66, .agg (cS48 ({ x1 with f3 := { x1.f3 with f8 := t0_16.f1 } }) Ah0_18_3 ch0_18_3 Ahx1_12 chx1_12 Ahx1_14 chx1_14 Ahx1_16 chx1_16 Ahx1_17 chx1_17 Ahx1_18 chx1_18 Ahx1_20 chx1_20 Ahx1_21 chx1_21).toArray)] [] ?_
  refine g_call0 67 (f14_ok _ _ _ htj1_1 (kS31_mk (cs := (cS31 ({ x0 with f5 := t0_6, f7 := (([] : List Int) ++ x0.f7) }) Ah0_8_2 ch0_8_2 Ah0_8_3 ch0_8_3 A0_12 c0_13)) ({ x0 with f5 := t0_6, f7 := (([] : List Int) ++ x0.f7) }) rfl hj1_1_1_1_1_0_1_l7 hj1_1_1_1_1_0_1_l8 hj1_1_1_1_1_0_1_l10 lj1_1_1_1_1_0_1_l11 lj1_1_1_1_1_0_1_l12) (kS48_mk (cs := (cS48 ({ x1 with f3 := { x1.f3 with f8 := t0_16.f1 } }) Ah0_18_3 ch0_18_3 Ahx1_12 chx1_12 Ahx1_14 chx1_14 Ahx1_16 chx1_16 Ahx1_17 chx1_17 Ahx1_18 chx1_18 Ahx1_20 chx1_20 Ahx1_21 chx1_21)) ({ x1 with f3 := { x1.f3 with f8 := t0_16.f1 } }) rfl hj1_1_1_1_1_1_1_1_0_1_l11 hj1_1_1_1_1_1_1_1_0_1_l12 hj1_1_1_1_1_1_1_1_0_1_l14 hj1_1_1_1_1_1_1_1_0_1_l16 hj1_1_1_1_1_1_1_1_0_1_l17 hj1_1_1_1_1_1_1_1_0_1_l18 hj1_1_1_1_1_1_1_1_0_1_l20 hj1_1_1_1_1_1_1_1_0_1_l21 oj1_1_1_1_1_1_1_1_0_1_l19)) ?_
  rintro _ Mj1_6 _ ⟨csj1_2, Aj1_4, cj1_5, rfl, rfl, hj1_3, hj1_6⟩ hMj1_6
  obtain ⟨Ahj1_3_7, chj1_3_7, Ahj1_3_8, chj1_3_8, Ahj1_3_10, chj1_3_10, rfl, hj1_3_7, hj1_3_8, hj1_3_10, hj1_3_11, hj1_3_12⟩ := kS31_open hj1_3
  refine seg [.p 5] [(68, .agg (cS31 (S31.mk tj1_1.1.f0 tj1_1.1.f1 tj1_1.1.f2 tj1_1.1.f3 tj1_1.1.f4 (S26.mk (S23.mk tj1_1.1.f5.f0.f0 tj1_1.1.f5.f0.f1 tj1_1.1.f5.f0.f2) tj1_1.1.f5.f1) tj1_1.1.f6 tj1_1.1.f7 tj1_1.1.f8 tj1_1.1.f9 tj1_1.1.f10 tj1_1.1.f11) Ahj1_3_7 chj1_3_7 Ahj1_3_8 chj1_3_8 Ahj1_3_10 chj1_3_10).toArray), (69, .slice Aj1_4 tj1_1.2.1.length cj1_5), (70, .int .i64 tj1_1.2.2.1), (71, errV 39 tj1_1.2.2.2)] [] ?_
  refine g_al 14 32 (cS31 (S31.mk 0 0 0 0 0 (S26.mk (S23.mk 0 0 []) []) 0 [] [0, 0, 0, 0, 0, 0, 0, 0] [0, 0, 0, 0, 0, 0, 0, 0] 0 0) none 0 none 0 none 0) fun bj1_7 => ?_
  refine seg [.s 3, .p 3] [(15, .slice Aj1_4 tj1_1.2.1.length cj1_5), (16, .int .i64 tj1_1.2.2.1), (17, errV 39 tj1_1.2.2.2)] [(3, .blk bj1_7 (cS31 (S31.mk tj1_1.1.f0 tj1_1.1.f1 tj1_1.1.f2 tj1_1.1.f3 tj1_1.1.f4 (S26.mk (S23.mk tj1_1.1.f5.f0.f0 tj1_1.1.f5.f0.f1 tj1_1.1.f5.f0.f2) tj1_1.1.f5.f1) tj1_1.1.f6 tj1_1.1.f7 tj1_1.1.f8 tj1_1.1.f9 tj1_1.1.f10 tj1_1.1.f11) Ahj1_3_7 chj1_3_7 Ahj1_3_8 chj1_3_8 Ahj1_3_10 chj1_3_10) 32)] ?_
  refine fin ?_
  refine rgD [1, 1, 1, 1, 1, 1, 1, 1, 1, 1, 1, 1, 0] (PT.of [0, 4, 8, 12, 16, 20, 24, 28, 32, 36, 40, 44, 48, 52, 56, 60, 64, 69, 73, 79, 80, 84, 88, 92, 99, 100, 104] .dn) [(17, 2), (18, 3)] [4, 6] mixed plain_done ?_
  refine seg [.p 2] [(73, .bool t0_3)] [] ?_
  refine gs 73 hm (fun hm => ?_) fun hm => ?_
  · refine seg [.p 3] [(76, .bool xj1_s13)] [] ?_
    refine gs 76 hm (fun hm => ?_) fun hm => ?_
    · refine seg [.p 5] [(81, .bool ((t0_20.2.2.1 : Int) == tj1_1.2.2.1))] [] ?_
      refine gs 81 hm (fun hm => ?_) fun hm => ?_
      · refine seg [.p 1, .e 39 t0_20.2.2.2, .p 1, .e 39 tj1_1.2.2.2, .p 3] [(88, .bool (((t0_20.2.2.2 : Int) == 0) == ((tj1_1.2.2.2 : Int) == 0)))] [] ?_
        refine gs 88 hm (fun hm => ?_) fun hm => ?_
        · obtain ⟨tj1_8, htj1_8, hm⟩ := bind_some hm
          refine seg [.l 2, .l 3] [(89, .agg (cS31 (S31.mk t0_20.1.f0 t0_20.1.f1 t0_20.1.f2 t0_20.1.f3 t0_20.1.f4 (S26.mk (S23.mk t0_20.1.f5.f0.f0 t0_20.1.f5.f0.f1 t0_20.1.f5.f0.f2) t0_20.1.f5.f1) t0_20.1.f6 t0_20.1.f7 t0_20.1.f8 t0_20.1.f9 t0_20.1.f10 t0_20.1.f11) Ah0_22_7 ch0_22_7 Ah0_22_8 ch0_22_8 Ah0_22_10 ch0_22_10).toArray), (90, .agg (cS31 (S31.mk tj1_1.1.f0 tj1_1.1.f1 tj1_1.1.f2 tj1_1.1.f3 tj1_1.1.f4 (S26.mk (S23.mk tj1_1.1.f5.f0.f0 tj1_1.1.f5.f0.f1 tj1_1.1.f5.f0.f2) tj1_1.1.f5.f1) tj1_1.1.f6 tj1_1.1.f7 tj1_1.1.f8 tj1_1.1.f9 tj1_1.1.f10 tj1_1.1.f11) Ahj1_3_7 chj1_3_7 Ahj1_3_8 chj1_3_8 Ahj1_3_10 chj1_3_10).toArray)] [] ?_
          replace hj1_1_1_1_1_1_1_1_1_1_0_8_l7 := (hj1_1_1_1_1_1_1_1_1_1_0_8_l7.mono hMj1_6)
          replace hj1_1_1_1_1_1_1_1_1_1_0_8_l8 := (hj1_1_1_1_1_1_1_1_1_1_0_8_l8.mono hMj1_6)
          replace hj1_1_1_1_1_1_1_1_1_1_0_8_l10 := (hj1_1_1_1_1_1_1_1_1_1_0_8_l10.mono hMj1_6)
          refine g_call0 91 (f12_ok _ _ _ htj1_8 (kS31_mk (cs := (cS31 (S31.mk t0_20.1.f0 t0_20.1.f1 t0_20.1.f2 t0_20.1.f3 t0_20.1.f4 (S26.mk (S23.mk t0_20.1.f5.f0.f0 t0_20.1.f5.f0.f1 t0_20.1.f5.f0.f2) t0_20.1.f5.f1) t0_20.1.f6 t0_20.1.f7 t0_20.1.f8 t0_20.1.f9 t0_20.1.f10 t0_20.1.f11) Ah0_22_7 ch0_22_7 Ah0_22_8 ch0_22_8 Ah0_22_10 ch0_22_10)) (S31.mk t0_20.1.f0 t0_20.1.f1 t0_20.1.f2 t0_20.1.f3 t0_20.1.f4 (S26.mk (S23.mk t0_20.1.f5.f0.f0 t0_20.1.f5.f0.f1 t0_20.1.f5.f0.f2) t0_20.1.f5.f1) t0_20.1.f6 t0_20.1.f7 t0_20.1.f8 t0_20.1.f9 t0_20.1.f10 t0_20.1.f11) rfl hj1_1_1_1_1_1_1_1_1_1_0_8_l7 hj1_1_1_1_1_1_1_1_1_1_0_8_l8 hj1_1_1_1_1_1_1_1_1_1_0_8_l10 lj1_1_1_1_1_1_1_1_1_1_0_8_l11 lj1_1_1_1_1_1_1_1_1_1_0_8_l12) (kS31_mk (cs := (cS31 (S31.mk tj1_1.1.f0 tj1_1.1.f1 tj1_1.1.f2 tj1_1.1.f3 tj1_1.1.f4 (S26.mk (S23.mk tj1_1.1.f5.f0.f0 tj1_1.1.f5.f0.f1 tj1_1.1.f5.f0.f2) tj1_1.1.f5.f1) tj1_1.1.f6 tj1_1.1.f7 tj1_1.1.f8 tj1_1.1.f9 tj1_1.1.f10 tj1_1.1.f11) Ahj1_3_7 chj1_3_7 Ahj1_3_8 chj1_3_8 Ahj1_3_10 chj1_3_10)) (S31.mk tj1_1.1.f0 tj1_1.1.f1 tj1_1.1.f2 tj1_1.1.f3 tj1_1.1.f4 (S26.mk (S23.mk tj1_1.1.f5.f0.f0 tj1_1.1.f5.f0.f1 tj1_1.1.f5.f0.f2) tj1_1.1.f5.f1) tj1_1.1.f6 tj1_1.1.f7 tj1_1.1.f8 tj1_1.1.f9 tj1_1.1.f10 tj1_1.1.f11) rfl hj1_3_7 hj1_3_8 hj1_3_10 hj1_3_11 hj1_3_12)) ?_
          rintro _ _ _ ⟨rfl, rfl, rfl⟩ -
          refine seg [.p 2] [(93, .bool tj1_8)] [] ?_
          refine gs 93 hm (fun hm => ?_) fun hm => ?_
          · obtain ⟨tj1_9, htj1_9, hm⟩ := bind_some hm
            refine seg [.p 2] [(94, .slice A0_23 t0_20.2.1.length c0_24), (95, .slice Aj1_4 tj1_1.2.1.length cj1_5)] [] ?_
            replace hj1_s10 := (hj1_s10.mono hMj1_6)
            refine g_call0 96 (f19_ok _ _ _ htj1_9 hj1_s10 hj1_6) ?_
            rintro _ _ _ ⟨rfl, rfl, rfl⟩ -
            refine seg [.p 2] [(4, .bool tj1_9)] [] ?_
            refine fin ?_
            exact to [] (@f5_j2 _ _ _ Mj1_6 _ hm)
          · refine seg [.p 5] [(4, .bool false)] [] ?_
            refine fin ?_
            exact to [] (@f5_j2 _ _ _ Mj1_6 _ hm)
        · refine seg [.p 10] [(4, .bool false)] [] ?_
          refine fin ?_
          exact to [] (@f5_j2 _ _ _ Mj1_6 _ hm)
      · refine seg [.p 17] [(4, .bool false)] [] ?_
        refine fin ?_
        exact to [] (@f5_j2 _ _ _ Mj1_6 _ hm)
    · refine seg [.p 22] [(4, .bool false)] [] ?_
      refine fin ?_
      exact to [] (@f5_j2 _ _ _ Mj1_6 _ hm)
  · refine seg [.p 25] [(4, .bool false)] [] ?_
    refine fin ?_
    exact to [] (@f5_j2 _ _ _ Mj1_6 _ hm)
theorem f5_ok {M : Mem} {csx0 : List Value} {csx1 : List Value} (x0 : S31) (x1 : S48) (r : Bool) (hm : m5 x0 x1 = some r) (hx0 : kS31.rep M csx0 x0) (hx1 : kS48.rep M csx1 x1) : FnOk Try.prog 5 [.agg csx0.toArray, .agg csx1.toArray] M [] (R5 M r) := by
  obtain ⟨Ahx0_7, chx0_7, Ahx0_8, chx0_8, Ahx0_10, chx0_10, rfl, hx0_7, hx0_8, hx0_10, hx0_11, hx0_12⟩ := kS31_open hx0
  obtain ⟨Ahx1_11, chx1_11, Ahx1_12, chx1_12, Ahx1_14, chx1_14, Ahx1_16, chx1_16, Ahx1_17, chx1_17, Ahx1_18, chx1_18, Ahx1_20, chx1_20, Ahx1_21, chx1_21, rfl, hx1_11, hx1_12, hx1_14, hx1_16, hx1_17, hx1_18, hx1_20, hx1_21, hx1_19⟩ := kS48_open hx1
  refine intro_ (c := c5) 98 Try.func5 fun w => ?_
  unfold m5 at hm
  refine rg [0] ?_
  refine g_bx 2 32 (.agg (cS31 x0 Ahx0_7 chx0_7 Ahx0_8 chx0_8 Ahx0_10 chx0_10).toArray) fun b0_1 => ?_
  refine g_bx 3 49 (.agg (cS48 x1 Ahx1_11 chx1_11 Ahx1_12 chx1_12 Ahx1_14 chx1_14 Ahx1_16 chx1_16 Ahx1_17 chx1_17 Ahx1_18 chx1_18 Ahx1_20 chx1_20 Ahx1_21 chx1_21).toArray) fun b0_2 => ?_
  refine seg [.p 1] [] [] ?_
  refine fin ?_
  obtain ⟨t0_3, ht0_3, hm⟩ := bind_some hm
  refine rg [1, 0] ?_
  refine g_call0 18 (f8_ok (M := M) t0_3 ht0_3) ?_
  rintro _ _ _ ⟨rfl, rfl, rfl⟩ -
  refine seg [.p 1] [(5, .bool t0_3)] [] ?_
  refine fin ?_
  obtain ⟨t0_4, ht0_4, hm⟩ := bind_some hm
  refine rg [1, 1, 0] ?_
  refine seg [.l 0, .l 1] [(19, .agg (cS31 x0 Ahx0_7 chx0_7 Ahx0_8 chx0_8 Ahx0_10 chx0_10).toArray), (20, .agg (cS48 x1 Ahx1_11 chx1_11 Ahx1_12 chx1_12 Ahx1_14 chx1_14 Ahx1_16 chx1_16 Ahx1_17 chx1_17 Ahx1_18 chx1_18 Ahx1_20 chx1_20 Ahx1_21 chx1_21).toArray)] [] ?_
  refine g_call0 21 (f13_ok _ _ _ ht0_4 (kS31_mk (cs := (cS31 x0 Ahx0_7 chx0_7 Ahx0_8 chx0_8 Ahx0_10 chx0_10)) x0 rfl hx0_7 hx0_8 hx0_10 hx0_11 hx0_12) (kS48_mk (cs := (cS48 x1 Ahx1_11 chx1_11 Ahx1_12 chx1_12 Ahx1_14 chx1_14 Ahx1_16 chx1_16 Ahx1_17 chx1_17 Ahx1_18 chx1_18 Ahx1_20 chx1_20 Ahx1_21 chx1_21)) x1 rfl hx1_11 hx1_12 hx1_14 hx1_16 hx1_17 hx1_18 hx1_20 hx1_21 hx1_19)) ?_
  rintro _ _ _ ⟨rfl, rfl, rfl⟩ -
  refine seg [.p 1] [(6, .bool t0_4)] [] ?_
  refine fin ?_
  refine rs [1, 1, 1, 0, 0] [.p 2] [(23, .bool (!t0_4))] [] ?_
  refine gi [1, 1, 1, 0, 1] hm (fun hm => ?_) fun hm => ?_
  · refine rs [1, 1, 1, 0, 1, 0, 0] [.p 2] [(4, .bool t0_3)] [] ?_
    obtain rfl := Option.some.inj hm
    exact rtp (v := .bool t0_3) [] ⟨rfl, rfl, rfl⟩
  · refine rg [1, 1, 1, 1, 0] ?_
    refine seg [.l 0] [(25, .agg (cS31 x0 Ahx0_7 chx0_7 Ahx0_8 chx0_8 Ahx0_10 chx0_10).toArray)] [] ?_
    refine g_al 7 32 (cS31 (S31.mk 0 0 0 0 0 (S26.mk (S23.mk 0 0 []) []) 0 [] [0, 0, 0, 0, 0, 0, 0, 0] [0, 0, 0, 0, 0, 0, 0, 0] 0 0) none 0 none 0 none 0) fun b0_5 => ?_
    refine seg [.s 2] [] [(2, .blk b0_5 (cS31 x0 Ahx0_7 chx0_7 Ahx0_8 chx0_8 Ahx0_10 chx0_10) 32)] ?_
    refine fin ?_
    obtain ⟨t0_6, ht0_6, hm⟩ := bind_some hm
    refine rg [1, 1, 1, 1, 1, 0] ?_
    refine seg [.p 1, .l 0] [(27, .agg (cS26 x0.f5 Ahx0_7 chx0_7 Ahx0_8 chx0_8).toArray)] [] ?_
    refine g_call0 28 (f17_ok _ _ ht0_6 (kS26_mk (cs := (cS26 x0.f5 Ahx0_7 chx0_7 Ahx0_8 chx0_8)) x0.f5 rfl hx0_7 hx0_8)) ?_
    rintro _ M0_8 _ ⟨cs0_7, rfl, rfl, h0_8⟩ hM0_8
    obtain ⟨Ah0_8_2, ch0_8_2, Ah0_8_3, ch0_8_3, rfl, h0_8_2, h0_8_3⟩ := kS26_open h0_8
    refine seg [.p 1, .s 2] [] [(2, .blk b0_5 (cS31 ({ x0 with f5 := t0_6 }) Ah0_8_2 ch0_8_2 Ah0_8_3 ch0_8_3 Ahx0_10 chx0_10) 32)] ?_
    refine fin ?_
    refine rg [1, 1, 1, 1, 1, 1, 0] ?_
    have e0_9 : Elems (kint .i64) M0_8 [] ([] : List Int) := elNil
    refine g_bs 30 3 1 0 [] fun b0_10 => ?_
    obtain ⟨hb0_11, hm⟩ := gd2 hm
    refine seg [.p 1, .l 0] [(32, .slice Ahx0_10 x0.f7.length chx0_10)] [] ?_
    replace hx0_10 := (hx0_10.mono hM0_8)
    refine g_apD 33 3 3 8 (some ⟨b0_10, 0, none⟩) 0 e0_9 hx0_10 hb0_11 fun A0_12 c0_13 cs0_14 e0_11 => ?_
    refine seg [.p 1, .s 2] [] [(2, .blk b0_5 (cS31 ({ x0 with f5 := t0_6, f7 := (([] : List Int) ++ x0.f7) }) Ah0_8_2 ch0_8_2 Ah0_8_3 ch0_8_3 A0_12 c0_13) 32)] ?_
    refine fin ?_
    refine rg [1, 1, 1, 1, 1, 1, 1, 0] ?_
    refine seg [.l 1] [(35, .agg (cS48 x1 Ahx1_11 chx1_11 Ahx1_12 chx1_12 Ahx1_14 chx1_14 Ahx1_16 chx1_16 Ahx1_17 chx1_17 Ahx1_18 chx1_18 Ahx1_20 chx1_20 Ahx1_21 chx1_21).toArray)] [] ?_
    refine g_al 8 49 (cS48 (S48.mk 0 0 0 (S46.mk 0 0 0 0 0 0 0 false [] [] 0 [] (S44.mk 0 [] [] [] (.slice none 0 0))) [] []) none 0 none 0 none 0 none 0 none 0 none 0 none 0 none 0) fun b0_15 => ?_
    refine g_st 4 (.agg (cS48 x1 Ahx1_11 chx1_11 Ahx1_12 chx1_12 Ahx1_14 chx1_14 Ahx1_16 chx1_16 Ahx1_17 chx1_17 Ahx1_18 chx1_18 Ahx1_20 chx1_20 Ahx1_21 chx1_21).toArray) (.blk b0_15 (cS48 x1 Ahx1_11 chx1_11 Ahx1_12 chx1_12 Ahx1_14 chx1_14 Ahx1_16 chx1_16 Ahx1_17 chx1_17 Ahx1_18 chx1_18 Ahx1_20 chx1_20 Ahx1_21 chx1_21) 49) (ones_agg (cS48_one hx1_19)) ?_
    refine fin ?_
    obtain ⟨t0_16, ht0_16, hm⟩ := bind_some hm
    refine rg [1, 1, 1, 1, 1, 1, 1, 1, 0] ?_
    refine seg [.p 2, .l 1, .b] [(39, .agg (cS26 (S26.mk (S23.mk 0 0 []) x1.f3.f8) none 0 Ahx1_11 chx1_11).toArray)] [] ?_
    replace hx1_11 := (hx1_11.mono hM0_8)
    refine g_call0 40 (f17_ok _ _ ht0_16 (kS26_mk (cs := (cS26 (S26.mk (S23.mk 0 0 []) x1.f3.f8) none 0 Ahx1_11 chx1_11)) (S26.mk (S23.mk 0 0 []) x1.f3.f8) rfl slNil hx1_11)) ?_
    rintro _ M0_18 _ ⟨cs0_17, rfl, rfl, h0_18⟩ hM0_18
    obtain ⟨Ah0_18_2, ch0_18_2, Ah0_18_3, ch0_18_3, rfl, h0_18_2, h0_18_3⟩ := kS26_open h0_18
    refine seg [.p 3, .s 4] [] [(4, .blk b0_15 (cS48 ({ x1 with f3 := { x1.f3 with f8 := t0_16.f1 } }) Ah0_18_3 ch0_18_3 Ahx1_12 chx1_12 Ahx1_14 chx1_14 Ahx1_16 chx1_16 Ahx1_17 chx1_17 Ahx1_18 chx1_18 Ahx1_20 chx1_20 Ahx1_21 chx1_21) 49)] ?_
    refine fin ?_
    obtain ⟨t0_20, ht0_20, hm⟩ := bind_some hm
    refine rg [1, 1, 1, 1, 1, 1, 1, 1, 1, 0] ?_
    refine seg [.l 2, .l 4] [(45, .agg (cS31 ({ x0 with f5 := t0_6, f7 := (([] : List Int) ++ x0.f7) }) Ah0_8_2 ch0_8_2 Ah0_8_3 ch0_8_3 A0_12 c0_13).toArray), (46, .agg (cS48 ({ x1 with f3 := { x1.f3 with f8 := t0_16.f1 } }) Ah0_18_3 ch0_18_3 Ahx1_12 chx1_12 Ahx1_14 chx1_14 Ahx1_16 chx1_16 Ahx1_17 chx1_17 Ahx1_18 chx1_18 Ahx1_20 chx1_20 Ahx1_21 chx1_21).toArray)] [] ?_
    replace e0_11 := (e0_11.mono hM0_18)
    refine fzI 3 3 A0_12 c0_13 e0_11 fun Mh0_19 lh0_19 h0_19 => ?_
    replace h0_8_2 := ((h0_8_2.mono hM0_18).mono lh0_19)
    replace h0_8_3 := ((h0_8_3.mono hM0_18).mono lh0_19)
    replace h0_18_3 := (h0_18_3.mono lh0_19)
    replace hx1_12 := (((hx1_12.mono hM0_8).mono hM0_18).mono lh0_19)
    replace hx1_14 := (((hx1_14.mono hM0_8).mono hM0_18).mono lh0_19)
    replace hx1_16 := (((hx1_16.mono hM0_8).mono hM0_18).mono lh0_19)
    replace hx1_17 := (((hx1_17.mono hM0_8).mono hM0_18).mono lh0_19)
    replace hx1_18 := (((hx1_18.mono hM0_8).mono hM0_18).mono lh0_19)
    replace hx1_20 := (((hx1_20.mono hM0_8).mono hM0_18).mono lh0_19)
    replace hx1_21 := (((hx1_21.mono hM0_8).mono hM0_18).mono lh0_19)
    refine g_call0 47 (f14_ok _ _ _ ht0_20 (kS31_mk (cs := (cS31 ({ x0 with f5 := t0_6, f7 := (([] : List Int) ++ x0.f7) }) Ah0_8_2 ch0_8_2 Ah0_8_3 ch0_8_3 A0_12 c0_13)) ({ x0 with f5 := t0_6, f7 := (([] : List Int) ++ x0.f7) }) rfl h0_8_2 h0_8_3 h0_19 hx0_11 hx0_12) (kS48_mk (cs := (cS48 ({ x1 with f3 := { x1.f3 with f8 := t0_16.f1 } }) Ah0_18_3 ch0_18_3 Ahx1_12 chx1_12 Ahx1_14 chx1_14 Ahx1_16 chx1_16 Ahx1_17 chx1_17 Ahx1_18 chx1_18 Ahx1_20 chx1_20 Ahx1_21 chx1_21)) ({ x1 with f3 := { x1.f3 with f8 := t0_16.f1 } }) rfl h0_18_3 hx1_12 hx1_14 hx1_16 hx1_17 hx1_18 hx1_20 hx1_21 hx1_19)) ?_
    rintro _ M0_25 _ ⟨cs0_21, A0_23, c0_24, rfl, rfl, h0_22, h0_25⟩ hM0_25
    obtain ⟨Ah0_22_7, ch0_22_7, Ah0_22_8, ch0_22_8, Ah0_22_10, ch0_22_10, rfl, h0_22_7, h0_22_8, h0_22_10, h0_22_11, h0_22_12⟩ := kS31_open h0_22
    refine seg [.p 5] [(48, .agg (cS31 (S31.mk t0_20.1.f0 t0_20.1.f1 t0_20.1.f2 t0_20.1.f3 t0_20.1.f4 (S26.mk (S23.mk t0_20.1.f5.f0.f0 t0_20.1.f5.f0.f1 t0_20.1.f5.f0.f2) t0_20.1.f5.f1) t0_20.1.f6 t0_20.1.f7 t0_20.1.f8 t0_20.1.f9 t0_20.1.f10 t0_20.1.f11) Ah0_22_7 ch0_22_7 Ah0_22_8 ch0_22_8 Ah0_22_10 ch0_22_10).toArray), (49, .slice A0_23 t0_20.2.1.length c0_24), (50, .int .i64 t0_20.2.2.1), (51, errV 39 t0_20.2.2.2)] [] ?_
    refine g_al 9 32 (cS31 (S31.mk 0 0 0 0 0 (S26.mk (S23.mk 0 0 []) []) 0 [] [0, 0, 0, 0, 0, 0, 0, 0] [0, 0, 0, 0, 0, 0, 0, 0] 0 0) none 0 none 0 none 0) fun b0_26 => ?_
    refine seg [.s 5, .p 3] [(10, .slice A0_23 t0_20.2.1.length c0_24), (11, .int .i64 t0_20.2.2.1), (12, errV 39 t0_20.2.2.2)] [(5, .blk b0_26 (cS31 (S31.mk t0_20.1.f0 t0_20.1.f1 t0_20.1.f2 t0_20.1.f3 t0_20.1.f4 (S26.mk (S23.mk t0_20.1.f5.f0.f0 t0_20.1.f5.f0.f1 t0_20.1.f5.f0.f2) t0_20.1.f5.f1) t0_20.1.f6 t0_20.1.f7 t0_20.1.f8 t0_20.1.f9 t0_20.1.f10 t0_20.1.f11) Ah0_22_7 ch0_22_7 Ah0_22_8 ch0_22_8 Ah0_22_10 ch0_22_10) 32)] ?_
    refine fin ?_
    obtain ⟨t0_27, ht0_27, hm⟩ := bind_some hm
    refine rg [1, 1, 1, 1, 1, 1, 1, 1, 1, 1, 0] ?_
    refine seg [.l 2, .l 0] [(52, .agg (cS31 ({ x0 with f5 := t0_6, f7 := (([] : List Int) ++ x0.f7) }) Ah0_8_2 ch0_8_2 Ah0_8_3 ch0_8_3 A0_12 c0_13).toArray), (53, .agg (cS31 x0 Ahx0_7 chx0_7 Ahx0_8 chx0_8 Ahx0_10 chx0_10).toArray)] [] ?_
    replace h0_8_2 := (h0_8_2.mono hM0_25)
    replace h0_8_3 := (h0_8_3.mono hM0_25)
    replace h0_19 := (h0_19.mono hM0_25)
    replace hx0_7 := ((((hx0_7.mono hM0_8).mono hM0_18).mono lh0_19).mono hM0_25)
    replace hx0_8 := ((((hx0_8.mono hM0_8).mono hM0_18).mono lh0_19).mono hM0_25)
    replace hx0_10 := (((hx0_10.mono hM0_18).mono lh0_19).mono hM0_25)
    refine g_call0 54 (f12_ok _ _ _ ht0_27 (kS31_mk (cs := (cS31 ({ x0 with f5 := t0_6, f7 := (([] : List Int) ++ x0.f7) }) Ah0_8_2 ch0_8_2 Ah0_8_3 ch0_8_3 A0_12 c0_13)) ({ x0 with f5 := t0_6, f7 := (([] : List Int) ++ x0.f7) }) rfl h0_8_2 h0_8_3 h0_19 hx0_11 hx0_12) (kS31_mk (cs := (cS31 x0 Ahx0_7 chx0_7 Ahx0_8 chx0_8 Ahx0_10 chx0_10)) x0 rfl hx0_7 hx0_8 hx0_10 hx0_11 hx0_12)) ?_
    rintro _ _ _ ⟨rfl, rfl, rfl⟩ -
    refine seg [.p 1] [(55, .bool t0_27)] [] ?_
    refine gs 55 hm (fun hm => ?_) fun hm => ?_
    · obtain ⟨t0_28, ht0_28, hm⟩ := bind_some hm
      refine seg [.p 2, .l 4, .p 2, .l 1] [(58, .slice Ah0_18_3 t0_16.f1.length ch0_18_3), (61, .slice Ahx1_11 x1.f3.f8.length chx1_11)] [] ?_
      replace h0_18_3 := (h0_18_3.mono hM0_25)
      replace hx1_11 := (((hx1_11.mono hM0_18).mono lh0_19).mono hM0_25)
      refine g_call0 62 (f18_ok _ _ _ ht0_28 h0_18_3 hx1_11) ?_
      rintro _ _ _ ⟨rfl, rfl, rfl⟩ -
      refine seg [.p 2] [(13, .bool t0_28)] [] ?_
      refine fin ?_
      replace hx1_12 := (hx1_12.mono hM0_25)
      replace hx1_14 := (hx1_14.mono hM0_25)
      replace hx1_16 := (hx1_16.mono hM0_25)
      replace hx1_17 := (hx1_17.mono hM0_25)
      replace hx1_18 := (hx1_18.mono hM0_25)
      replace hx1_20 := (hx1_20.mono hM0_25)
      replace hx1_21 := (hx1_21.mono hM0_25)
      exact to [2, 4, 5] (@f5_j1 _ _ _ M0_25 b0_15 b0_26 b0_5 c0_13 c0_24 ch0_18_3 ch0_22_10 ch0_22_7 ch0_22_8 ch0_8_2 ch0_8_3 chx1_12 chx1_14 chx1_16 chx1_17 chx1_18 chx1_20 chx1_21 A0_12 A0_23 Ah0_18_3 Ah0_22_10 Ah0_22_7 Ah0_22_8 Ah0_8_2 Ah0_8_3 Ahx1_12 Ahx1_14 Ahx1_16 Ahx1_17 Ahx1_18 Ahx1_20 Ahx1_21 _ _ _ _ _ _ _ hm h0_25 h0_8_2 h0_8_3 h0_19 hx0_11 hx0_12 h0_18_3 hx1_12 hx1_14 hx1_16 hx1_17 hx1_18 hx1_19 hx1_20 hx1_21 h0_22_7 h0_22_8 h0_22_10 h0_22_11 h0_22_12)
    · refine seg [.p 9] [(13, .bool false)] [] ?_
      refine fin ?_
      replace h0_18_3 := (h0_18_3.mono hM0_25)
      replace hx1_12 := (hx1_12.mono hM0_25)
      replace hx1_14 := (hx1_14.mono hM0_25)
      replace hx1_16 := (hx1_16.mono hM0_25)
      replace hx1_17 := (hx1_17.mono hM0_25)
      replace hx1_18 := (hx1_18.mono hM0_25)
      replace hx1_20 := (hx1_20.mono hM0_25)
      replace hx1_21 := (hx1_21.mono hM0_25)
      exact to [2, 4, 5] (@f5_j1 _ _ _ M0_25 b0_15 b0_26 b0_5 c0_13 c0_24 ch0_18_3 ch0_22_10 ch0_22_7 ch0_22_8 ch0_8_2 ch0_8_3 chx1_12 chx1_14 chx1_16 chx1_17 chx1_18 chx1_20 chx1_21 A0_12 A0_23 Ah0_18_3 Ah0_22_10 Ah0_22_7 Ah0_22_8 Ah0_8_2 Ah0_8_3 Ahx1_12 Ahx1_14 Ahx1_16 Ahx1_17 Ahx1_18 Ahx1_20 Ahx1_21 _ _ _ _ _ _ _ hm h0_25 h0_8_2 h0_8_3 h0_19 hx0_11 hx0_12 h0_18_3 hx1_12 hx1_14 hx1_16 hx1_17 hx1_18 hx1_19 hx1_20 hx1_21 h0_22_7 h0_22_8 h0_22_10 h0_22_11 h0_22_12)

/-! ## heartwood/heartwoodlaw19.RaftSound -/
/-- heartwood/heartwoodlaw19.RaftSound: what is left behind a call. -/
abbrev R4 (M : Mem) (r : Bool) : Value → Mem → List Res → Prop := fun v M' H' => .bool r = v ∧ M = M' ∧ H' = []
noncomputable def c4 : Code := match Try.f4.body with | some c => c | none => .skip
abbrev C4 (w0 : World) (M0 : Mem) : Ctx := ⟨139, w0, M0, []⟩
abbrev D4 (w0 : World) (M0 : Mem) (r : Bool) : Post := Done Try.prog Try.f4 (C4 w0 M0) (R4 M0 r)
abbrev H4_j5 (w0 : World) (M0 : Mem) (r : Bool) (Lj5 : (S31 × (List S46) × Int × Int) → Bool → Int → S31 → Option Bool) : Prop := ∀ {M : Mem} {b0_1 b0_11 c0_9 ch0_7_10 ch0_7_7 ch0_7_8 chx0_10 chx0_7 chx0_8 : Nat} {A0_8 Ah0_7_10 Ah0_7_7 Ah0_7_8 Ahx0_10 Ahx0_7 Ahx0_8 : Option Addr} (t0_5 : (S31 × (List S46) × Int × Int)) (t0_3 : Bool) (xj5_s13 : Int) (x0 : S31) (_ : Lj5 t0_5 t0_3 xj5_s13 x0 = some r) (_ : SlAt kS46 M A0_8 c0_9 t0_5.2.1) (_ : SlAt (kint .i64) M Ahx0_7 chx0_7 x0.f5.f0.f2) (_ : SlAt kS80 M Ahx0_8 chx0_8 x0.f5.f1) (_ : SlAt (kint .i64) M Ahx0_10 chx0_10 x0.f7) (_ : x0.f8.length = 8) (_ : x0.f9.length = 8) (_ : SlAt (kint .i64) M Ah0_7_7 ch0_7_7 t0_5.1.f5.f0.f2) (_ : SlAt kS80 M Ah0_7_8 ch0_7_8 t0_5.1.f5.f1) (_ : SlAt (kint .i64) M Ah0_7_10 ch0_7_10 t0_5.1.f7) (_ : t0_5.1.f8.length = 8) (_ : t0_5.1.f9.length = 8), AG Try.prog c4 [1, 1, 1, 1, 1, 1, 1, 1, 0, 1, 0] (D4 w0 M0 r) (C4 w0 M0) (env [(2, .pointer (some ⟨b0_1, 0, none⟩)), (5, .bool t0_3), (7, .pointer (some ⟨b0_11, 0, none⟩)), (8, .slice A0_8 t0_5.2.1.length c0_9), (13, .int .i64 xj5_s13)]) M [.blk b0_1 (cS31 x0 Ahx0_7 chx0_7 Ahx0_8 chx0_8 Ahx0_10 chx0_10) 32, .blk b0_11 (cS31 (S31.mk t0_5.1.f0 t0_5.1.f1 t0_5.1.f2 t0_5.1.f3 t0_5.1.f4 (S26.mk (S23.mk t0_5.1.f5.f0.f0 t0_5.1.f5.f0.f1 t0_5.1.f5.f0.f2) t0_5.1.f5.f1) t0_5.1.f6 t0_5.1.f7 t0_5.1.f8 t0_5.1.f9 t0_5.1.f10 t0_5.1.f11) Ah0_7_7 ch0_7_7 Ah0_7_8 ch0_7_8 Ah0_7_10 ch0_7_10) 32]
abbrev H4_j3 (w0 : World) (M0 : Mem) (r : Bool) (Lj3 : (S31 × (List S46) × Int × Int) → Bool → Int → S31 → Option Bool) : Prop := ∀ {M : Mem} {b0_1 b0_11 c0_9 ch0_7_10 ch0_7_7 ch0_7_8 chx0_10 chx0_7 chx0_8 : Nat} {A0_8 Ah0_7_10 Ah0_7_7 Ah0_7_8 Ahx0_10 Ahx0_7 Ahx0_8 : Option Addr} (t0_5 : (S31 × (List S46) × Int × Int)) (t0_3 : Bool) (xj3_s12 : Int) (x0 : S31) (_ : Lj3 t0_5 t0_3 xj3_s12 x0 = some r) (_ : SlAt kS46 M A0_8 c0_9 t0_5.2.1) (_ : SlAt (kint .i64) M Ahx0_7 chx0_7 x0.f5.f0.f2) (_ : SlAt kS80 M Ahx0_8 chx0_8 x0.f5.f1) (_ : SlAt (kint .i64) M Ahx0_10 chx0_10 x0.f7) (_ : x0.f8.length = 8) (_ : x0.f9.length = 8) (_ : SlAt (kint .i64) M Ah0_7_7 ch0_7_7 t0_5.1.f5.f0.f2) (_ : SlAt kS80 M Ah0_7_8 ch0_7_8 t0_5.1.f5.f1) (_ : SlAt (kint .i64) M Ah0_7_10 ch0_7_10 t0_5.1.f7) (_ : t0_5.1.f8.length = 8) (_ : t0_5.1.f9.length = 8), AG Try.prog c4 [1, 1, 1, 1, 1, 1, 1, 0, 1, 0] (D4 w0 M0 r) (C4 w0 M0) (env [(2, .pointer (some ⟨b0_1, 0, none⟩)), (5, .bool t0_3), (7, .pointer (some ⟨b0_11, 0, none⟩)), (8, .slice A0_8 t0_5.2.1.length c0_9), (12, .int .i64 xj3_s12)]) M [.blk b0_1 (cS31 x0 Ahx0_7 chx0_7 Ahx0_8 chx0_8 Ahx0_10 chx0_10) 32, .blk b0_11 (cS31 (S31.mk t0_5.1.f0 t0_5.1.f1 t0_5.1.f2 t0_5.1.f3 t0_5.1.f4 (S26.mk (S23.mk t0_5.1.f5.f0.f0 t0_5.1.f5.f0.f1 t0_5.1.f5.f0.f2) t0_5.1.f5.f1) t0_5.1.f6 t0_5.1.f7 t0_5.1.f8 t0_5.1.f9 t0_5.1.f10 t0_5.1.f11) Ah0_7_7 ch0_7_7 Ah0_7_8 ch0_7_8 Ah0_7_10 ch0_7_10) 32]
theorem f4_j6 {w0 : World} {M0 : Mem} {r : Bool} {Lj5 : (S31 × (List S46) × Int × Int) → Bool → Int → S31 → Option Bool} (ihj5 : H4_j5 w0 M0 r Lj5) : ∀ {M : Mem} {b0_1 b0_11 c0_9 ch0_7_10 ch0_7_7 ch0_7_8 chx0_10 chx0_7 chx0_8 : Nat} {A0_8 Ah0_7_10 Ah0_7_7 Ah0_7_8 Ahx0_10 Ahx0_7 Ahx0_8 : Option Addr} (t0_5 : (S31 × (List S46) × Int × Int)) (t0_3 xj6_s137 : Bool) (xj6_s13 : Int) (x0 : S31) (_ : m4_j6 Lj5 t0_5 t0_3 xj6_s137 xj6_s13 x0 = some r) (_ : SlAt kS46 M A0_8 c0_9 t0_5.2.1) (_ : SlAt (kint .i64) M Ahx0_7 chx0_7 x0.f5.f0.f2) (_ : SlAt kS80 M Ahx0_8 chx0_8 x0.f5.f1) (_ : SlAt (kint .i64) M Ahx0_10 chx0_10 x0.f7) (_ : x0.f8.length = 8) (_ : x0.f9.length = 8) (_ : SlAt (kint .i64) M Ah0_7_7 ch0_7_7 t0_5.1.f5.f0.f2) (_ : SlAt kS80 M Ah0_7_8 ch0_7_8 t0_5.1.f5.f1) (_ : SlAt (kint .i64) M Ah0_7_10 ch0_7_10 t0_5.1.f7) (_ : t0_5.1.f8.length = 8) (_ : t0_5.1.f9.length = 8), AG Try.prog c4 [1, 1, 1, 1, 1, 1, 1, 1, 0, 1, 0, 0, 1, 0, 0, 1] (D4 w0 M0 r) (C4 w0 M0) (env [(2, .pointer (some ⟨b0_1, 0, none⟩)), (5, .bool t0_3), (7, .pointer (some ⟨b0_11, 0, none⟩)), (8, .slice A0_8 t0_5.2.1.length c0_9), (13, .int .i64 xj6_s13), (137, .bool xj6_s137)]) M [.blk b0_1 (cS31 x0 Ahx0_7 chx0_7 Ahx0_8 chx0_8 Ahx0_10 chx0_10) 32, .blk b0_11 (cS31 (S31.mk t0_5.1.f0 t0_5.1.f1 t0_5.1.f2 t0_5.1.f3 t0_5.1.f4 (S26.mk (S23.mk t0_5.1.f5.f0.f0 t0_5.1.f5.f0.f1 t0_5.1.f5.f0.f2) t0_5.1.f5.f1) t0_5.1.f6 t0_5.1.f7 t0_5.1.f8 t0_5.1.f9 t0_5.1.f10 t0_5.1.f11) Ah0_7_7 ch0_7_7 Ah0_7_8 ch0_7_8 Ah0_7_10 ch0_7_10) 32] := by
  intro M b0_1 b0_11 c0_9 ch0_7_10 ch0_7_7 ch0_7_8 chx0_10 chx0_7 chx0_8 A0_8 Ah0_7_10 Ah0_7_7 Ah0_7_8 Ahx0_10 Ahx0_7 Ahx0_8 t0_5 t0_3 xj6_s137 xj6_s13 x0 hm hj6_s8 hj6_0_0_l7 hj6_0_0_l8 hj6_0_0_l10 lj6_0_0_l11 lj6_0_0_l12 hj6_1_1_1_0_8_l7 hj6_1_1_1_0_8_l8 hj6_1_1_1_0_8_l10 lj6_1_1_1_0_8_l11 lj6_1_1_1_0_8_l12; unfold m4_j6 at hm
  refine gi [1, 1, 1, 1, 1, 1, 1, 1, 0, 1, 0, 0, 1, 0, 0, 1] hm (fun hm => ?_) fun hm => ?_
  · refine rs [1, 1, 1, 1, 1, 1, 1, 1, 0, 1, 0, 0, 1, 0, 0, 1, 0, 0] [.p 1] [(4, .bool false)] [] ?_
    obtain rfl := Option.some.inj hm
    exact rtp (v := .bool false) [] ⟨rfl, rfl, rfl⟩
  · refine rs [1, 1, 1, 1, 1, 1, 1, 1, 0, 1, 0, 0, 1, 1] [.p 3] [(13, .int .i64 (IntKind.i64.wrap (xj6_s13 + 1)))] [] ?_
    exact to [0, 1] (@ihj5 M b0_1 b0_11 c0_9 ch0_7_10 ch0_7_7 ch0_7_8 chx0_10 chx0_7 chx0_8 A0_8 Ah0_7_10 Ah0_7_7 Ah0_7_8 Ahx0_10 Ahx0_7 Ahx0_8 _ _ _ _ hm hj6_s8 hj6_0_0_l7 hj6_0_0_l8 hj6_0_0_l10 lj6_0_0_l11 lj6_0_0_l12 hj6_1_1_1_0_8_l7 hj6_1_1_1_0_8_l8 hj6_1_1_1_0_8_l10 lj6_1_1_1_0_8_l11 lj6_1_1_1_0_8_l12)
theorem f4_j5 {w0 : World} {M0 : Mem} {r : Bool} : ∀ k, H4_j5 w0 M0 r (m4_j5 k) := by
  intro k; induction k with
  | zero => intro M b0_1 b0_11 c0_9 ch0_7_10 ch0_7_7 ch0_7_8 chx0_10 chx0_7 chx0_8 A0_8 Ah0_7_10 Ah0_7_7 Ah0_7_8 Ahx0_10 Ahx0_7 Ahx0_8 t0_5 t0_3 xj5_s13 x0 hm; exact absurd hm (by simp [m4_j5])
  | succ k ihj5 =>
    intro M b0_1 b0_11 c0_9 ch0_7_10 ch0_7_7 ch0_7_8 chx0_10 chx0_7 chx0_8 A0_8 Ah0_7_10 Ah0_7_7 Ah0_7_8 Ahx0_10 Ahx0_7 Ahx0_8 t0_5 t0_3 xj5_s13 x0 hm hj5_s8 hj5_0_0_l7 hj5_0_0_l8 hj5_0_0_l10 lj5_0_0_l11 lj5_0_0_l12 hj5_1_1_1_0_8_l7 hj5_1_1_1_0_8_l8 hj5_1_1_1_0_8_l10 lj5_1_1_1_0_8_l11 lj5_1_1_1_0_8_l12
    rw [m4_j5.eq_2] at hm
    refine gl [1, 1, 1, 1, 1, 1, 1, 1, 0, 1, 0] plain_done ?_
    refine rs [1, 1, 1, 1, 1, 1, 1, 1, 0, 1, 0, 0, 0, 0] [.p 4] [(107, .bool (decide ((xj5_s13 : Int) < (t0_5.2.1.length : Int))))] [] ?_
    refine gi [1, 1, 1, 1, 1, 1, 1, 1, 0, 1, 0, 0, 0, 1] hm (fun hm => ?_) fun hm => ?_
    · obtain ⟨ej5_1, bj5_2, fj5_3, kj5_4, Wj5_5, hm, haej5_1, hbej5_1, hmej5_1, hwej5_1, hrej5_1⟩ := ixo hm hj5_s8
      obtain ⟨Ahrej5_1_8, chrej5_1_8, Ahrej5_1_9, chrej5_1_9, Ahrej5_1_11, chrej5_1_11, Ahrej5_1_13, chrej5_1_13, Ahrej5_1_14, chrej5_1_14, Ahrej5_1_15, chrej5_1_15, hcej5_1, hrej5_1_8, hrej5_1_9, hrej5_1_11, hrej5_1_13, hrej5_1_14, hrej5_1_15, hrej5_1_16⟩ := kS46_open hrej5_1
      replace hwej5_1 := hwej5_1.trans hcej5_1
      refine rgD [1, 1, 1, 1, 1, 1, 1, 1, 0, 1, 0, 0, 1, 0, 0, 0] (PT.of [0, 4, 8, 12, 18, 20, 25, 28, 32, 36, 40, 44, 48, 54, 56, 61, 64, 68, 72, 76, 80, 84, 88, 94, 96, 101, 104, 108] .dn) [(6, 0), (15, 0), (25, 1)] [0, 2] mixed plain_done ?_
      refine seg [.p 2] [(110, .slice A0_8 t0_5.2.1.length c0_9), (111, .int .i64 xj5_s13)] [] ?_
      refine g_ix 112 17 haej5_1 hbej5_1 ?_
      refine seg [.p 1] [(113, .pointer (some ⟨bj5_2, (fj5_3 + xj5_s13.toNat * 17) + 1, none⟩))] [] ?_
      refine g_lwD 114 1 (.int .i64 ej5_1.f1) hmej5_1 hmej5_1 hwej5_1 ?_
      refine seg [.p 1, .l 0, .p 2] [(118, .bool ((ej5_1.f1 : Int) != x0.f0))] [] ?_
      refine gs 118 hm (fun hm => ?_) fun hm => ?_
      · refine seg [.p 19] [(137, .bool true)] [] ?_
        refine fin ?_
        exact to [0, 1] (@f4_j6 _ _ _ _ ihj5 M b0_1 b0_11 c0_9 ch0_7_10 ch0_7_7 ch0_7_8 chx0_10 chx0_7 chx0_8 A0_8 Ah0_7_10 Ah0_7_7 Ah0_7_8 Ahx0_10 Ahx0_7 Ahx0_8 _ _ _ _ _ hm hj5_s8 hj5_0_0_l7 hj5_0_0_l8 hj5_0_0_l10 lj5_0_0_l11 lj5_0_0_l12 hj5_1_1_1_0_8_l7 hj5_1_1_1_0_8_l8 hj5_1_1_1_0_8_l10 lj5_1_1_1_0_8_l11 lj5_1_1_1_0_8_l12)
      · obtain ⟨ej5_6, bj5_7, fj5_8, kj5_9, Wj5_10, hm, haej5_6, hbej5_6, hmej5_6, hwej5_6, hrej5_6⟩ := ixo hm hj5_s8
        obtain ⟨Ahrej5_6_8, chrej5_6_8, Ahrej5_6_9, chrej5_6_9, Ahrej5_6_11, chrej5_6_11, Ahrej5_6_13, chrej5_6_13, Ahrej5_6_14, chrej5_6_14, Ahrej5_6_15, chrej5_6_15, hcej5_6, hrej5_6_8, hrej5_6_9, hrej5_6_11, hrej5_6_13, hrej5_6_14, hrej5_6_15, hrej5_6_16⟩ := kS46_open hrej5_6
        replace hwej5_6 := hwej5_6.trans hcej5_6
        refine seg [.p 2] [(119, .slice A0_8 t0_5.2.1.length c0_9), (120, .int .i64 xj5_s13)] [] ?_
        refine g_ix 121 17 haej5_6 hbej5_6 ?_
        refine seg [.p 1] [(122, .pointer (some ⟨bj5_7, (fj5_8 + xj5_s13.toNat * 17) + 2, none⟩))] [] ?_
        refine g_lwD 123 2 (.int .i64 ej5_6.f2) hmej5_6 hmej5_6 hwej5_6 ?_
        refine seg [.p 1, .l 0, .p 3] [(128, .bool ((ej5_6.f2 : Int) == x0.f0))] [] ?_
        refine gs 128 hm (fun hm => ?_) fun hm => ?_
        · refine seg [.p 9] [(137, .bool true)] [] ?_
          refine fin ?_
          exact to [0, 1] (@f4_j6 _ _ _ _ ihj5 M b0_1 b0_11 c0_9 ch0_7_10 ch0_7_7 ch0_7_8 chx0_10 chx0_7 chx0_8 A0_8 Ah0_7_10 Ah0_7_7 Ah0_7_8 Ahx0_10 Ahx0_7 Ahx0_8 _ _ _ _ _ hm hj5_s8 hj5_0_0_l7 hj5_0_0_l8 hj5_0_0_l10 lj5_0_0_l11 lj5_0_0_l12 hj5_1_1_1_0_8_l7 hj5_1_1_1_0_8_l8 hj5_1_1_1_0_8_l10 lj5_1_1_1_0_8_l11 lj5_1_1_1_0_8_l12)
        · obtain ⟨ej5_11, bj5_12, fj5_13, kj5_14, Wj5_15, hm, haej5_11, hbej5_11, hmej5_11, hwej5_11, hrej5_11⟩ := ixo hm hj5_s8
          obtain ⟨Ahrej5_11_8, chrej5_11_8, Ahrej5_11_9, chrej5_11_9, Ahrej5_11_11, chrej5_11_11, Ahrej5_11_13, chrej5_11_13, Ahrej5_11_14, chrej5_11_14, Ahrej5_11_15, chrej5_11_15, hcej5_11, hrej5_11_8, hrej5_11_9, hrej5_11_11, hrej5_11_13, hrej5_11_14, hrej5_11_15, hrej5_11_16⟩ := kS46_open hrej5_11
          replace hwej5_11 := hwej5_11.trans hcej5_11
          refine seg [.p 2] [(129, .slice A0_8 t0_5.2.1.length c0_9), (130, .int .i64 xj5_s13)] [] ?_
          refine g_ix 131 17 haej5_11 hbej5_11 ?_
          refine seg [.p 1] [(132, .pointer (some ⟨bj5_12, (fj5_13 + xj5_s13.toNat * 17) + 3, none⟩))] [] ?_
          refine g_lwD 133 3 (.int .i64 ej5_11.f3) hmej5_11 hmej5_11 hwej5_11 ?_
          refine seg [.p 1, .l 1, .p 2] [(137, .bool ((ej5_11.f3 : Int) != t0_5.1.f1))] [] ?_
          refine fin ?_
          exact to [0, 1] (@f4_j6 _ _ _ _ ihj5 M b0_1 b0_11 c0_9 ch0_7_10 ch0_7_7 ch0_7_8 chx0_10 chx0_7 chx0_8 A0_8 Ah0_7_10 Ah0_7_7 Ah0_7_8 Ahx0_10 Ahx0_7 Ahx0_8 _ _ _ _ _ hm hj5_s8 hj5_0_0_l7 hj5_0_0_l8 hj5_0_0_l10 lj5_0_0_l11 lj5_0_0_l12 hj5_1_1_1_0_8_l7 hj5_1_1_1_0_8_l8 hj5_1_1_1_0_8_l10 lj5_1_1_1_0_8_l11 lj5_1_1_1_0_8_l12)
    · refine rs [1, 1, 1, 1, 1, 1, 1, 1, 1, 0] [.p 2] [(4, .bool t0_3)] [] ?_
      obtain rfl := Option.some.inj hm
      exact rtp (v := .bool t0_3) [] ⟨rfl, rfl, rfl⟩
theorem f4_j4 {w0 : World} {M0 : Mem} {r : Bool} {Lj3 : (S31 × (List S46) × Int × Int) → Bool → Int → S31 → Option Bool} (ihj3 : H4_j3 w0 M0 r Lj3) : ∀ {M : Mem} {b0_1 b0_11 c0_9 ch0_7_10 ch0_7_7 ch0_7_8 chx0_10 chx0_7 chx0_8 : Nat} {A0_8 Ah0_7_10 Ah0_7_7 Ah0_7_8 Ahx0_10 Ahx0_7 Ahx0_8 : Option Addr} (t0_5 : (S31 × (List S46) × Int × Int)) (t0_3 xj4_s103 : Bool) (xj4_s12 : Int) (x0 : S31) (_ : m4_j4 Lj3 t0_5 t0_3 xj4_s103 xj4_s12 x0 = some r) (_ : SlAt kS46 M A0_8 c0_9 t0_5.2.1) (_ : SlAt (kint .i64) M Ahx0_7 chx0_7 x0.f5.f0.f2) (_ : SlAt kS80 M Ahx0_8 chx0_8 x0.f5.f1) (_ : SlAt (kint .i64) M Ahx0_10 chx0_10 x0.f7) (_ : x0.f8.length = 8) (_ : x0.f9.length = 8) (_ : SlAt (kint .i64) M Ah0_7_7 ch0_7_7 t0_5.1.f5.f0.f2) (_ : SlAt kS80 M Ah0_7_8 ch0_7_8 t0_5.1.f5.f1) (_ : SlAt (kint .i64) M Ah0_7_10 ch0_7_10 t0_5.1.f7) (_ : t0_5.1.f8.length = 8) (_ : t0_5.1.f9.length = 8), AG Try.prog c4 [1, 1, 1, 1, 1, 1, 1, 0, 1, 0, 0, 1, 0, 0, 1] (D4 w0 M0 r) (C4 w0 M0) (env [(2, .pointer (some ⟨b0_1, 0, none⟩)), (5, .bool t0_3), (7, .pointer (some ⟨b0_11, 0, none⟩)), (8, .slice A0_8 t0_5.2.1.length c0_9), (12, .int .i64 xj4_s12), (103, .bool xj4_s103)]) M [.blk b0_1 (cS31 x0 Ahx0_7 chx0_7 Ahx0_8 chx0_8 Ahx0_10 chx0_10) 32, .blk b0_11 (cS31 (S31.mk t0_5.1.f0 t0_5.1.f1 t0_5.1.f2 t0_5.1.f3 t0_5.1.f4 (S26.mk (S23.mk t0_5.1.f5.f0.f0 t0_5.1.f5.f0.f1 t0_5.1.f5.f0.f2) t0_5.1.f5.f1) t0_5.1.f6 t0_5.1.f7 t0_5.1.f8 t0_5.1.f9 t0_5.1.f10 t0_5.1.f11) Ah0_7_7 ch0_7_7 Ah0_7_8 ch0_7_8 Ah0_7_10 ch0_7_10) 32] := by
  intro M b0_1 b0_11 c0_9 ch0_7_10 ch0_7_7 ch0_7_8 chx0_10 chx0_7 chx0_8 A0_8 Ah0_7_10 Ah0_7_7 Ah0_7_8 Ahx0_10 Ahx0_7 Ahx0_8 t0_5 t0_3 xj4_s103 xj4_s12 x0 hm hj4_s8 hj4_0_0_l7 hj4_0_0_l8 hj4_0_0_l10 lj4_0_0_l11 lj4_0_0_l12 hj4_1_1_1_0_8_l7 hj4_1_1_1_0_8_l8 hj4_1_1_1_0_8_l10 lj4_1_1_1_0_8_l11 lj4_1_1_1_0_8_l12; unfold m4_j4 at hm
  refine gi [1, 1, 1, 1, 1, 1, 1, 0, 1, 0, 0, 1, 0, 0, 1] hm (fun hm => ?_) fun hm => ?_
  · refine rs [1, 1, 1, 1, 1, 1, 1, 0, 1, 0, 0, 1, 0, 0, 1, 0, 0] [.p 1] [(4, .bool false)] [] ?_
    obtain rfl := Option.some.inj hm
    exact rtp (v := .bool false) [] ⟨rfl, rfl, rfl⟩
  · refine rs [1, 1, 1, 1, 1, 1, 1, 0, 1, 0, 0, 1, 1] [.p 3] [(12, .int .i64 (IntKind.i64.wrap (xj4_s12 + 1)))] [] ?_
    exact to [0, 1] (@ihj3 M b0_1 b0_11 c0_9 ch0_7_10 ch0_7_7 ch0_7_8 chx0_10 chx0_7 chx0_8 A0_8 Ah0_7_10 Ah0_7_7 Ah0_7_8 Ahx0_10 Ahx0_7 Ahx0_8 _ _ _ _ hm hj4_s8 hj4_0_0_l7 hj4_0_0_l8 hj4_0_0_l10 lj4_0_0_l11 lj4_0_0_l12 hj4_1_1_1_0_8_l7 hj4_1_1_1_0_8_l8 hj4_1_1_1_0_8_l10 lj4_1_1_1_0_8_l11 lj4_1_1_1_0_8_l12)
theorem f4_j3 {w0 : World} {M0 : Mem} {r : Bool} : ∀ k, H4_j3 w0 M0 r (m4_j3 k) := by
  intro k; induction k with
  | zero => intro M b0_1 b0_11 c0_9 ch0_7_10 ch0_7_7 ch0_7_8 chx0_10 chx0_7 chx0_8 A0_8 Ah0_7_10 Ah0_7_7 Ah0_7_8 Ahx0_10 Ahx0_7 Ahx0_8 t0_5 t0_3 xj3_s12 x0 hm; exact absurd hm (by simp [m4_j3])
  | succ k ihj3 =>
    intro M b0_1 b0_11 c0_9 ch0_7_10 ch0_7_7 ch0_7_8 chx0_10 chx0_7 chx0_8 A0_8 Ah0_7_10 Ah0_7_7 Ah0_7_8 Ahx0_10 Ahx0_7 Ahx0_8 t0_5 t0_3 xj3_s12 x0 hm hj3_s8 hj3_0_0_l7 hj3_0_0_l8 hj3_0_0_l10 lj3_0_0_l11 lj3_0_0_l12 hj3_1_1_1_0_8_l7 hj3_1_1_1_0_8_l8 hj3_1_1_1_0_8_l10 lj3_1_1_1_0_8_l11 lj3_1_1_1_0_8_l12
    rw [m4_j3.eq_2] at hm
    refine gl [1, 1, 1, 1, 1, 1, 1, 0, 1, 0] plain_done ?_
    refine rs [1, 1, 1, 1, 1, 1, 1, 0, 1, 0, 0, 0, 0] [.p 2, .l 0, .p 1] [(84, .bool (decide ((xj3_s12 : Int) ≤ x0.f6)))] [] ?_
    refine gi [1, 1, 1, 1, 1, 1, 1, 0, 1, 0, 0, 0, 1] hm (fun hm => ?_) fun hm => ?_
    · refine rgD [1, 1, 1, 1, 1, 1, 1, 0, 1, 0, 0, 1, 0, 0, 0] (PT.of [0, 4, 8, 12, 17, 20, 24, 28, 33, 36, 44, 49, 52, 43, 59, 60, 64] .dn) [(4, 1), (8, 1), (12, 0)] [0, 2] mixed plain_done ?_
      refine seg [.p 4, .l 1, .p 2] [(93, .bool (decide ((xj3_s12 : Int) ≥ t0_5.1.f5.f0.f0)))] [] ?_
      refine gs 93 hm (fun hm => ?_) fun hm => ?_
      · obtain ⟨tj3_1, htj3_1, hm⟩ := bind_some hm
        refine seg [.p 1, .l 1, .p 2, .l 0, .p 1] [(95, .agg (cS26 (S26.mk (S23.mk t0_5.1.f5.f0.f0 t0_5.1.f5.f0.f1 t0_5.1.f5.f0.f2) t0_5.1.f5.f1) Ah0_7_7 ch0_7_7 Ah0_7_8 ch0_7_8).toArray), (96, .int .i64 xj3_s12), (99, .agg (cS26 x0.f5 Ahx0_7 chx0_7 Ahx0_8 chx0_8).toArray), (100, .int .i64 xj3_s12)] [] ?_
        refine g_call0 97 (f16_ok _ _ _ htj3_1 (kS26_mk (cs := (cS26 (S26.mk (S23.mk t0_5.1.f5.f0.f0 t0_5.1.f5.f0.f1 t0_5.1.f5.f0.f2) t0_5.1.f5.f1) Ah0_7_7 ch0_7_7 Ah0_7_8 ch0_7_8)) (S26.mk (S23.mk t0_5.1.f5.f0.f0 t0_5.1.f5.f0.f1 t0_5.1.f5.f0.f2) t0_5.1.f5.f1) rfl hj3_1_1_1_0_8_l7 hj3_1_1_1_0_8_l8)) ?_
        rintro _ _ _ ⟨rfl, rfl, rfl⟩ -
        obtain ⟨tj3_2, htj3_2, hm⟩ := bind_some hm
        refine g_call0 101 (f16_ok _ _ _ htj3_2 (kS26_mk (cs := (cS26 x0.f5 Ahx0_7 chx0_7 Ahx0_8 chx0_8)) x0.f5 rfl hj3_0_0_l7 hj3_0_0_l8)) ?_
        rintro _ _ _ ⟨rfl, rfl, rfl⟩ -
        refine seg [.p 2] [(103, .bool ((tj3_1 : Int) != tj3_2))] [] ?_
        refine fin ?_
        exact to [0, 1] (@f4_j4 _ _ _ _ ihj3 M b0_1 b0_11 c0_9 ch0_7_10 ch0_7_7 ch0_7_8 chx0_10 chx0_7 chx0_8 A0_8 Ah0_7_10 Ah0_7_7 Ah0_7_8 Ahx0_10 Ahx0_7 Ahx0_8 _ _ _ _ _ hm hj3_s8 hj3_0_0_l7 hj3_0_0_l8 hj3_0_0_l10 lj3_0_0_l11 lj3_0_0_l12 hj3_1_1_1_0_8_l7 hj3_1_1_1_0_8_l8 hj3_1_1_1_0_8_l10 lj3_1_1_1_0_8_l11 lj3_1_1_1_0_8_l12)
      · refine seg [.p 10] [(103, .bool false)] [] ?_
        refine fin ?_
        exact to [0, 1] (@f4_j4 _ _ _ _ ihj3 M b0_1 b0_11 c0_9 ch0_7_10 ch0_7_7 ch0_7_8 chx0_10 chx0_7 chx0_8 A0_8 Ah0_7_10 Ah0_7_7 Ah0_7_8 Ahx0_10 Ahx0_7 Ahx0_8 _ _ _ _ _ hm hj3_s8 hj3_0_0_l7 hj3_0_0_l8 hj3_0_0_l10 lj3_0_0_l11 lj3_0_0_l12 hj3_1_1_1_0_8_l7 hj3_1_1_1_0_8_l8 hj3_1_1_1_0_8_l10 lj3_1_1_1_0_8_l11 lj3_1_1_1_0_8_l12)
    · refine rs [1, 1, 1, 1, 1, 1, 1, 1, 0, 0] [.p 1] [(13, .int .i64 0)] [] ?_
      exact to [0, 1] (@f4_j5 _ _ _ FUEL M b0_1 b0_11 c0_9 ch0_7_10 ch0_7_7 ch0_7_8 chx0_10 chx0_7 chx0_8 A0_8 Ah0_7_10 Ah0_7_7 Ah0_7_8 Ahx0_10 Ahx0_7 Ahx0_8 _ _ _ _ hm hj3_s8 hj3_0_0_l7 hj3_0_0_l8 hj3_0_0_l10 lj3_0_0_l11 lj3_0_0_l12 hj3_1_1_1_0_8_l7 hj3_1_1_1_0_8_l8 hj3_1_1_1_0_8_l10 lj3_1_1_1_0_8_l11 lj3_1_1_1_0_8_l12)
theorem f4_j2 {w0 : World} {M0 : Mem} {r : Bool} : ∀ {M : Mem} {b0_1 b0_11 c0_9 ch0_7_10 ch0_7_7 ch0_7_8 chx0_10 chx0_7 chx0_8 : Nat} {A0_8 Ah0_7_10 Ah0_7_7 Ah0_7_8 Ahx0_10 Ahx0_7 Ahx0_8 : Option Addr} (t0_5 : (S31 × (List S46) × Int × Int)) (t0_3 xj2_s76 : Bool) (x0 : S31) (_ : m4_j2 t0_5 t0_3 xj2_s76 x0 = some r) (_ : SlAt kS46 M A0_8 c0_9 t0_5.2.1) (_ : SlAt (kint .i64) M Ahx0_7 chx0_7 x0.f5.f0.f2) (_ : SlAt kS80 M Ahx0_8 chx0_8 x0.f5.f1) (_ : SlAt (kint .i64) M Ahx0_10 chx0_10 x0.f7) (_ : x0.f8.length = 8) (_ : x0.f9.length = 8) (_ : SlAt (kint .i64) M Ah0_7_7 ch0_7_7 t0_5.1.f5.f0.f2) (_ : SlAt kS80 M Ah0_7_8 ch0_7_8 t0_5.1.f5.f1) (_ : SlAt (kint .i64) M Ah0_7_10 ch0_7_10 t0_5.1.f7) (_ : t0_5.1.f8.length = 8) (_ : t0_5.1.f9.length = 8), AG Try.prog c4 [1, 1, 1, 1, 1, 1, 0, 1] (D4 w0 M0 r) (C4 w0 M0) (env [(2, .pointer (some ⟨b0_1, 0, none⟩)), (5, .bool t0_3), (7, .pointer (some ⟨b0_11, 0, none⟩)), (8, .slice A0_8 t0_5.2.1.length c0_9), (76, .bool xj2_s76)]) M [.blk b0_1 (cS31 x0 Ahx0_7 chx0_7 Ahx0_8 chx0_8 Ahx0_10 chx0_10) 32, .blk b0_11 (cS31 (S31.mk t0_5.1.f0 t0_5.1.f1 t0_5.1.f2 t0_5.1.f3 t0_5.1.f4 (S26.mk (S23.mk t0_5.1.f5.f0.f0 t0_5.1.f5.f0.f1 t0_5.1.f5.f0.f2) t0_5.1.f5.f1) t0_5.1.f6 t0_5.1.f7 t0_5.1.f8 t0_5.1.f9 t0_5.1.f10 t0_5.1.f11) Ah0_7_7 ch0_7_7 Ah0_7_8 ch0_7_8 Ah0_7_10 ch0_7_10) 32] := by
  intro M b0_1 b0_11 c0_9 ch0_7_10 ch0_7_7 ch0_7_8 chx0_10 chx0_7 chx0_8 A0_8 Ah0_7_10 Ah0_7_7 Ah0_7_8 Ahx0_10 Ahx0_7 Ahx0_8 t0_5 t0_3 xj2_s76 x0 hm hj2_s8 hj2_0_0_l7 hj2_0_0_l8 hj2_0_0_l10 lj2_0_0_l11 lj2_0_0_l12 hj2_1_1_1_0_8_l7 hj2_1_1_1_0_8_l8 hj2_1_1_1_0_8_l10 lj2_1_1_1_0_8_l11 lj2_1_1_1_0_8_l12; unfold m4_j2 at hm
  refine gi [1, 1, 1, 1, 1, 1, 0, 1] hm (fun hm => ?_) fun hm => ?_
  · refine rs [1, 1, 1, 1, 1, 1, 0, 1, 0, 0] [.p 1] [(4, .bool false)] [] ?_
    obtain rfl := Option.some.inj hm
    exact rtp (v := .bool false) [] ⟨rfl, rfl, rfl⟩
  · refine rs [1, 1, 1, 1, 1, 1, 1, 0, 0] [.p 3, .l 0, .p 1] [(12, .int .i64 x0.f5.f0.f0)] [] ?_
    exact to [0, 1] (@f4_j3 _ _ _ FUEL M b0_1 b0_11 c0_9 ch0_7_10 ch0_7_7 ch0_7_8 chx0_10 chx0_7 chx0_8 A0_8 Ah0_7_10 Ah0_7_7 Ah0_7_8 Ahx0_10 Ahx0_7 Ahx0_8 _ _ _ _ hm hj2_s8 hj2_0_0_l7 hj2_0_0_l8 hj2_0_0_l10 lj2_0_0_l11 lj2_0_0_l12 hj2_1_1_1_0_8_l7 hj2_1_1_1_0_8_l8 hj2_1_1_1_0_8_l10 lj2_1_1_1_0_8_l11 lj2_1_1_1_0_8_l12)
theorem f4_j1 {w0 : World} {M0 : Mem} {r : Bool} : ∀ {M : Mem} {b0_1 b0_11 c0_9 ch0_7_10 ch0_7_7 ch0_7_8 chx0_10 chx0_7 chx0_8 : Nat} {A0_8 Ah0_7_10 Ah0_7_7 Ah0_7_8 Ahx0_10 Ahx0_7 Ahx0_8 : Option Addr} (t0_5 : (S31 × (List S46) × Int × Int)) (t0_3 xj1_s31 : Bool) (x0 : S31) (_ : m4_j1 t0_5 t0_3 xj1_s31 x0 = some r) (_ : SlAt kS46 M A0_8 c0_9 t0_5.2.1) (_ : SlAt (kint .i64) M Ahx0_7 chx0_7 x0.f5.f0.f2) (_ : SlAt kS80 M Ahx0_8 chx0_8 x0.f5.f1) (_ : SlAt (kint .i64) M Ahx0_10 chx0_10 x0.f7) (_ : x0.f8.length = 8) (_ : x0.f9.length = 8) (_ : SlAt (kint .i64) M Ah0_7_7 ch0_7_7 t0_5.1.f5.f0.f2) (_ : SlAt kS80 M Ah0_7_8 ch0_7_8 t0_5.1.f5.f1) (_ : SlAt (kint .i64) M Ah0_7_10 ch0_7_10 t0_5.1.f7) (_ : t0_5.1.f8.length = 8) (_ : t0_5.1.f9.length = 8), AG Try.prog c4 [1, 1, 1, 1, 0, 1] (D4 w0 M0 r) (C4 w0 M0) (env [(2, .pointer (some ⟨b0_1, 0, none⟩)), (5, .bool t0_3), (7, .pointer (some ⟨b0_11, 0, none⟩)), (8, .slice A0_8 t0_5.2.1.length c0_9), (31, .bool xj1_s31)]) M [.blk b0_1 (cS31 x0 Ahx0_7 chx0_7 Ahx0_8 chx0_8 Ahx0_10 chx0_10) 32, .blk b0_11 (cS31 (S31.mk t0_5.1.f0 t0_5.1.f1 t0_5.1.f2 t0_5.1.f3 t0_5.1.f4 (S26.mk (S23.mk t0_5.1.f5.f0.f0 t0_5.1.f5.f0.f1 t0_5.1.f5.f0.f2) t0_5.1.f5.f1) t0_5.1.f6 t0_5.1.f7 t0_5.1.f8 t0_5.1.f9 t0_5.1.f10 t0_5.1.f11) Ah0_7_7 ch0_7_7 Ah0_7_8 ch0_7_8 Ah0_7_10 ch0_7_10) 32] := by
  intro M b0_1 b0_11 c0_9 ch0_7_10 ch0_7_7 ch0_7_8 chx0_10 chx0_7 chx0_8 A0_8 Ah0_7_10 Ah0_7_7 Ah0_7_8 Ahx0_10 Ahx0_7 Ahx0_8 t0_5 t0_3 xj1_s31 x0 hm hj1_s8 hj1_0_0_l7 hj1_0_0_l8 hj1_0_0_l10 lj1_0_0_l11 lj1_0_0_l12 hj1_1_1_1_0_8_l7 hj1_1_1_1_0_8_l8 hj1_1_1_1_0_8_l10 lj1_1_1_1_0_8_l11 lj1_1_1_1_0_8_l12; unfold m4_j1 at hm
  refine gi [1, 1, 1, 1, 0, 1] hm (fun hm => ?_) fun hm => ?_
  · refine rs [1, 1, 1, 1, 0, 1, 0, 0] [.p 2] [(4, .bool t0_3)] [] ?_
    obtain rfl := Option.some.inj hm
    exact rtp (v := .bool t0_3) [] ⟨rfl, rfl, rfl⟩
  · obtain ⟨tj1_1, htj1_1, hm⟩ := bind_some hm
    refine rg [1, 1, 1, 1, 1, 0] ?_
    refine seg [.l 1] [(33, .agg (cS31 (S31.mk t0_5.1.f0 t0_5.1.f1 t0_5.1.f2 t0_5.1.f3 t0_5.1.f4 (S26.mk (S23.mk t0_5.1.f5.f0.f0 t0_5.1.f5.f0.f1 t0_5.1.f5.f0.f2) t0_5.1.f5.f1) t0_5.1.f6 t0_5.1.f7 t0_5.1.f8 t0_5.1.f9 t0_5.1.f10 t0_5.1.f11) Ah0_7_7 ch0_7_7 Ah0_7_8 ch0_7_8 Ah0_7_10 ch0_7_10).toArray)] [] ?_
    refine g_call0 34 (f15_ok _ _ htj1_1 (kS31_mk (cs := (cS31 (S31.mk t0_5.1.f0 t0_5.1.f1 t0_5.1.f2 t0_5.1.f3 t0_5.1.f4 (S26.mk (S23.mk t0_5.1.f5.f0.f0 t0_5.1.f5.f0.f1 t0_5.1.f5.f0.f2) t0_5.1.f5.f1) t0_5.1.f6 t0_5.1.f7 t0_5.1.f8 t0_5.1.f9 t0_5.1.f10 t0_5.1.f11) Ah0_7_7 ch0_7_7 Ah0_7_8 ch0_7_8 Ah0_7_10 ch0_7_10)) (S31.mk t0_5.1.f0 t0_5.1.f1 t0_5.1.f2 t0_5.1.f3 t0_5.1.f4 (S26.mk (S23.mk t0_5.1.f5.f0.f0 t0_5.1.f5.f0.f1 t0_5.1.f5.f0.f2) t0_5.1.f5.f1) t0_5.1.f6 t0_5.1.f7 t0_5.1.f8 t0_5.1.f9 t0_5.1.f10 t0_5.1.f11) rfl hj1_1_1_1_0_8_l7 hj1_1_1_1_0_8_l8 hj1_1_1_1_0_8_l10 lj1_1_1_1_0_8_l11 lj1_1_1_1_0_8_l12)) ?_
    rintro _ _ _ ⟨rfl, rfl, rfl⟩ -
    refine seg [.p 1] [(11, errV 39 tj1_1)] [] ?_
    refine fin ?_
    refine rg [1, 1, 1, 1, 1, 1, 0, 0] ?_
    refine seg [.p 1, .e 39 tj1_1, .p 1] [(37, .bool ((tj1_1 : Int) != 0))] [] ?_
    refine gs 37 hm (fun hm => ?_) fun hm => ?_
    · refine seg [.p 39] [(76, .bool true)] [] ?_
      refine fin ?_
      exact to [0, 1] (@f4_j2 _ _ _ M b0_1 b0_11 c0_9 ch0_7_10 ch0_7_7 ch0_7_8 chx0_10 chx0_7 chx0_8 A0_8 Ah0_7_10 Ah0_7_7 Ah0_7_8 Ahx0_10 Ahx0_7 Ahx0_8 _ _ _ _ hm hj1_s8 hj1_0_0_l7 hj1_0_0_l8 hj1_0_0_l10 lj1_0_0_l11 lj1_0_0_l12 hj1_1_1_1_0_8_l7 hj1_1_1_1_0_8_l8 hj1_1_1_1_0_8_l10 lj1_1_1_1_0_8_l11 lj1_1_1_1_0_8_l12)
    · refine seg [.p 1, .l 1, .p 1, .l 0, .p 3] [(44, .bool (decide ((t0_5.1.f1 : Int) < x0.f1)))] [] ?_
      refine gs 44 hm (fun hm => ?_) fun hm => ?_
      · refine seg [.p 32] [(76, .bool true)] [] ?_
        refine fin ?_
        exact to [0, 1] (@f4_j2 _ _ _ M b0_1 b0_11 c0_9 ch0_7_10 ch0_7_7 ch0_7_8 chx0_10 chx0_7 chx0_8 A0_8 Ah0_7_10 Ah0_7_7 Ah0_7_8 Ahx0_10 Ahx0_7 Ahx0_8 _ _ _ _ hm hj1_s8 hj1_0_0_l7 hj1_0_0_l8 hj1_0_0_l10 lj1_0_0_l11 lj1_0_0_l12 hj1_1_1_1_0_8_l7 hj1_1_1_1_0_8_l8 hj1_1_1_1_0_8_l10 lj1_1_1_1_0_8_l11 lj1_1_1_1_0_8_l12)
      · refine seg [.p 1, .l 1, .p 1, .l 0, .p 2] [(50, .bool ((t0_5.1.f1 : Int) == x0.f1))] [] ?_
        refine gs 50 hm (fun hm => ?_) fun hm => ?_
        · refine seg [.p 1, .l 0, .p 3] [(55, .bool ((x0.f2 : Int) != 0))] [] ?_
          refine gs 55 hm (fun hm => ?_) fun hm => ?_
          · refine seg [.p 1, .l 1, .p 1, .l 0, .p 4] [(63, .bool ((t0_5.1.f2 : Int) != x0.f2))] [] ?_
            refine gs 63 hm (fun hm => ?_) fun hm => ?_
            · refine seg [.p 13] [(76, .bool true)] [] ?_
              refine fin ?_
              exact to [0, 1] (@f4_j2 _ _ _ M b0_1 b0_11 c0_9 ch0_7_10 ch0_7_7 ch0_7_8 chx0_10 chx0_7 chx0_8 A0_8 Ah0_7_10 Ah0_7_7 Ah0_7_8 Ahx0_10 Ahx0_7 Ahx0_8 _ _ _ _ hm hj1_s8 hj1_0_0_l7 hj1_0_0_l8 hj1_0_0_l10 lj1_0_0_l11 lj1_0_0_l12 hj1_1_1_1_0_8_l7 hj1_1_1_1_0_8_l8 hj1_1_1_1_0_8_l10 lj1_1_1_1_0_8_l11 lj1_1_1_1_0_8_l12)
            · refine seg [.p 1, .l 1, .p 1, .l 0, .p 3] [(70, .bool (decide ((t0_5.1.f6 : Int) < x0.f6)))] [] ?_
              refine gs 70 hm (fun hm => ?_) fun hm => ?_
              · refine seg [.p 6] [(76, .bool true)] [] ?_
                refine fin ?_
                exact to [0, 1] (@f4_j2 _ _ _ M b0_1 b0_11 c0_9 ch0_7_10 ch0_7_7 ch0_7_8 chx0_10 chx0_7 chx0_8 A0_8 Ah0_7_10 Ah0_7_7 Ah0_7_8 Ahx0_10 Ahx0_7 Ahx0_8 _ _ _ _ hm hj1_s8 hj1_0_0_l7 hj1_0_0_l8 hj1_0_0_l10 lj1_0_0_l11 lj1_0_0_l12 hj1_1_1_1_0_8_l7 hj1_1_1_1_0_8_l8 hj1_1_1_1_0_8_l10 lj1_1_1_1_0_8_l11 lj1_1_1_1_0_8_l12)
              · refine seg [.p 1, .l 1, .p 1, .l 0, .p 2] [(76, .bool ((t0_5.1.f0 : Int) != x0.f0))] [] ?_
                refine fin ?_
                exact to [0, 1] (@f4_j2 _ _ _ M b0_1 b0_11 c0_9 ch0_7_10 ch0_7_7 ch0_7_8 chx0_10 chx0_7 chx0_8 A0_8 Ah0_7_10 Ah0_7_7 Ah0_7_8 Ahx0_10 Ahx0_7 Ahx0_8 _ _ _ _ hm hj1_s8 hj1_0_0_l7 hj1_0_0_l8 hj1_0_0_l10 lj1_0_0_l11 lj1_0_0_l12 hj1_1_1_1_0_8_l7 hj1_1_1_1_0_8_l8 hj1_1_1_1_0_8_l10 lj1_1_1_1_0_8_l11 lj1_1_1_1_0_8_l12)
          · refine seg [.p 9, .l 1, .p 1, .l 0, .p 3] [(70, .bool (decide ((t0_5.1.f6 : Int) < x0.f6)))] [] ?_
            refine gs 70 hm (fun hm => ?_) fun hm => ?_
            · refine seg [.p 6] [(76, .bool true)] [] ?_
              refine fin ?_
              exact to [0, 1] (@f4_j2 _ _ _ M b0_1 b0_11 c0_9 ch0_7_10 ch0_7_7 ch0_7_8 chx0_10 chx0_7 chx0_8 A0_8 Ah0_7_10 Ah0_7_7 Ah0_7_8 Ahx0_10 Ahx0_7 Ahx0_8 _ _ _ _ hm hj1_s8 hj1_0_0_l7 hj1_0_0_l8 hj1_0_0_l10 lj1_0_0_l11 lj1_0_0_l12 hj1_1_1_1_0_8_l7 hj1_1_1_1_0_8_l8 hj1_1_1_1_0_8_l10 lj1_1_1_1_0_8_l11 lj1_1_1_1_0_8_l12)
            · refine seg [.p 1, .l 1, .p 1, .l 0, .p 2] [(76, .bool ((t0_5.1.f0 : Int) != x0.f0))] [] ?_
              refine fin ?_
              exact to [0, 1] (@f4_j2 _ _ _ M b0_1 b0_11 c0_9 ch0_7_10 ch0_7_7 ch0_7_8 chx0_10 chx0_7 chx0_8 A0_8 Ah0_7_10 Ah0_7_7 Ah0_7_8 Ahx0_10 Ahx0_7 Ahx0_8 _ _ _ _ hm hj1_s8 hj1_0_0_l7 hj1_0_0_l8 hj1_0_0_l10 lj1_0_0_l11 lj1_0_0_l12 hj1_1_1_1_0_8_l7 hj1_1_1_1_0_8_l8 hj1_1_1_1_0_8_l10 lj1_1_1_1_0_8_l11 lj1_1_1_1_0_8_l12)
        · refine seg [.p 14, .l 1, .p 1, .l 0, .p 3] [(70, .bool (decide ((t0_5.1.f6 : Int) < x0.f6)))] [] ?_
          refine gs 70 hm (fun hm => ?_) fun hm => ?_
          · refine seg [.p 6] [(76, .bool true)] [] ?_
            refine fin ?_
            exact to [0, 1] (@f4_j2 _ _ _ M b0_1 b0_11 c0_9 ch0_7_10 ch0_7_7 ch0_7_8 chx0_10 chx0_7 chx0_8 A0_8 Ah0_7_10 Ah0_7_7 Ah0_7_8 Ahx0_10 Ahx0_7 Ahx0_8 _ _ _ _ hm hj1_s8 hj1_0_0_l7 hj1_0_0_l8 hj1_0_0_l10 lj1_0_0_l11 lj1_0_0_l12 hj1_1_1_1_0_8_l7 hj1_1_1_1_0_8_l8 hj1_1_1_1_0_8_l10 lj1_1_1_1_0_8_l11 lj1_1_1_1_0_8_l12)
          · refine seg [.p 1, .l 1, .p 1, .l 0, .p 2] [(76, .bool ((t0_5.1.f0 : Int) != x0.f0))] [] ?_
            refine fin ?_
            exact to [0, 1] (@f4_j2 _ _ _ M b0_1 b0_11 c0_9 ch0_7_10 ch0_7_7 ch0_7_8 chx0_10 chx0_7 chx0_8 A0_8 Ah0_7_10 Ah0_7_7 Ah0_7_8 Ahx0_10 Ahx0_7 Ahx0_8 _ _ _ _ hm hj1_s8 hj1_0_0_l7 hj1_0_0_l8 hj1_0_0_l10 lj1_0_0_l11 lj1_0_0_l12 hj1_1_1_1_0_8_l7 hj1_1_1_1_0_8_l8 hj1_1_1_1_0_8_l10 lj1_1_1_1_0_8_l11 lj1_1_1_1_0_8_l12)
theorem f4_ok {M : Mem} {csx0 : List Value} {csx1 : List Value} (x0 : S31) (x1 : S48) (r : Bool) (hm : m4 x0 x1 = some r) (hx0 : kS31.rep M csx0 x0) (hx1 : kS48.rep M csx1 x1) : FnOk Try.prog 4 [.agg csx0.toArray, .agg csx1.toArray] M [] (R4 M r) := by
  obtain ⟨Ahx0_7, chx0_7, Ahx0_8, chx0_8, Ahx0_10, chx0_10, rfl, hx0_7, hx0_8, hx0_10, hx0_11, hx0_12⟩ := kS31_open hx0
  obtain ⟨Ahx1_11, chx1_11, Ahx1_12, chx1_12, Ahx1_14, chx1_14, Ahx1_16, chx1_16, Ahx1_17, chx1_17, Ahx1_18, chx1_18, Ahx1_20, chx1_20, Ahx1_21, chx1_21, rfl, hx1_11, hx1_12, hx1_14, hx1_16, hx1_17, hx1_18, hx1_20, hx1_21, hx1_19⟩ := kS48_open hx1
  refine intro_ (c := c4) 139 Try.func4 fun w => ?_
  unfold m4 at hm
  refine rg [0] ?_
  refine g_bx 2 32 (.agg (cS31 x0 Ahx0_7 chx0_7 Ahx0_8 chx0_8 Ahx0_10 chx0_10).toArray) fun b0_1 => ?_
  refine g_bx 3 49 (.agg (cS48 x1 Ahx1_11 chx1_11 Ahx1_12 chx1_12 Ahx1_14 chx1_14 Ahx1_16 chx1_16 Ahx1_17 chx1_17 Ahx1_18 chx1_18 Ahx1_20 chx1_20 Ahx1_21 chx1_21).toArray) fun b0_2 => ?_
  refine seg [.p 1] [] [] ?_
  refine fin ?_
  obtain ⟨t0_3, ht0_3, hm⟩ := bind_some hm
  refine rg [1, 0] ?_
  refine g_call0 14 (f8_ok (M := M) t0_3 ht0_3) ?_
  rintro _ _ _ ⟨rfl, rfl, rfl⟩ -
  refine seg [.p 1] [(5, .bool t0_3)] [] ?_
  refine fin ?_
  obtain ⟨t0_4, ht0_4, hm⟩ := bind_some hm
  refine rg [1, 1, 0] ?_
  refine seg [.l 0, .l 1] [(15, .agg (cS31 x0 Ahx0_7 chx0_7 Ahx0_8 chx0_8 Ahx0_10 chx0_10).toArray), (16, .agg (cS48 x1 Ahx1_11 chx1_11 Ahx1_12 chx1_12 Ahx1_14 chx1_14 Ahx1_16 chx1_16 Ahx1_17 chx1_17 Ahx1_18 chx1_18 Ahx1_20 chx1_20 Ahx1_21 chx1_21).toArray)] [] ?_
  refine g_call0 17 (f13_ok _ _ _ ht0_4 (kS31_mk (cs := (cS31 x0 Ahx0_7 chx0_7 Ahx0_8 chx0_8 Ahx0_10 chx0_10)) x0 rfl hx0_7 hx0_8 hx0_10 hx0_11 hx0_12) (kS48_mk (cs := (cS48 x1 Ahx1_11 chx1_11 Ahx1_12 chx1_12 Ahx1_14 chx1_14 Ahx1_16 chx1_16 Ahx1_17 chx1_17 Ahx1_18 chx1_18 Ahx1_20 chx1_20 Ahx1_21 chx1_21)) x1 rfl hx1_11 hx1_12 hx1_14 hx1_16 hx1_17 hx1_18 hx1_20 hx1_21 hx1_19)) ?_
  rintro _ _ _ ⟨rfl, rfl, rfl⟩ -
  refine seg [.p 1] [(6, .bool t0_4)] [] ?_
  refine fin ?_
  obtain ⟨t0_5, ht0_5, hm⟩ := bind_some hm
  refine rg [1, 1, 1, 0] ?_
  refine seg [.l 0, .l 1] [(19, .agg (cS31 x0 Ahx0_7 chx0_7 Ahx0_8 chx0_8 Ahx0_10 chx0_10).toArray), (20, .agg (cS48 x1 Ahx1_11 chx1_11 Ahx1_12 chx1_12 Ahx1_14 chx1_14 Ahx1_16 chx1_16 Ahx1_17 chx1_17 Ahx1_18 chx1_18 Ahx1_20 chx1_20 Ahx1_21 chx1_21).toArray)] [] ?_
  refine g_call0 21 (f14_ok _ _ _ ht0_5 (kS31_mk (cs := (cS31 x0 Ahx0_7 chx0_7 Ahx0_8 chx0_8 Ahx0_10 chx0_10)) x0 rfl hx0_7 hx0_8 hx0_10 hx0_11 hx0_12) (kS48_mk (cs := (cS48 x1 Ahx1_11 chx1_11 Ahx1_12 chx1_12 Ahx1_14 chx1_14 Ahx1_16 chx1_16 Ahx1_17 chx1_17 Ahx1_18 chx1_18 Ahx1_20 chx1_20 Ahx1_21 chx1_21)) x1 rfl hx1_11 hx1_12 hx1_14 hx1_16 hx1_17 hx1_18 hx1_20 hx1_21 hx1_19)) ?_
  rintro _ M0_10 _ ⟨cs0_6, A0_8, c0_9, rfl, rfl, h0_7, h0_10⟩ hM0_10
  obtain ⟨Ah0_7_7, ch0_7_7, Ah0_7_8, ch0_7_8, Ah0_7_10, ch0_7_10, rfl, h0_7_7, h0_7_8, h0_7_10, h0_7_11, h0_7_12⟩ := kS31_open h0_7
  refine seg [.p 5] [(22, .agg (cS31 (S31.mk t0_5.1.f0 t0_5.1.f1 t0_5.1.f2 t0_5.1.f3 t0_5.1.f4 (S26.mk (S23.mk t0_5.1.f5.f0.f0 t0_5.1.f5.f0.f1 t0_5.1.f5.f0.f2) t0_5.1.f5.f1) t0_5.1.f6 t0_5.1.f7 t0_5.1.f8 t0_5.1.f9 t0_5.1.f10 t0_5.1.f11) Ah0_7_7 ch0_7_7 Ah0_7_8 ch0_7_8 Ah0_7_10 ch0_7_10).toArray), (23, .slice A0_8 t0_5.2.1.length c0_9), (24, .int .i64 t0_5.2.2.1), (25, errV 39 t0_5.2.2.2)] [] ?_
  refine g_al 7 32 (cS31 (S31.mk 0 0 0 0 0 (S26.mk (S23.mk 0 0 []) []) 0 [] [0, 0, 0, 0, 0, 0, 0, 0] [0, 0, 0, 0, 0, 0, 0, 0] 0 0) none 0 none 0 none 0) fun b0_11 => ?_
  refine seg [.s 2, .p 3] [(8, .slice A0_8 t0_5.2.1.length c0_9), (10, errV 39 t0_5.2.2.2)] [(2, .blk b0_11 (cS31 (S31.mk t0_5.1.f0 t0_5.1.f1 t0_5.1.f2 t0_5.1.f3 t0_5.1.f4 (S26.mk (S23.mk t0_5.1.f5.f0.f0 t0_5.1.f5.f0.f1 t0_5.1.f5.f0.f2) t0_5.1.f5.f1) t0_5.1.f6 t0_5.1.f7 t0_5.1.f8 t0_5.1.f9 t0_5.1.f10 t0_5.1.f11) Ah0_7_7 ch0_7_7 Ah0_7_8 ch0_7_8 Ah0_7_10 ch0_7_10) 32)] ?_
  refine fin ?_
  refine rg [1, 1, 1, 1, 0, 0] ?_
  refine seg [.p 3] [(28, .bool (!t0_4))] [] ?_
  refine gs 28 hm (fun hm => ?_) fun hm => ?_
  · refine seg [.p 3] [(31, .bool true)] [] ?_
    refine fin ?_
    replace hx0_7 := (hx0_7.mono hM0_10)
    replace hx0_8 := (hx0_8.mono hM0_10)
    replace hx0_10 := (hx0_10.mono hM0_10)
    exact to [0, 2] (@f4_j1 _ _ _ M0_10 b0_1 b0_11 c0_9 ch0_7_10 ch0_7_7 ch0_7_8 chx0_10 chx0_7 chx0_8 A0_8 Ah0_7_10 Ah0_7_7 Ah0_7_8 Ahx0_10 Ahx0_7 Ahx0_8 _ _ _ _ hm h0_10 hx0_7 hx0_8 hx0_10 hx0_11 hx0_12 h0_7_7 h0_7_8 h0_7_10 h0_7_11 h0_7_12)
  · refine seg [.p 1, .e 39 t0_5.2.2.2, .p 1] [(31, .bool ((t0_5.2.2.2 : Int) != 0))] [] ?_
    refine fin ?_
    replace hx0_7 := (hx0_7.mono hM0_10)
    replace hx0_8 := (hx0_8.mono hM0_10)
    replace hx0_10 := (hx0_10.mono hM0_10)
    exact to [0, 2] (@f4_j1 _ _ _ M0_10 b0_1 b0_11 c0_9 ch0_7_10 ch0_7_7 ch0_7_8 chx0_10 chx0_7 chx0_8 A0_8 Ah0_7_10 Ah0_7_7 Ah0_7_8 Ahx0_10 Ahx0_7 Ahx0_8 _ _ _ _ hm h0_10 hx0_7 hx0_8 hx0_10 hx0_11 hx0_12 h0_7_7 h0_7_8 h0_7_10 h0_7_11 h0_7_12)

end Go.Proofs.Ythpdomeciaafjaa
