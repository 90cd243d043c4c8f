/- RaftNew: for every input the law answers true, and its arguments read behind the call as before. No condition. -/
import Derived.Test.YthpdomeciaafjaaRows
import Derived.Test.YthpdomeciaafjaaRWC
import Derived.Test.YthpdomeciaafjaaRPH
import Derived.Test.YthpdomeciaafjaaFxW
import Derived.Handed
import Derived.WalkKit
import Derived.ProofKit
import Derived.OpenShut
import Derived.RowKit
import Derived.JoinedOf
set_option maxRecDepth 100000
set_option linter.unusedVariables false
namespace Go.Proofs.Ythpdomeciaafjaa
open Go.Fx

theorem op24 {W : World} : Opens Try.prog W 24 kS23 := by
  refine ⟨by kernel_rfl, fun H enc base spare held n cs x h => ?_⟩
  obtain ⟨hl, hf⟩ := sopen (by kernel_rfl) h
  obtain ⟨y0, h0⟩ := hf 0 3 0 (d := (kint .i64)) (opens_int (by kernel_rfl) (by kernel_rfl)) (by kernel_rfl)
  have e0 := h0
  obtain ⟨y1, h1⟩ := hf 1 3 1 (d := (kint .i64)) (opens_int (by kernel_rfl) (by kernel_rfl)) (by kernel_rfl)
  have e1 := h1
  obtain ⟨y2, h2⟩ := hf 2 22 2 (d := (kslice (kint .i64))) (opens_slice (e := 3) (by kernel_rfl) (by kernel_rfl) (by decide) (opens_int (by kernel_rfl) (by kernel_rfl))) (by kernel_rfl)
  obtain ⟨A2, c2, e2, g2⟩ := h2
  exact ⟨⟨y0, y1, y2⟩, kS23_mk _ ((glue e0 (glue e1 (glue e2 (glueEnd hl)))).trans (by kernel_rfl)) g2⟩
theorem op81 {W : World} : Opens Try.prog W 81 kS80 := by
  refine ⟨by kernel_rfl, fun H enc base spare held n cs x h => ?_⟩
  obtain ⟨hl, hf⟩ := sopen (by kernel_rfl) h
  obtain ⟨y0, h0⟩ := hf 0 3 0 (d := (kint .i64)) (opens_int (by kernel_rfl) (by kernel_rfl)) (by kernel_rfl)
  have e0 := h0
  obtain ⟨y1, h1⟩ := hf 1 3 1 (d := (kint .i64)) (opens_int (by kernel_rfl) (by kernel_rfl)) (by kernel_rfl)
  have e1 := h1
  obtain ⟨y2, h2⟩ := hf 2 42 2 (d := (kslice (kint .u8))) (opens_slice (e := 5) (by kernel_rfl) (by kernel_rfl) (by decide) (opens_int (by kernel_rfl) (by kernel_rfl))) (by kernel_rfl)
  obtain ⟨A2, c2, e2, g2⟩ := h2
  exact ⟨⟨y0, y1, y2⟩, kS80_mk _ ((glue e0 (glue e1 (glue e2 (glueEnd hl)))).trans (by kernel_rfl)) g2⟩
theorem op27 {W : World} : Opens Try.prog W 27 kS26 := by
  refine ⟨by kernel_rfl, fun H enc base spare held n cs x h => ?_⟩
  obtain ⟨hl, hf⟩ := sopen (by kernel_rfl) h
  obtain ⟨y0, h0⟩ := hf 0 24 0 (d := kS23) op24 (by kernel_rfl)
  obtain ⟨A0_2, c0_2, e0, g0_2⟩ := kS23_open h0
  obtain ⟨y1, h1⟩ := hf 1 25 3 (d := (kslice kS80)) (opens_slice (e := 81) (by kernel_rfl) (by kernel_rfl) (by decide) op81) (by kernel_rfl)
  obtain ⟨A1, c1, e1, g1⟩ := h1
  exact ⟨⟨y0, y1⟩, kS26_mk _ ((glue e0 (glue e1 (glueEnd hl))).trans (by kernel_rfl)) g0_2 g1⟩
namespace rowRaftNew
open Go.ChangeShapes Go.WideShapes Go.ChangeAt Go.RowKit
theorem own : ownKnob Try.prog.godebug = none := by kernel_rfl
theorem kids : Kids Try.prog (· < Try.prog.types.size) := kids_rows (by kernel_rfl) (by kernel_rfl)
theorem contract (H : Type) (enc : TypeId × Value → H) (W : World) (base : Nat) (args : Array Value) (ds gs : List (DataW H)) (before : List MemPlace)
    (hval : ∀ (j : Nat) t v, Try.f3.params[j]? = some t → args[j]? = some v → Value.okWide Try.prog W .any base t v)
    (hW : DataW.Whole enc Try.prog Try.f3.params.toList Rows.raftNewSpec.vars false W args.toList ds gs before) :
    Calls Try.prog 3 args W fun e W' => ∃ v, e = .returned v ∧ Rows.raftNewSpec.post enc Try.prog Try.f3 false true false false W args v W' := by
  have hW' := hW
  obtain ⟨p, q, hA0, hV, rfl, hfz, hnd⟩ := hW
  have hA : DataW.TrodAll enc Try.prog W 0 (fun _ => true) true Try.f3.params.toList args.toList ds p := hA0
  rw [Try.params3] at hA hval
  obtain ⟨v0, vs0, d0, ds0, p0, q0, hargs, rfl, rfl, h0, r0⟩ := trodAll_cons hA
  obtain ⟨v1, vs1, d1, ds1, p1, q1, rfl, rfl, rfl, h1, r1⟩ := trodAll_cons r0
  obtain ⟨v2, vs2, d2, ds2, p2, q2, rfl, rfl, rfl, h2, r2⟩ := trodAll_cons r1
  obtain ⟨v3, vs3, d3, ds3, p3, q3, rfl, rfl, rfl, h3, r3⟩ := trodAll_cons r2
  obtain ⟨v4, vs4, d4, ds4, p4, q4, rfl, rfl, rfl, h4, r4⟩ := trodAll_cons r3
  obtain ⟨rfl, rfl, rfl⟩ := trodAll_nil r4
  obtain rfl : args = #[v0, v1, v2, v3, v4] := by cases args; simp_all
  obtain ⟨rfl, rfl⟩ := trodVars_none hV
  clear hA0
  obtain ⟨x0, rfl, rfl, rfl, w0⟩ := open_int Try.underlying3 (hval 0 3 v0 rfl rfl) h0
  obtain ⟨x1, rfl, rfl, rfl, w1⟩ := open_int Try.underlying3 (hval 1 3 v1 rfl rfl) h1
  obtain ⟨x2, rfl, rfl, rfl, w2⟩ := open_int Try.underlying3 (hval 2 3 v2 rfl rfl) h2
  obtain ⟨cs3, rfl, -⟩ := okWide_struct (fs := _) (Try.underlying27) (hval 3 27 v3 rfl rfl)
  obtain ⟨m3, h3'⟩ := h3
  obtain ⟨x3, hx3⟩ := (op27 (W := W)).2 _ _ _ _ _ _ _ _ h3'
  obtain ⟨x4, rfl, rfl, rfl, w4⟩ := open_int Try.underlying3 (hval 4 3 v4 rfl rfl) h4
  simp only [List.append_nil] at hW'
  have hc := calls_of (f3_ok (M := memOf W) x0 x1 x2 x3 x4 true (raftNew_true x0 x1 x2 x3 x4) hx3)
  refine hc.mono fun e W' hx => ?_
  obtain ⟨v, M', H', rfl, hR, hkept⟩ := hx
  obtain ⟨rfl, -⟩ := hR
  exact ⟨_, rfl, post_kept (tb := 4) kids (fun ht hu => slicesOk_spec (by kernel_rfl) ht hu) hW' (by intro t ht; revert t; decide +kernel) rfl rfl hkept (by kernel_rfl) Try.underlying4⟩
set_option maxRecDepth 100000 in
theorem lifted (os : Os) (started : os.Started) (H : Type) (enc : TypeId × Value → H) :
    ReturnsInHanded {} Try.checked os 3 .any (Rows.raftNewSpec.pre6 enc Try.prog Try.f3 Rows.raftNewRow.domain false) (Rows.raftNewSpec.post enc Try.prog Try.f3 false true false false) := by
  refine returnsInHanded_of_change (C := Try.checked) own started (by kernel_rfl) Try.func3
    (ChangeSpec.witness6 (enc := enc) (C := Try.checked) false ⟨#[], #[.int .i64 0, .int .i64 0, .int .i64 0, .agg #[.int .i64 0, .int .i64 0, .slice none 0 0, .slice none 0 0], .int .i64 0], []⟩ 12 (by kernel_rfl) (by kernel_rfl) (by kernel_rfl) (by kernel_rfl)) ?_
  intro W base args ds gs before hval hW _ _
  exact contract H enc W base args ds gs before hval hW
theorem over : Rows.raftNewRow.holds Try.pinned (OpenSpec.ofChange Rows.raftNewSpec) :=
  OpenClaim.holds_of_wide 3 Try.f3 rfl rfl rfl rfl rfl rfl rfl ⟨rfl, rfl, rfl, rfl, rfl⟩ rfl rfl rfl rfl rfl (by kernel_rfl) Try.func3 (by kernel_rfl)
    (of_decide_eq_true (by kernel_rfl)) (by unfold Func.isWrapper; first | (rw [if_pos (by decide +kernel)]; kernel_rfl) | (rw [if_neg (by decide +kernel)]; exact ⟨rfl, rfl⟩))
    (fun os started H enc _ => lifted os started H enc)
end rowRaftNew
/-- THE STATEMENT. -/
theorem raftNew_holds : Rows.RaftNewSaid := rowRaftNew.over
end Go.Proofs.Ythpdomeciaafjaa
