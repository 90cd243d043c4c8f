/- RaftSound: for every input the law answers true, and its arguments read behind the call as before. No condition. -/
import Derived.Test.YthpdomeciaafjaaRows
import Derived.Test.YthpdomeciaafjaaRWC
import Derived.Test.YthpdomeciaafjaaRQM
import Derived.Test.YthpdomeciaafjaaFxX
import Derived.Handed
import Derived.WalkKit
import Derived.ProofKit
import Derived.OpenShut
import Derived.RowKit
import Derived.JoinedOf
set_option maxRecDepth 100000
set_option linter.unusedVariables false
namespace Go.Proofs.Ythpdomeciaafjaa
open Go.Fx

mutual
  theorem bk {H : Type} : ∀ d : DataW H, Rows.uptoBulk d = bulk d
    | .lit l => by cases l <;> simp only [Rows.uptoBulk, bulk]
    | .nil => by simp only [Rows.uptoBulk, bulk]
    | .ptr d => by simp only [Rows.uptoBulk, bulk, bk d]
    | .slice e r => by simp only [Rows.uptoBulk, bulk, bkAll e, bkAll r]
    | .agg p => by simp only [Rows.uptoBulk, bulk, bkAll p]
    | .iface _ d => by simp only [Rows.uptoBulk, bulk, bk d]
    | .map es => by simp only [Rows.uptoBulk, bulk, bkEntries es]
    | .held _ => by simp only [Rows.uptoBulk, bulk]
  theorem bkAll {H : Type} : ∀ l : List (DataW H), Rows.uptoBulkAll l = bulkAll l
    | [] => by simp only [Rows.uptoBulkAll, bulkAll]
    | d :: r => by simp only [Rows.uptoBulkAll, bulkAll, bk d, bkAll r]
  theorem bkEntries {H : Type} : ∀ l : List (Lit × DataW H), Rows.uptoBulkEntries l = bulkEntries l
    | [] => by simp only [Rows.uptoBulkEntries, bulkEntries]
    | x :: r => by simp only [Rows.uptoBulkEntries, bulkEntries, bkEntry x, bkEntries r]
  theorem bkEntry {H : Type} : ∀ x : Lit × DataW H, Rows.uptoBulkEntry x = bulkEntry x
    | (l, d) => by cases l <;> simp only [Rows.uptoBulkEntry, bulkEntry, bk d]
  end
def bS23 (n : Nat) (y : S23) : Prop := (lenB anyB) n y.f2
theorem op24 {W : World} : OpensB Try.prog W 24 kS23 bS23 := by
  refine ⟨by kernel_rfl, fun k n y hk h => ?_, fun H enc base spare held n cs x h => ?_⟩
  · have b2 := h; exact ((opensB_slice (e := 3) (B := anyB) (by kernel_rfl) (by kernel_rfl) (by decide) (opensB_of (opens_int (by kernel_rfl) (by kernel_rfl)))) : OpensB Try.prog W 22 (kslice (kint .i64)) (lenB anyB)).2.1 _ _ _ hk b2
  obtain ⟨hl, hf⟩ := sopenB (by kernel_rfl) h
  obtain ⟨y0, h0, b0⟩ := hf 0 3 0 (d := (kint .i64)) (B := anyB) (opensB_of (opens_int (by kernel_rfl) (by kernel_rfl))) (by kernel_rfl)
  have e0 := h0
  obtain ⟨y1, h1, b1⟩ := hf 1 3 1 (d := (kint .i64)) (B := anyB) (opensB_of (opens_int (by kernel_rfl) (by kernel_rfl))) (by kernel_rfl)
  have e1 := h1
  obtain ⟨y2, h2, b2⟩ := hf 2 22 2 (d := (kslice (kint .i64))) (B := (lenB anyB)) (opensB_slice (e := 3) (B := anyB) (by kernel_rfl) (by kernel_rfl) (by decide) (opensB_of (opens_int (by kernel_rfl) (by kernel_rfl)))) (by kernel_rfl)
  obtain ⟨A2, c2, e2, g2⟩ := h2
  exact ⟨⟨y0, y1, y2⟩, kS23_mk _ ((glue e0 (glue e1 (glue e2 (glueEnd hl)))).trans (by kernel_rfl)) g2, b2⟩
def bS80 (n : Nat) (y : S80) : Prop := (lenB anyB) n y.f2
theorem op81 {W : World} : OpensB Try.prog W 81 kS80 bS80 := by
  refine ⟨by kernel_rfl, fun k n y hk h => ?_, fun H enc base spare held n cs x h => ?_⟩
  · have b2 := h; exact ((opensB_slice (e := 5) (B := anyB) (by kernel_rfl) (by kernel_rfl) (by decide) (opensB_of (opens_int (by kernel_rfl) (by kernel_rfl)))) : OpensB Try.prog W 42 (kslice (kint .u8)) (lenB anyB)).2.1 _ _ _ hk b2
  obtain ⟨hl, hf⟩ := sopenB (by kernel_rfl) h
  obtain ⟨y0, h0, b0⟩ := hf 0 3 0 (d := (kint .i64)) (B := anyB) (opensB_of (opens_int (by kernel_rfl) (by kernel_rfl))) (by kernel_rfl)
  have e0 := h0
  obtain ⟨y1, h1, b1⟩ := hf 1 3 1 (d := (kint .i64)) (B := anyB) (opensB_of (opens_int (by kernel_rfl) (by kernel_rfl))) (by kernel_rfl)
  have e1 := h1
  obtain ⟨y2, h2, b2⟩ := hf 2 42 2 (d := (kslice (kint .u8))) (B := (lenB anyB)) (opensB_slice (e := 5) (B := anyB) (by kernel_rfl) (by kernel_rfl) (by decide) (opensB_of (opens_int (by kernel_rfl) (by kernel_rfl)))) (by kernel_rfl)
  obtain ⟨A2, c2, e2, g2⟩ := h2
  exact ⟨⟨y0, y1, y2⟩, kS80_mk _ ((glue e0 (glue e1 (glue e2 (glueEnd hl)))).trans (by kernel_rfl)) g2, b2⟩
def bS26 (n : Nat) (y : S26) : Prop := bS23 n y.f0 ∧ (lenB bS80) n y.f1
theorem op27 {W : World} : OpensB Try.prog W 27 kS26 bS26 := by
  refine ⟨by kernel_rfl, fun k n y hk h => ?_, fun H enc base spare held n cs x h => ?_⟩
  · obtain ⟨b0, b1⟩ := h; exact ⟨(op24 : OpensB Try.prog W 24 kS23 bS23).2.1 _ _ _ hk b0, ((opensB_slice (e := 81) (B := bS80) (by kernel_rfl) (by kernel_rfl) (by decide) op81) : OpensB Try.prog W 25 (kslice kS80) (lenB bS80)).2.1 _ _ _ hk b1⟩
  obtain ⟨hl, hf⟩ := sopenB (by kernel_rfl) h
  obtain ⟨y0, h0, b0⟩ := hf 0 24 0 (d := kS23) (B := bS23) op24 (by kernel_rfl)
  obtain ⟨A0_2, c0_2, e0, g0_2⟩ := kS23_open h0
  obtain ⟨y1, h1, b1⟩ := hf 1 25 3 (d := (kslice kS80)) (B := (lenB bS80)) (opensB_slice (e := 81) (B := bS80) (by kernel_rfl) (by kernel_rfl) (by decide) op81) (by kernel_rfl)
  obtain ⟨A1, c1, e1, g1⟩ := h1
  exact ⟨⟨y0, y1⟩, kS26_mk _ ((glue e0 (glue e1 (glueEnd hl))).trans (by kernel_rfl)) g0_2 g1, ⟨b0, b1⟩⟩
def bS31 (n : Nat) (y : S31) : Prop := bS26 n y.f5 ∧ (lenB anyB) n y.f7
theorem op32 {W : World} : OpensB Try.prog W 32 kS31 bS31 := by
  refine ⟨by kernel_rfl, fun k n y hk h => ?_, fun H enc base spare held n cs x h => ?_⟩
  · obtain ⟨b5, b7⟩ := h; exact ⟨(op27 : OpensB Try.prog W 27 kS26 bS26).2.1 _ _ _ hk b5, ((opensB_slice (e := 3) (B := anyB) (by kernel_rfl) (by kernel_rfl) (by decide) (opensB_of (opens_int (by kernel_rfl) (by kernel_rfl)))) : OpensB Try.prog W 22 (kslice (kint .i64)) (lenB anyB)).2.1 _ _ _ hk b7⟩
  obtain ⟨hl, hf⟩ := sopenB (by kernel_rfl) h
  obtain ⟨y0, h0, b0⟩ := hf 0 3 0 (d := (kint .i64)) (B := anyB) (opensB_of (opens_int (by kernel_rfl) (by kernel_rfl))) (by kernel_rfl)
  have e0 := h0
  obtain ⟨y1, h1, b1⟩ := hf 1 3 1 (d := (kint .i64)) (B := anyB) (opensB_of (opens_int (by kernel_rfl) (by kernel_rfl))) (by kernel_rfl)
  have e1 := h1
  obtain ⟨y2, h2, b2⟩ := hf 2 3 2 (d := (kint .i64)) (B := anyB) (opensB_of (opens_int (by kernel_rfl) (by kernel_rfl))) (by kernel_rfl)
  have e2 := h2
  obtain ⟨y3, h3, b3⟩ := hf 3 3 3 (d := (kint .i64)) (B := anyB) (opensB_of (opens_int (by kernel_rfl) (by kernel_rfl))) (by kernel_rfl)
  have e3 := h3
  obtain ⟨y4, h4, b4⟩ := hf 4 3 4 (d := (kint .i64)) (B := anyB) (opensB_of (opens_int (by kernel_rfl) (by kernel_rfl))) (by kernel_rfl)
  have e4 := h4
  obtain ⟨y5, h5, b5⟩ := hf 5 27 5 (d := kS26) (B := bS26) op27 (by kernel_rfl)
  obtain ⟨A5_2, c5_2, A5_3, c5_3, e5, g5_2, g5_3⟩ := kS26_open h5
  obtain ⟨y6, h6, b6⟩ := hf 6 3 9 (d := (kint .i64)) (B := anyB) (opensB_of (opens_int (by kernel_rfl) (by kernel_rfl))) (by kernel_rfl)
  have e6 := h6
  obtain ⟨y7, h7, b7⟩ := hf 7 22 10 (d := (kslice (kint .i64))) (B := (lenB anyB)) (opensB_slice (e := 3) (B := anyB) (by kernel_rfl) (by kernel_rfl) (by decide) (opensB_of (opens_int (by kernel_rfl) (by kernel_rfl)))) (by kernel_rfl)
  obtain ⟨A7, c7, e7, g7⟩ := h7
  obtain ⟨y8, h8, b8⟩ := hf 8 30 11 (d := (karr 8 .i64)) (B := anyB) (opensB_of (opens_arr (e := 3) (by kernel_rfl) (by kernel_rfl) (by kernel_rfl) (by kernel_rfl))) (by kernel_rfl)
  obtain ⟨e8, k8⟩ := h8
  obtain ⟨y9, h9, b9⟩ := hf 9 30 19 (d := (karr 8 .i64)) (B := anyB) (opensB_of (opens_arr (e := 3) (by kernel_rfl) (by kernel_rfl) (by kernel_rfl) (by kernel_rfl))) (by kernel_rfl)
  obtain ⟨e9, k9⟩ := h9
  obtain ⟨y10, h10, b10⟩ := hf 10 3 27 (d := (kint .i64)) (B := anyB) (opensB_of (opens_int (by kernel_rfl) (by kernel_rfl))) (by kernel_rfl)
  have e10 := h10
  obtain ⟨y11, h11, b11⟩ := hf 11 3 28 (d := (kint .i64)) (B := anyB) (opensB_of (opens_int (by kernel_rfl) (by kernel_rfl))) (by kernel_rfl)
  have e11 := h11
  exact ⟨⟨y0, y1, y2, y3, y4, y5, y6, y7, y8, y9, y10, y11⟩, kS31_mk _ ((glue e0 (glue e1 (glue e2 (glue e3 (glue e4 (glue e5 (glue e6 (glue e7 (glue e8 (glue e9 (glue e10 (glue e11 (glueEnd hl))))))))))))).trans (by kernel_rfl)) g5_2 g5_3 g7 k8 k9, ⟨b5, b7⟩⟩
def bS44 (n : Nat) (y : S44) : Prop := (lenB anyB) n y.f1 ∧ (lenB anyB) n y.f2 ∧ (lenB anyB) n y.f3
theorem op45 {W : World} : OpensB Try.prog W 45 kS44 bS44 := by
  refine ⟨by kernel_rfl, fun k n y hk h => ?_, fun H enc base spare held n cs x h => ?_⟩
  · obtain ⟨b1, b2, b3⟩ := h; exact ⟨((opensB_slice (e := 5) (B := anyB) (by kernel_rfl) (by kernel_rfl) (by decide) (opensB_of (opens_int (by kernel_rfl) (by kernel_rfl)))) : OpensB Try.prog W 42 (kslice (kint .u8)) (lenB anyB)).2.1 _ _ _ hk b1, ((opensB_slice (e := 5) (B := anyB) (by kernel_rfl) (by kernel_rfl) (by decide) (opensB_of (opens_int (by kernel_rfl) (by kernel_rfl)))) : OpensB Try.prog W 42 (kslice (kint .u8)) (lenB anyB)).2.1 _ _ _ hk b2, ((opensB_slice (e := 5) (B := anyB) (by kernel_rfl) (by kernel_rfl) (by decide) (opensB_of (opens_int (by kernel_rfl) (by kernel_rfl)))) : OpensB Try.prog W 42 (kslice (kint .u8)) (lenB anyB)).2.1 _ _ _ hk b3⟩
  obtain ⟨hl, hf⟩ := sopenB (by kernel_rfl) h
  obtain ⟨y0, h0, b0⟩ := hf 0 3 0 (d := (kint .i64)) (B := anyB) (opensB_of (opens_int (by kernel_rfl) (by kernel_rfl))) (by kernel_rfl)
  have e0 := h0
  obtain ⟨y1, h1, b1⟩ := hf 1 42 1 (d := (kslice (kint .u8))) (B := (lenB anyB)) (opensB_slice (e := 5) (B := anyB) (by kernel_rfl) (by kernel_rfl) (by decide) (opensB_of (opens_int (by kernel_rfl) (by kernel_rfl)))) (by kernel_rfl)
  obtain ⟨A1, c1, e1, g1⟩ := h1
  obtain ⟨y2, h2, b2⟩ := hf 2 42 2 (d := (kslice (kint .u8))) (B := (lenB anyB)) (opensB_slice (e := 5) (B := anyB) (by kernel_rfl) (by kernel_rfl) (by decide) (opensB_of (opens_int (by kernel_rfl) (by kernel_rfl)))) (by kernel_rfl)
  obtain ⟨A2, c2, e2, g2⟩ := h2
  obtain ⟨y3, h3, b3⟩ := hf 3 42 3 (d := (kslice (kint .u8))) (B := (lenB anyB)) (opensB_slice (e := 5) (B := anyB) (by kernel_rfl) (by kernel_rfl) (by decide) (opensB_of (opens_int (by kernel_rfl) (by kernel_rfl)))) (by kernel_rfl)
  obtain ⟨A3, c3, e3, g3⟩ := h3
  obtain ⟨y4, h4, b4⟩ := hf 4 43 4 (d := kraw) (B := anyB) (opensB_of (opens_raw (e := 45) (by kernel_rfl) (by kernel_rfl))) (by kernel_rfl)
  obtain ⟨e4, k4⟩ := h4
  exact ⟨⟨y0, y1, y2, y3, y4⟩, kS44_mk _ ((glue e0 (glue e1 (glue e2 (glue e3 (glue e4 (glueEnd hl)))))).trans (by kernel_rfl)) g1 g2 g3 k4, ⟨b1, b2, b3⟩⟩
def bS46 (n : Nat) (y : S46) : Prop := (lenB bS80) n y.f8 ∧ (lenB anyB) n y.f9 ∧ (lenB anyB) n y.f11 ∧ bS44 n y.f12
theorem op47 {W : World} : OpensB Try.prog W 47 kS46 bS46 := by
  refine ⟨by kernel_rfl, fun k n y hk h => ?_, fun H enc base spare held n cs x h => ?_⟩
  · obtain ⟨b8, b9, b11, b12⟩ := h; exact ⟨((opensB_slice (e := 81) (B := bS80) (by kernel_rfl) (by kernel_rfl) (by decide) op81) : OpensB Try.prog W 25 (kslice kS80) (lenB bS80)).2.1 _ _ _ hk b8, ((opensB_slice (e := 3) (B := anyB) (by kernel_rfl) (by kernel_rfl) (by decide) (opensB_of (opens_int (by kernel_rfl) (by kernel_rfl)))) : OpensB Try.prog W 22 (kslice (kint .i64)) (lenB anyB)).2.1 _ _ _ hk b9, ((opensB_slice (e := 5) (B := anyB) (by kernel_rfl) (by kernel_rfl) (by decide) (opensB_of (opens_int (by kernel_rfl) (by kernel_rfl)))) : OpensB Try.prog W 42 (kslice (kint .u8)) (lenB anyB)).2.1 _ _ _ hk b11, (op45 : OpensB Try.prog W 45 kS44 bS44).2.1 _ _ _ hk b12⟩
  obtain ⟨hl, hf⟩ := sopenB (by kernel_rfl) h
  obtain ⟨y0, h0, b0⟩ := hf 0 3 0 (d := (kint .i64)) (B := anyB) (opensB_of (opens_int (by kernel_rfl) (by kernel_rfl))) (by kernel_rfl)
  have e0 := h0
  obtain ⟨y1, h1, b1⟩ := hf 1 3 1 (d := (kint .i64)) (B := anyB) (opensB_of (opens_int (by kernel_rfl) (by kernel_rfl))) (by kernel_rfl)
  have e1 := h1
  obtain ⟨y2, h2, b2⟩ := hf 2 3 2 (d := (kint .i64)) (B := anyB) (opensB_of (opens_int (by kernel_rfl) (by kernel_rfl))) (by kernel_rfl)
  have e2 := h2
  obtain ⟨y3, h3, b3⟩ := hf 3 3 3 (d := (kint .i64)) (B := anyB) (opensB_of (opens_int (by kernel_rfl) (by kernel_rfl))) (by kernel_rfl)
  have e3 := h3
  obtain ⟨y4, h4, b4⟩ := hf 4 3 4 (d := (kint .i64)) (B := anyB) (opensB_of (opens_int (by kernel_rfl) (by kernel_rfl))) (by kernel_rfl)
  have e4 := h4
  obtain ⟨y5, h5, b5⟩ := hf 5 3 5 (d := (kint .i64)) (B := anyB) (opensB_of (opens_int (by kernel_rfl) (by kernel_rfl))) (by kernel_rfl)
  have e5 := h5
  obtain ⟨y6, h6, b6⟩ := hf 6 3 6 (d := (kint .i64)) (B := anyB) (opensB_of (opens_int (by kernel_rfl) (by kernel_rfl))) (by kernel_rfl)
  have e6 := h6
  obtain ⟨y7, h7, b7⟩ := hf 7 4 7 (d := kbool) (B := anyB) (opensB_of (opens_bool (by kernel_rfl) (by kernel_rfl))) (by kernel_rfl)
  have e7 := h7
  obtain ⟨y8, h8, b8⟩ := hf 8 25 8 (d := (kslice kS80)) (B := (lenB bS80)) (opensB_slice (e := 81) (B := bS80) (by kernel_rfl) (by kernel_rfl) (by decide) op81) (by kernel_rfl)
  obtain ⟨A8, c8, e8, g8⟩ := h8
  obtain ⟨y9, h9, b9⟩ := hf 9 22 9 (d := (kslice (kint .i64))) (B := (lenB anyB)) (opensB_slice (e := 3) (B := anyB) (by kernel_rfl) (by kernel_rfl) (by decide) (opensB_of (opens_int (by kernel_rfl) (by kernel_rfl)))) (by kernel_rfl)
  obtain ⟨A9, c9, e9, g9⟩ := h9
  obtain ⟨y10, h10, b10⟩ := hf 10 3 10 (d := (kint .i64)) (B := anyB) (opensB_of (opens_int (by kernel_rfl) (by kernel_rfl))) (by kernel_rfl)
  have e10 := h10
  obtain ⟨y11, h11, b11⟩ := hf 11 42 11 (d := (kslice (kint .u8))) (B := (lenB anyB)) (opensB_slice (e := 5) (B := anyB) (by kernel_rfl) (by kernel_rfl) (by decide) (opensB_of (opens_int (by kernel_rfl) (by kernel_rfl)))) (by kernel_rfl)
  obtain ⟨A11, c11, e11, g11⟩ := h11
  obtain ⟨y12, h12, b12⟩ := hf 12 45 12 (d := kS44) (B := bS44) op45 (by kernel_rfl)
  obtain ⟨A12_1, c12_1, A12_2, c12_2, A12_3, c12_3, e12, g12_1, g12_2, g12_3, k12_4⟩ := kS44_open h12
  exact ⟨⟨y0, y1, y2, y3, y4, y5, y6, y7, y8, y9, y10, y11, y12⟩, kS46_mk _ ((glue e0 (glue e1 (glue e2 (glue e3 (glue e4 (glue e5 (glue e6 (glue e7 (glue e8 (glue e9 (glue e10 (glue e11 (glue e12 (glueEnd hl)))))))))))))).trans (by kernel_rfl)) g8 g9 g11 g12_1 g12_2 g12_3 k12_4, ⟨b8, b9, b11, b12⟩⟩
def bS48 (n : Nat) (y : S48) : Prop := bS46 n y.f3 ∧ (lenB anyB) n y.f4 ∧ (lenB anyB) n y.f5
theorem op49 {W : World} : OpensB Try.prog W 49 kS48 bS48 := by
  refine ⟨by kernel_rfl, fun k n y hk h => ?_, fun H enc base spare held n cs x h => ?_⟩
  · obtain ⟨b3, b4, b5⟩ := h; exact ⟨(op47 : OpensB Try.prog W 47 kS46 bS46).2.1 _ _ _ hk b3, ((opensB_slice (e := 5) (B := anyB) (by kernel_rfl) (by kernel_rfl) (by decide) (opensB_of (opens_int (by kernel_rfl) (by kernel_rfl)))) : OpensB Try.prog W 42 (kslice (kint .u8)) (lenB anyB)).2.1 _ _ _ hk b4, ((opensB_slice (e := 3) (B := anyB) (by kernel_rfl) (by kernel_rfl) (by decide) (opensB_of (opens_int (by kernel_rfl) (by kernel_rfl)))) : OpensB Try.prog W 22 (kslice (kint .i64)) (lenB anyB)).2.1 _ _ _ hk b5⟩
  obtain ⟨hl, hf⟩ := sopenB (by kernel_rfl) h
  obtain ⟨y0, h0, b0⟩ := hf 0 3 0 (d := (kint .i64)) (B := anyB) (opensB_of (opens_int (by kernel_rfl) (by kernel_rfl))) (by kernel_rfl)
  have e0 := h0
  obtain ⟨y1, h1, b1⟩ := hf 1 3 1 (d := (kint .i64)) (B := anyB) (opensB_of (opens_int (by kernel_rfl) (by kernel_rfl))) (by kernel_rfl)
  have e1 := h1
  obtain ⟨y2, h2, b2⟩ := hf 2 3 2 (d := (kint .i64)) (B := anyB) (opensB_of (opens_int (by kernel_rfl) (by kernel_rfl))) (by kernel_rfl)
  have e2 := h2
  obtain ⟨y3, h3, b3⟩ := hf 3 47 3 (d := kS46) (B := bS46) op47 (by kernel_rfl)
  obtain ⟨A3_8, c3_8, A3_9, c3_9, A3_11, c3_11, A3_13, c3_13, A3_14, c3_14, A3_15, c3_15, e3, g3_8, g3_9, g3_11, g3_13, g3_14, g3_15, k3_16⟩ := kS46_open h3
  obtain ⟨y4, h4, b4⟩ := hf 4 42 20 (d := (kslice (kint .u8))) (B := (lenB anyB)) (opensB_slice (e := 5) (B := anyB) (by kernel_rfl) (by kernel_rfl) (by decide) (opensB_of (opens_int (by kernel_rfl) (by kernel_rfl)))) (by kernel_rfl)
  obtain ⟨A4, c4, e4, g4⟩ := h4
  obtain ⟨y5, h5, b5⟩ := hf 5 22 21 (d := (kslice (kint .i64))) (B := (lenB anyB)) (opensB_slice (e := 3) (B := anyB) (by kernel_rfl) (by kernel_rfl) (by decide) (opensB_of (opens_int (by kernel_rfl) (by kernel_rfl)))) (by kernel_rfl)
  obtain ⟨A5, c5, e5, g5⟩ := h5
  exact ⟨⟨y0, y1, y2, y3, y4, y5⟩, kS48_mk _ ((glue e0 (glue e1 (glue e2 (glue e3 (glue e4 (glue e5 (glueEnd hl))))))).trans (by kernel_rfl)) g3_8 g3_9 g3_11 g3_13 g3_14 g3_15 g4 g5 k3_16, ⟨b3, b4, b5⟩⟩
namespace rowRaftSound
open Go.ChangeShapes Go.WideShapes Go.ChangeAt Go.RowKit
theorem own : ownKnob Try.prog.godebug = none := by kernel_rfl
theorem kids : Kids Try.prog (· < Try.prog.types.size) := kids_rows (by kernel_rfl) (by kernel_rfl)
theorem contract (H : Type) (enc : TypeId × Value → H) (W : World) (base : Nat) (args : Array Value) (ds gs : List (DataW H)) (before : List MemPlace)
    (hval : ∀ (j : Nat) t v, Try.f4.params[j]? = some t → args[j]? = some v → Value.okWide Try.prog W .any base t v)
    (hW : DataW.Whole enc Try.prog Try.f4.params.toList Rows.raftSoundSpec.vars false W args.toList ds gs before) (hk : Rows.uptoSmall H (ds ++ gs) = true) :
    Calls Try.prog 4 args W fun e W' => ∃ v, e = .returned v ∧ Rows.raftSoundSpec.post enc Try.prog Try.f4 false true false false W args v W' := by
  have hW' := hW
  obtain ⟨p, q, hA0, hV, rfl, hfz, hnd⟩ := hW
  have hA : DataW.TrodAll enc Try.prog W 0 (fun _ => true) true Try.f4.params.toList args.toList ds p := hA0
  rw [Try.params4] at hA hval
  obtain ⟨v0, vs0, d0, ds0, p0, q0, hargs, rfl, rfl, h0, r0⟩ := trodAll_cons hA
  obtain ⟨v1, vs1, d1, ds1, p1, q1, rfl, rfl, rfl, h1, r1⟩ := trodAll_cons r0
  obtain ⟨rfl, rfl, rfl⟩ := trodAll_nil r1
  obtain rfl : args = #[v0, v1] := by cases args; simp_all
  obtain ⟨rfl, rfl⟩ := trodVars_none hV
  clear hA0
  have hk2 : Rows.uptoBulkAll ([d0, d1] ++ []) ≤ 1048576 := of_decide_eq_true hk
  simp only [List.append_nil, bkAll, bulkAll] at hk2
  obtain ⟨cs0, rfl, -⟩ := okWide_struct (fs := _) (Try.underlying32) (hval 0 32 v0 rfl rfl)
  obtain ⟨m0, h0'⟩ := h0
  obtain ⟨x0, hx0, c0⟩ := (op32 (W := W)).2.2 _ _ _ _ _ _ _ _ h0'
  have b0 := (op32 (W := W)).2.1 _ 1048576 _ (Nat.le_trans (show _ ≤ bulk d0 from Nat.le_refl _) (by omega)) c0
  obtain ⟨cs1, rfl, -⟩ := okWide_struct (fs := _) (Try.underlying49) (hval 1 49 v1 rfl rfl)
  obtain ⟨m1, h1'⟩ := h1
  obtain ⟨x1, hx1, c1⟩ := (op49 (W := W)).2.2 _ _ _ _ _ _ _ _ h1'
  have b1 := (op49 (W := W)).2.1 _ 1048576 _ (Nat.le_trans (show _ ≤ bulk d1 from Nat.le_refl _) (by omega)) c1
  obtain ⟨_, _, _, _, _, _, -, -, -, -, l8, l9⟩ := kS31_open hx0
  have pre : Pre x0 x1 := ⟨⟨by have := b0.1.2.1; omega, by have := b0.1.1.1; omega, fun e he => by have := (b0.1.2.2 e he).1; omega⟩, by have := b0.1.2.1; omega, by have := b0.2.1; omega, l8, l9, ⟨by have := b1.1.1.1; omega, fun e he => by have := (b1.1.1.2 e he).1; omega⟩, by have := b1.1.2.1.1; omega, by have := b1.2.2.1; omega⟩
  simp only [List.append_nil] at hW'
  have hc := calls_of (f4_ok (M := memOf W) x0 x1 true (raftSound_true x0 x1 pre) hx0 hx1)
  refine hc.mono fun e W' hx => ?_
  obtain ⟨v, M', H', rfl, hR, hkept⟩ := hx
  obtain ⟨rfl, -⟩ := hR
  exact ⟨_, rfl, post_kept (tb := 4) kids (fun ht hu => slicesOk_spec (by kernel_rfl) ht hu) hW' (by intro t ht; revert t; decide +kernel) rfl rfl hkept (by kernel_rfl) Try.underlying4⟩
theorem some_of {α : Type} [Inhabited α] {x : Option α} (h : x.isSome = true) : x = some (x.getD default) := by cases x with | none => cases h | some y => rfl
set_option maxRecDepth 100000 in
theorem lifted (os : Os) (started : os.Started) (H : Type) (enc : TypeId × Value → H) (F : Stop.Interp) :
    ReturnsInHanded {} Try.checked os 4 .any ((Rows.OpenSpec.upto Rows.raftSoundSpec).pre6 enc Try.prog Try.f4 Rows.raftSoundUptoRow.domain false) (((Rows.OpenSpec.upto Rows.raftSoundSpec).at F).post enc Try.prog Try.f4 false true false false) := by
  refine returnsInHanded_of_cond (C := Try.checked) (s := Rows.OpenSpec.upto Rows.raftSoundSpec) (k := Rows.uptoSmall) rfl own started (by kernel_rfl) Try.func4
    (OpenSpec.witness (enc := enc) (C := Try.checked) (s := Rows.OpenSpec.upto Rows.raftSoundSpec) (k := Rows.uptoSmall) rfl false ⟨#[], #[.agg #[.int .i64 0, .int .i64 0, .int .i64 0, .int .i64 0, .int .i64 0, .int .i64 0, .int .i64 0, .slice none 0 0, .slice none 0 0, .int .i64 0, .slice none 0 0, .int .i64 0, .int .i64 0, .int .i64 0, .int .i64 0, .int .i64 0, .int .i64 0, .int .i64 0, .int .i64 0, .int .i64 0, .int .i64 0, .int .i64 0, .int .i64 0, .int .i64 0, .int .i64 0, .int .i64 0, .int .i64 0, .int .i64 0, .int .i64 0], .agg #[.int .i64 0, .int .i64 0, .int .i64 0, .int .i64 0, .int .i64 0, .int .i64 0, .int .i64 0, .int .i64 0, .int .i64 0, .int .i64 0, .bool false, .slice none 0 0, .slice none 0 0, .int .i64 0, .slice none 0 0, .int .i64 0, .slice none 0 0, .slice none 0 0, .slice none 0 0, .slice none 0 0, .slice none 0 0, .slice none 0 0]], []⟩ 12 (by kernel_rfl) (by kernel_rfl) (by kernel_rfl)
      (some_of (by kernel_rfl)) rfl (by kernel_rfl)) ?_
  intro W base args ds gs before hval hW _ hk _
  exact contract H enc W base args ds gs before hval hW hk
theorem over : Rows.raftSoundUptoRow.holds Try.pinned (Rows.OpenSpec.upto Rows.raftSoundSpec) :=
  OpenClaim.holds_of_cond 4 Try.f4 rfl rfl rfl rfl rfl rfl rfl ⟨rfl, rfl, rfl, rfl, rfl⟩ rfl rfl rfl rfl rfl (by kernel_rfl) Try.func4 (by kernel_rfl)
    (of_decide_eq_true (by kernel_rfl)) (by unfold Func.isWrapper; first | (rw [if_pos (by decide +kernel)]; kernel_rfl) | (rw [if_neg (by decide +kernel)]; exact ⟨rfl, rfl⟩))
    (fun os started H enc _ F => lifted os started H enc F)
end rowRaftSound
/-- THE STATEMENT. -/
theorem raftSound_holds : Rows.RaftSoundUptoSaid := rowRaftSound.over
end Go.Proofs.Ythpdomeciaafjaa
