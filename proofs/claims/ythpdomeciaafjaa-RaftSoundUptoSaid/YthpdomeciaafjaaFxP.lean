/- Base for printed walks, part P: short forms. Own work. -/
import Derived.Test.YthpdomeciaafjaaFxO
import Derived.KernelRfl
namespace Go.Fx

/-- One step of going on, where nothing is done. -/
def goStep (c : Code) (p : Path) : Option Path :=
  if isSeq c p || isBlock c p then some (p ++ [0]) else if isSkip c p then nextN c p else match exitT c p with
    | some id => match exitN id c p with | .goes q => some q | _ => none
    | none => none
def goes (c : Code) : Nat → Path → Path → Bool
  | 0, _, _ => false
  | n + 1, p, q => p == q || match goStep c p with | some p' => goes c n p' q | none => false
theorem at_goes {P : Program} {c : Code} {Q : Post} {a : Act} {w : World} : ∀ (n : Nat) {p q : Path}, goes c n p q = true → At P c q Q a w → At P c p Q a w
  | 0, _, _, h, _ => by cases h
  | n + 1, p, q, h, k => by
    unfold goes at h
    rw [Bool.or_eq_true] at h
    rcases h with h | h
    · have : p = q := by simpa using h
      rw [this]; exact k
    · cases hg : goStep c p with
      | none => rw [hg] at h; cases h
      | some p' =>
        rw [hg] at h
        have ih := at_goes n h k
        unfold goStep at hg
        split at hg
        · rename_i hs
          simp only [Option.some.injEq] at hg
          rw [Bool.or_eq_true] at hs
          rcases hs with hs | hs
          · exact at_seq p' hs hg.symm ih
          · exact at_block p' hs hg.symm ih
        · split at hg
          · rename_i hs; exact at_skip p' hs hg ih
          · split at hg
            · rename_i id he
              split at hg
              · rename_i q' hq
                simp only [Option.some.injEq] at hg
                subst hg
                exact at_exit q' he (by rw [hq]) ih
              · cases hg
            · cases hg

section
variable {P : Program} {C : Ctx} {E : Env} {M : Mem} {H : List Res} {a : Act} {w : World}
variable {ops : Array Oper} {Q : Post} {K : Act → World → Prop} {i : Nat} {w1 : World} {F : Fs} {p : Plan}

theorem go {c : Code} {q : Path} (q' : Path) (h : At P c q' Q a w) (hk : goes c 60 q q' = true := by kernel_rfl) : At P c q Q a w := at_goes 60 hk h
theorem goR {c : Code} {q : Path} (q' : Path) (h : SeqG P (opsAt c q') (kont P c q' Q) 0 a w) (hk : (goes c 60 q q' && (regOps c q').isSome) = true := by kernel_rfl) : At P c q Q a w := by
  rw [Bool.and_eq_true] at hk
  exact at_goes 60 hk.1 (seq_start hk.2 h)
def nextTo (c : Code) (q q' : Path) : Bool := (subc c q).isSome && match nextN c q with | some p => goes c 60 p q' | none => false
theorem kn_to {c : Code} {q : Path} (q' : Path) (hk : nextTo c q q' = true) (h : At P c q' Q a w) : kont P c q Q .normal a w := by
  unfold nextTo at hk
  rw [Bool.and_eq_true] at hk
  cases hn : nextN c q with
  | none => rw [hn] at hk; cases hk.2
  | some p' =>
    rw [hn] at hk
    exact kn_next p' hk.1 hn (at_goes 60 hk.2 h)
theorem kgo {c : Code} {q : Path} (q' : Path) (h : At P c q' Q a w) (hk : nextTo c q q' = true := by kernel_rfl) : kont P c q Q .normal a w := kn_to q' hk h
theorem kgoR {c : Code} {q : Path} (q' : Path) (h : SeqG P (opsAt c q') (kont P c q' Q) 0 a w) (hk : (nextTo c q q' && (regOps c q').isSome) = true := by kernel_rfl) : kont P c q Q .normal a w := by
  rw [Bool.and_eq_true] at hk
  exact kn_to q' hk.1 (seq_start hk.2 h)
theorem sgo {c : Code} {q : Path} (q' : Path) (h : At P c q' Q a w) (hk : (i == (opsAt c q).size && nextTo c q q') = true := by kernel_rfl) : SeqG P (opsAt c q) (kont P c q Q) i a w := by
  rw [Bool.and_eq_true] at hk
  exact seq_end hk.1 (kn_to q' hk.2 h)
theorem sgoR {c : Code} {q : Path} (q' : Path) (h : SeqG P (opsAt c q') (kont P c q' Q) 0 a w) (hk : (i == (opsAt c q).size && nextTo c q q' && (regOps c q').isSome) = true := by kernel_rfl) : SeqG P (opsAt c q) (kont P c q Q) i a w := by
  rw [Bool.and_eq_true, Bool.and_eq_true] at hk
  exact seq_end hk.1.1 (kn_to q' hk.1.2 (seq_start hk.2 h))

theorem y_eff (h : wpOp P ops Q i (SeqG P ops Q (i + 1)) a w) (hi : Nat.blt i ops.size = true := by kernel_rfl) : SeqG P ops Q i a w := seq_eff hi h
theorem y_pure (h : (Plan.pure i .done).wp P ops (fun _ a w => SeqG P ops Q (i + 1) a w) w .none a w) (hi : Nat.blt i ops.size = true := by kernel_rfl) : SeqG P ops Q i a w := seq_pure hi h
theorem sp (n : Nat) (hs : St C E M H a w) (k : ∀ a', St C (envOf P ops C.N E (List.range' i n)) M H a' w → SeqG P ops Q (i + n) a' w) (h1 : Nat.ble (i + n) ops.size = true := by kernel_rfl) (h2 : (runE P ops C.N E (List.range' i n)).isSome = true := by kernel_rfl) : SeqG P ops Q i a w := seq_pures n hs h1 h2 k
theorem y_pures (hs : St C E M H a w) (l : List Nat) (k : ∀ a', St C (envOf P ops C.N E l) M H a' w → p.wp P ops Q w1 F a' w) (hok : (runE P ops C.N E l).isSome = true := by kernel_rfl) : (Plan.pures l p).wp P ops Q w1 F a w := st_pures hs l hok k
theorem y_cond {c : Code} {q : Path} {t : Nat} {e b : Bool} (q' : Path) (hs : St C E M H a w) (hb : e = b) (h : At P c q' Q a w) (hk : condT c q = some t := by kernel_rfl) (hE : E t = some (.bool e) := by kernel_rfl) (hq : q' = q ++ [bif b then 0 else 1] := by kernel_rfl) : At P c q Q a w := st_cond q' hs hk hE hb hq h
theorem y_load (hs : St C E M H a w) (j : Nat) (t : TypeId) (off : Nat) (v : Value) (kk : ∀ a', St C (putO E (opAt ops i).dst v) M H a' w → K a' w) (ho : okOp ops C.N E i = true := by kernel_rfl) (hk : ldT (opAt ops i) = some t := by kernel_rfl) (hx : argV ops i 0 E = some (.pointer (some ⟨blkOf H j, off, none⟩)) := by kernel_rfl)
    (hr : readH P H j t off = some v := by kernel_rfl) : wpOp P ops Q i K a w := x_load hs j t off v ho hk hx hr kk
theorem y_loadD (hs : St C E M H a w) (j : Nat) (t : TypeId) (off : Nat) (v : Value) {b : Nat} (hsame : w.heap[b]? = w1.heap[b]?) (kk : ∀ a', St C (putO E (opAt ops i).dst v) M H a' w → p.wp P ops Q w1 F a' w) (hF : (i, b) ∈ F.l := by simp) (ho : okOp ops C.N E i = true := by kernel_rfl) (hk : ldT (opAt ops i) = some t := by kernel_rfl) (hx : argV ops i 0 E = some (.pointer (some ⟨blkOf H j, off, none⟩)) := by kernel_rfl)
    (hb : blkOf H j = b := by kernel_rfl) (hr : readH P H j t off = some v := by kernel_rfl) : (Plan.load i b p).wp P ops Q w1 F a w := x_loadD hs j t off v ho hk hx hb hF hsame hr kk
theorem y_loadW (hs : St C E M H a w) {t : TypeId} {b o k n : Nat} {v : Value} {blk : Array Value} {W : List Value} (hb : M b = some blk) (hW : (blk.toList.drop o).take n = W) (kk : ∀ a', St C (putO E (opAt ops i).dst v) M H a' w → K a' w) (ho : okOp ops C.N E i = true := by kernel_rfl) (hk : ldT (opAt ops i) = some t := by kernel_rfl) (hx : argV ops i 0 E = some (.pointer (some ⟨b, o + k, none⟩)) := by kernel_rfl)
    (hr : readOf P t W k = some v := by kernel_rfl) : wpOp P ops Q i K a w := st_loadW hs ho hk hx hb hW hr kk
theorem y_loadWD {M1 : Mem} {l : List (Nat × Nat)} (hs : St C E M H a w) {t : TypeId} {b o k n : Nat} {v : Value} {blk : Array Value} {W : List Value} (hR : (M1 b).isSome = true) (hRd : Rd w1 M1 w M) (hb : M b = some blk) (hW : (blk.toList.drop o).take n = W) (kk : ∀ a', St C (putO E (opAt ops i).dst v) M H a' w → p.wp P ops Q w1 ⟨l, fun b => (M1 b).isSome = true⟩ a' w)
    (ho : okOp ops C.N E i = true := by kernel_rfl) (hk : ldT (opAt ops i) = some t := by kernel_rfl) (hx : argV ops i 0 E = some (.pointer (some ⟨b, o + k, none⟩)) := by kernel_rfl) (hr : readOf P t W k = some v := by kernel_rfl) : (Plan.read i p).wp P ops Q w1 ⟨l, fun b => (M1 b).isSome = true⟩ a w :=
  st_loadWD hs ho hk hx hR (fun b h => (hRd b h).1) hb hW hr kk
theorem y_store (hs : St C E M H a w) (j : Nat) (t : TypeId) (off : Nat) (v : Value) (h1 : ∀ u ∈ v.cells.toList, u.oneCell' = true) (k : ∀ a' w', St C (putO E (opAt ops i).dst undef) M (setH P H j t off v) a' w' → (∀ x, x ≠ blkOf H j → w'.heap[x]? = w.heap[x]?) → K a' w')
    (ho : okOp ops C.N E i = true := by kernel_rfl) (hk : stT (opAt ops i) = some t := by kernel_rfl) (hx : argV ops i 0 E = some (.pointer (some ⟨blkOf H j, off, none⟩)) := by kernel_rfl) (hv : argV ops i 1 E = some v := by kernel_rfl) (hw : (writeH P H j t off v).isSome = true := by kernel_rfl) : wpOp P ops Q i K a w := x_store hs j t off v ho hk hx hv h1 hw k
theorem y_call0 (hs : St C E M H a w) {g : FuncId} {vs : List Value} {R : Value → Mem → List Res → Prop} (hf : FnOk P g vs M [] R) (k : ∀ v M' H' a' w', R v M' H' → M.le M' → St C (putO E (opAt ops i).dst v) M' (H' ++ H) a' w' → Ext w M [] w' M' H' → K a' w')
    (ho : okOp ops C.N E i = true := by kernel_rfl) (hc : calArgs (opAt ops i) E = some (g, vs) := by kernel_rfl) (hk : callable P g = true := by kernel_rfl) : wpOp P ops Q i K a w := st_call0 hs ho hc hk hf k
theorem y_calln {Hc : List Res} (l1 l2 : List Nat) (hs : St C E M H a w) {g : FuncId} {vs : List Value} {R : Value → Mem → List Res → Prop} (hf : FnOk P g vs M Hc R) (k : ∀ v M' H' a' w', R v M' H' → M.le M' → St C (putO E (opAt ops i).dst v) M' (H' ++ Go.Fx.sel H l2) a' w' → Ext w M Hc w' M' H' → K a' w')
    (hl : (l1 ++ l2).isPerm (List.range H.length) = true := by kernel_rfl) (hH : Go.Fx.sel H l1 = Hc := by kernel_rfl) (ho : okOp ops C.N E i = true := by kernel_rfl) (hc : calArgs (opAt ops i) E = some (g, vs) := by kernel_rfl) (hk : callable P g = true := by kernel_rfl) : wpOp P ops Q i K a w := x_calln l1 l2 hs hl hH ho hc hk hf k
theorem y_build (hs : St C E M H a w) {cs : List Value} (k : ∀ a', St C (putO E (opAt ops i).dst (.agg cs.toArray)) M H a' w → p.wp P ops Q w1 F a' w) (ho : okOp ops C.N E i = true := by kernel_rfl) (hb : builtE P (opAt ops i) E = some cs := by kernel_rfl) : (Plan.pure i p).wp P ops Q w1 F a w := st_build hs ho hb k
theorem y_buildS (hs : St C E M H a w) {e sz n : Nat} {cs : List Value} (k : ∀ v a' w', (∃ b, v = .slice (some ⟨b, 0, none⟩) n n) → St C (putO E (opAt ops i).dst v) M (.row v e sz n cs :: H) a' w' → (∀ x, x < w.heap.size → w'.heap[x]? = w.heap[x]?) → K a' w')
    (ho : okOp ops C.N E i = true := by kernel_rfl) (hb : builtS P (opAt ops i) E = some (e, sz, n, cs) := by kernel_rfl) (hl : cs.length = n * sz := by kernel_rfl) : wpOp P ops Q i K a w := st_buildS hs ho hb hl k
theorem y_alloc (hs : St C E M H a w) {t : TypeId} {cs : List Value} (k : ∀ b a' w', St C (putO E (opAt ops i).dst (.pointer (some ⟨b, 0, none⟩))) M (.blk b cs t :: H) a' w' → (∀ x, x < w.heap.size → w'.heap[x]? = w.heap[x]?) → K a' w')
    (ho : okOp ops C.N E i = true := by kernel_rfl) (hk : alT (opAt ops i) = some t := by kernel_rfl) (hz : zeroOf P t = some cs := by kernel_rfl) : wpOp P ops Q i K a w := st_alloc hs ho hk hz k
theorem y_append {α : Type} {d : Kd α} {xs ys : List α} (hs : St C E M H a w) (j : Nat) {t e bytes : Nat} {z : List Value} {v x : Value} {cs news : List Value} (hsrc : Src w x ys.length news d.sz) (hb : (xs.length + ys.length) * bytes ≤ 140737488355328 ∧ xs.length + ys.length ≤ 140737488355328)
    (k : ∀ v' a' w', St C (putO E (opAt ops i).dst v') M (H.set j (.row v' e d.sz (xs ++ ys).length (cs ++ news))) a' w' → (∀ x, x < w.heap.size → v.ownBlock ≠ some x → w'.heap[x]? = w.heap[x]?) → K a' w')
    (ho : okOp ops C.N E i = true := by kernel_rfl) (hk : apT (opAt ops i) = some t := by kernel_rfl) (hk2 : apOk (opAt ops i) = true := by kernel_rfl) (he : elemInfo P t = some (e, d.sz, bytes, z) := by kernel_rfl) (hsz : Nat.ble 1 d.sz = true := by kernel_rfl)
    (hv : argV ops i 0 E = some v := by kernel_rfl) (hx : argV ops i 1 E = some x := by kernel_rfl) (hj : H[j]? = some (.row v e d.sz xs.length cs) := by kernel_rfl) : wpOp P ops Q i K a w := x_append hs j ho hk hk2 he hsz hv hx hj hsrc hb k
theorem y_index (hs : St C E M H a w) {t : TypeId} {b f len c sz : Nat} {k : IntKind} {j : Int} (hb : 0 ≤ j ∧ j < (len : Int)) {A : Option Addr} (hA : A = some ⟨b, f, none⟩) (kk : ∀ a', St C (putO E (opAt ops i).dst (.pointer (some ⟨b, f + j.toNat * sz, none⟩))) M H a' w → p.wp P ops Q w1 F a' w)
    (ho : okOp ops C.N E i = true := by kernel_rfl) (hk : ixT (opAt ops i) = some t := by kernel_rfl) (hsz : slElem P t = some sz := by kernel_rfl) (hx : argV ops i 0 E = some (.slice A len c) := by kernel_rfl) (hi : argV ops i 1 E = some (.int k j) := by kernel_rfl) : (Plan.pure i p).wp P ops Q w1 F a w := x_index hs hb ho hk hsz (hA ▸ hx) hi kk
theorem y_regD {c : Code} {q : Path} (pl : Plan) (F : Fs) (hs : St C E M H a w) (hm : P.follows .mixedOrders = true) (hQ : Plain Q) (h : ∀ w1, St C E M H a w1 → pl.wp P (opsAt c q) (kont P c q Q) w1 F a w1) (hk : (regDraw c q).isSome = true := by kernel_rfl)
    (ho : (Region.noSelect (opsAt c q) && pl.okD (opsAt c q) (opsAt c q).size (Array.replicate (opsAt c q).size false)) = true := by kernel_rfl) : At P c q Q a w := x_regD pl F hs hm hQ hk ho h
theorem kN {j : Nat} {w w' : World} : KeepL ops w1 [] j w w' := keepN
theorem kD {j x b : Nat} {w w' : World} {l : List (Nat × Nat)} (k : KeepL ops w1 l j w w') (h : direct ops x j = true := by kernel_rfl) : KeepL ops w1 ((x, b) :: l) j w w' := keepD (.one h) k
theorem St.pk (hs : St C E M H a w) (l : List Nat) (n : Nat) (hl : l.isPerm (List.range H.length) = true := by kernel_rfl) : St C E M ((Go.Fx.sel H l).take n) a w := hs.pickn l n hl
theorem St.to (hs : St C E M H a w) {l : List (Nat × Value)} {H' : List Res} (e : H = H' := by kernel_rfl) (hl : l.map (fun p => E p.1) = l.map (fun p => some p.2) := by kernel_rfl) : St C (Go.Fx.env l) M H' a w := (hs.fit e).weaken (allIn_of hl)
theorem St.too (hs : St C E M H a w) {l : List (Nat × Value)} (hl : l.map (fun p => E p.1) = l.map (fun p => some p.2) := by kernel_rfl) : St C (Go.Fx.env l) M H a w := hs.weaken (allIn_of hl)
theorem y_ret {fn : Func} {R : Value → Mem → List Res → Prop} {v : Value} (hs : St C E M H a w) (hR : R v M H) (hv : resE fn E = some v := by kernel_rfl) : Done P fn C R .ret a w := st_ret hs hv hR
end
end Go.Fx
