/-
  Facts on the way to the statement of this claim: contracts of the program's functions and what they reckon. No condition beyond those that each theorem bears.
-/
import Derived.Test.YtjbajnkbiohoeaaDoorW8
namespace Go.Proofs.YtjbajnkbiohoeaaDoor
open Go Go.Dw
theorem instL_app {pre pre' suf suf' : List Ty} : True := trivial
set_option maxHeartbeats 8000000 in
set_option maxRecDepth 100000 in
theorem call8 (b m : Nat) : ∀ (a t : Ty) (f : Fd) (A : Option Addr) (cap : Nat), a.wt ≤ m → a.ok → t.ok → a.wt ≤ 1000000000000 → t.wt ≤ 1000000000000 → f.length + a.wt ≤ 2000000000000 →
    CallTo Tryd.prog [] 8 [.agg a.cells, .agg t.cells, .ref 1001 b 0] (FO b A cap f) (FitPost b (inst a t f)) := by
  induction m using Nat.strongRecOn with
  | _ m ih =>
  intro a t f A cap hm ha ht hwa hwt hfl
  by_cases h0 : a.kind = 0
  · exact call8v ha ht hwt (by omega) h0
  have hwe := a.wt_eq
  have hwe' := t.wt_eq
  have hlen := length_wtL a.args
  have hlen' := length_wtL t.args
  have hrec : ∀ c ∈ a.args, ∀ d ∈ t.args, ∀ (f' : Fd) (A' : Option Addr) (cap' : Nat), f'.length + c.wt ≤ 2000000000000 →
      CallTo Tryd.prog [] 8 [.agg [.int .i64 c.kind, .str c.name, .int .i64 c.var, .sl false 4 (Ty.cellsL c.args)], .agg [.int .i64 d.kind, .str d.name, .int .i64 d.var, .sl false 4 (Ty.cellsL d.args)], .ref 1001 b 0] [(1001, .cells b [.own 1002 A' f'.length cap']), (1002, .row A' f'.length cap' 47 2 (rowsF f'))] (FitPost b (inst c d f')) := fun c hc d hd f' A' cap' hf' => by
    have h1 := wt_arg hc
    have h2 := wt_arg hd
    rw [← Ty.cells_eq c, ← Ty.cells_eq d]
    exact ih c.wt (by omega) c d f' A' cap' (Nat.le_refl _) (ok_arg ha hc) (ok_arg ht hd) (by omega) (by omega) hf'
  clear ih
  refine CallTo.of_walk Tryd.func8 rfl (by simp [Tryd.ntmps8]) fun X B0 w0 => ?_
  simp only [Tryd.results8, Tryd.ntmps8, numF, Ty.cells_eq, FO]
  repeat' first
    | (with_reducible refine Wp.gate ?_; first
      | ((exact absurd (by assumption) h0))
      | ((exfalso; omega))
      | (with_reducible refine Wp.seq fun K hK => ?_)
      | (with_reducible refine Wp.region ?_; simp -implicitDefEqProofs only [go_sem, ↓reduceIte, reduceCtorEq, Int.reduceToNat, Nat.reduceMul, Nat.reduceLT, Nat.reduceEqDiff, Nat.reduceAdd, Nat.reduceLeDiff, D.known, D.cells, cellsL_length, FitPost, FO])
      | (with_reducible refine Wp.region' ?_; first
        | (refine Wp.regionPure (by decide +kernel) mixed (by decide +kernel) (by decide +kernel) ?_; simp -implicitDefEqProofs only [go_sem, ↓reduceIte, reduceCtorEq, Int.reduceToNat, Nat.reduceMul, Nat.reduceLT, Nat.reduceEqDiff, Nat.reduceAdd, Nat.reduceLeDiff, D.known, D.cells, cellsL_length, FitPost, FO])
        | (refine Wp.regionTail' 1 (by decide +kernel) mixed (by decide +kernel) (by decide +kernel) ?_; simp -implicitDefEqProofs only [List.length_cons, List.length_nil, Nat.reduceAdd, Nat.reduceSub, go_sem, ↓reduceIte, reduceCtorEq, Int.reduceToNat, Nat.reduceMul, Nat.reduceLT, Nat.reduceEqDiff, Nat.reduceAdd, Nat.reduceLeDiff, D.known, D.cells, cellsL_length, FitPost, FO])
        | (refine Wp.regionTail' 2 (by decide +kernel) mixed (by decide +kernel) (by decide +kernel) ?_; simp -implicitDefEqProofs only [List.length_cons, List.length_nil, Nat.reduceAdd, Nat.reduceSub, go_sem, ↓reduceIte, reduceCtorEq, Int.reduceToNat, Nat.reduceMul, Nat.reduceLT, Nat.reduceEqDiff, Nat.reduceAdd, Nat.reduceLeDiff, D.known, D.cells, cellsL_length, FitPost, FO])
        | (refine Wp.regionTail' 3 (by decide +kernel) mixed (by decide +kernel) (by decide +kernel) ?_; simp -implicitDefEqProofs only [List.length_cons, List.length_nil, Nat.reduceAdd, Nat.reduceSub, go_sem, ↓reduceIte, reduceCtorEq, Int.reduceToNat, Nat.reduceMul, Nat.reduceLT, Nat.reduceEqDiff, Nat.reduceAdd, Nat.reduceLeDiff, D.known, D.cells, cellsL_length, FitPost, FO])
        | (refine Wp.regionTail' 4 (by decide +kernel) mixed (by decide +kernel) (by decide +kernel) ?_; simp -implicitDefEqProofs only [List.length_cons, List.length_nil, Nat.reduceAdd, Nat.reduceSub, go_sem, ↓reduceIte, reduceCtorEq, Int.reduceToNat, Nat.reduceMul, Nat.reduceLT, Nat.reduceEqDiff, Nat.reduceAdd, Nat.reduceLeDiff, D.known, D.cells, cellsL_length, FitPost, FO])
        | (refine Wp.regionTail' 5 (by decide +kernel) mixed (by decide +kernel) (by decide +kernel) ?_; simp -implicitDefEqProofs only [List.length_cons, List.length_nil, Nat.reduceAdd, Nat.reduceSub, go_sem, ↓reduceIte, reduceCtorEq, Int.reduceToNat, Nat.reduceMul, Nat.reduceLT, Nat.reduceEqDiff, Nat.reduceAdd, Nat.reduceLeDiff, D.known, D.cells, cellsL_length, FitPost, FO])
        | (refine Wp.regionTail' 6 (by decide +kernel) mixed (by decide +kernel) (by decide +kernel) ?_; simp -implicitDefEqProofs only [List.length_cons, List.length_nil, Nat.reduceAdd, Nat.reduceSub, go_sem, ↓reduceIte, reduceCtorEq, Int.reduceToNat, Nat.reduceMul, Nat.reduceLT, Nat.reduceEqDiff, Nat.reduceAdd, Nat.reduceLeDiff, D.known, D.cells, cellsL_length, FitPost, FO])
        | (refine Wp.regionAll mixed (by decide +kernel) (by decide +kernel) ?_; simp -implicitDefEqProofs only [go_sem, ↓reduceIte, reduceCtorEq, Int.reduceToNat, Nat.reduceMul, Nat.reduceLT, Nat.reduceEqDiff, Nat.reduceAdd, Nat.reduceLeDiff, D.known, D.cells, cellsL_length, FitPost, FO]))
      | (with_reducible refine Wp.cond' ?_; refine Wp.cond rfl (fun h => ?_) (fun h => ?_) <;> first | (cases h; done) | (simp only [decide_eq_true_eq, decide_eq_false_iff_not, Bool.not_eq_true', Bool.not_eq_false', ne_eq, Classical.not_not] at h) | skip)
      | (with_reducible refine Wp.block ?_)
      | (with_reducible refine Wp.scope ?_)
      | (with_reducible refine Wp.label ?_; (try simp only [Dw.thenS_normal, Dw.blockS_normal, Dw.noGotoS_normal]))
      | (with_reducible refine Wp.ret ?_; (try simp only [Dw.thenS_ret, Dw.blockS_ret, Dw.noGotoS_ret]); first | (with_reducible refine ret_pure ?_; simp -implicitDefEqProofs only [retD, resAll, oneOrTup, go_sem, ↓reduceIte, reduceCtorEq, Int.reduceToNat, Nat.reduceMul, Nat.reduceLT, Nat.reduceEqDiff, Nat.reduceAdd, Nat.reduceLeDiff, D.known, D.cells, cellsL_length, FitPost, FO]) | (with_reducible refine ret_post [1001, 1002] ?_; simp -implicitDefEqProofs only [retD, resAll, oneOrTup, go_sem, ↓reduceIte, reduceCtorEq, Int.reduceToNat, Nat.reduceMul, Nat.reduceLT, Nat.reduceEqDiff, Nat.reduceAdd, Nat.reduceLeDiff, D.known, D.cells, cellsL_length, FitPost, FO]) | skip)
      | (with_reducible refine Wp.skip ?_; (try simp only [Dw.thenS_normal, Dw.blockS_normal, Dw.noGotoS_normal]))
      | (with_reducible refine Wp.exit ?_; simp only [Dw.thenS_exit, Dw.blockS_exit, Dw.noGotoS_exit, Dw.noGotoS_normal, if_true, Dw.thenS_normal, Dw.blockS_normal, Nat.reduceEqDiff, if_false, ↓reduceIte]))
    | (with_reducible refine And.intro ?_ ?_)
    | (with_reducible refine hK _ ?_; clear hK K)
    | (clear hK K; with_reducible refine hK _ ?_; clear hK K)
    | (clear hK K; clear hK K; with_reducible refine hK _ ?_; clear hK K)
    | (with_reducible refine opsD_mark ?_; first | (refine opsD_guardT rfl rfl (fun h => ?_) (fun h => ?_) <;> first | (cases h; done) | (simp -implicitDefEqProofs only [h, go_sem, ↓reduceIte, reduceCtorEq, Int.reduceToNat, Nat.reduceMul, Nat.reduceLT, Nat.reduceEqDiff, Nat.reduceAdd, Nat.reduceLeDiff, D.known, D.cells, cellsL_length, FitPost, FO]; (try simp only [decide_eq_true_eq, decide_eq_false_iff_not, ne_eq, Classical.not_not] at h); (try (with_reducible change True at h; clear h)))) | (refine opsD_guardF rfl rfl (fun h => ?_) (fun h => ?_) <;> first | (cases h; done) | (simp -implicitDefEqProofs only [h, go_sem, ↓reduceIte, reduceCtorEq, Int.reduceToNat, Nat.reduceMul, Nat.reduceLT, Nat.reduceEqDiff, Nat.reduceAdd, Nat.reduceLeDiff, D.known, D.cells, cellsL_length, FitPost, FO]; (try simp only [decide_eq_true_eq, decide_eq_false_iff_not, ne_eq, Classical.not_not] at h); (try (with_reducible change True at h; clear h)))) | (refine opsD_guardS rfl rfl ?_; simp -implicitDefEqProofs only [go_sem, ↓reduceIte, reduceCtorEq, Int.reduceToNat, Nat.reduceMul, Nat.reduceLT, Nat.reduceEqDiff, Nat.reduceAdd, Nat.reduceLeDiff, D.known, D.cells, cellsL_length, FitPost, FO]))
    | (with_reducible refine opsN_mark ?_; first | (refine opsN_guardT rfl rfl (fun h => ?_) (fun h => ?_) <;> first | (cases h; done) | (simp -implicitDefEqProofs only [h, go_sem, ↓reduceIte, reduceCtorEq, Int.reduceToNat, Nat.reduceMul, Nat.reduceLT, Nat.reduceEqDiff, Nat.reduceAdd, Nat.reduceLeDiff, D.known, D.cells, cellsL_length, FitPost, FO]; (try simp only [decide_eq_true_eq, decide_eq_false_iff_not, ne_eq, Classical.not_not] at h); (try (with_reducible change True at h; clear h)))) | (refine opsN_guardF rfl rfl (fun h => ?_) (fun h => ?_) <;> first | (cases h; done) | (simp -implicitDefEqProofs only [h, go_sem, ↓reduceIte, reduceCtorEq, Int.reduceToNat, Nat.reduceMul, Nat.reduceLT, Nat.reduceEqDiff, Nat.reduceAdd, Nat.reduceLeDiff, D.known, D.cells, cellsL_length, FitPost, FO]; (try simp only [decide_eq_true_eq, decide_eq_false_iff_not, ne_eq, Classical.not_not] at h); (try (with_reducible change True at h; clear h)))) | (refine opsN_guardS rfl rfl ?_; simp -implicitDefEqProofs only [go_sem, ↓reduceIte, reduceCtorEq, Int.reduceToNat, Nat.reduceMul, Nat.reduceLT, Nat.reduceEqDiff, Nat.reduceAdd, Nat.reduceLeDiff, D.known, D.cells, cellsL_length, FitPost, FO]))
    | (with_reducible refine pickN_intro (fun h => ?_) (fun h => ?_) <;> first | (cases h; done) | (simp -implicitDefEqProofs only [h, go_sem, ↓reduceIte, reduceCtorEq, Int.reduceToNat, Nat.reduceMul, Nat.reduceLT, Nat.reduceEqDiff, Nat.reduceAdd, Nat.reduceLeDiff, D.known, D.cells, cellsL_length, FitPost, FO]; (try simp only [decide_eq_true_eq, decide_eq_false_iff_not, ne_eq, Classical.not_not] at h); (try (with_reducible change True at h; clear h))))
    | (with_reducible refine Dw.split_intro (fun h => ?_) (fun h => ?_) <;> simp -implicitDefEqProofs only [h, go_sem, ↓reduceIte, reduceCtorEq, Int.reduceToNat, Nat.reduceMul, Nat.reduceLT, Nat.reduceEqDiff, Nat.reduceAdd, Nat.reduceLeDiff, D.known, D.cells, cellsL_length, FitPost, FO] <;> (try simp only [decide_eq_true_eq, decide_eq_false_iff_not, ne_eq, Classical.not_not] at h); (try (with_reducible change True at h; clear h)))
    | (with_reducible refine fun _ => ?_; (try simp -implicitDefEqProofs only [go_sem, ↓reduceIte, reduceCtorEq, Int.reduceToNat, Nat.reduceMul, Nat.reduceLT, Nat.reduceEqDiff, Nat.reduceAdd, Nat.reduceLeDiff, D.known, D.cells, cellsL_length, FitPost, FO]))
    | (with_reducible exact Dw.Le.refl _)
    | (simp -implicitDefEqProofs only [go_sem, ↓reduceIte, reduceCtorEq, Int.reduceToNat, Nat.reduceMul, Nat.reduceLT, Nat.reduceEqDiff, Nat.reduceAdd, Nat.reduceLeDiff, D.known, D.cells, cellsL_length, FitPost, FO])
  all_goals first
    | (rw [inst_f1 h0 (by assumption)]; exact ⟨_, _, rfl, rfl⟩)
    | (rw [inst_fl h0 (by assumption)]; exact ⟨_, _, rfl, rfl⟩)
    | (rw [inst_f2 h0 (by assumption) (by assumption)]; exact ⟨_, _, rfl, rfl⟩)
    | (rw [inst_f5 h0 (by assumption) (by assumption)]; exact ⟨_, _, rfl, rfl⟩)
    | skip
  all_goals (
    have hA : inst a t f = instA a.args t.args f := by
      first
        | exact inst_g1 h0 (by assumption) (by assumption)
        | exact inst_g2 h0 (by assumption) (by assumption) (by assumption)
    have hlq : a.args.length = t.args.length := by omega
    have hLL : inst a t f = instL a.args t.args f := by rw [hA, instA, if_neg (by omega)]
    refine Wp.loop (fun n φ => ∃ pre suf pre' suf' f' A' cap', a.args = pre ++ suf ∧ t.args = pre' ++ suf' ∧ pre.length = pre'.length ∧ instL a.args t.args f = instL suf suf' f' ∧ f'.length + Ty.wtL suf ≤ 2000000000000 ∧ n = suf.length ∧ φ = ⟨97, [(2, .ref 1001 b 0), (3, .rp [.int .i64 a.kind, .str a.name, .int .i64 a.var, .sl false 4 (Ty.cellsL a.args)]), (4, .rp [.int .i64 t.kind, .str t.name, .int .i64 t.var, .sl false 4 (Ty.cellsL t.args)]), (79, .int .i64 a.args.length), (80, .int .i64 pre.length)], [(1001, .cells b [.own 1002 A' f'.length cap']), (1002, .row A' f'.length cap' 47 2 (rowsF f'))]⟩)
      (Weak.sub (fr' := [(2, .ref 1001 b 0), (3, .rp [.int .i64 a.kind, .str a.name, .int .i64 a.var, .sl false 4 (Ty.cellsL a.args)]), (4, .rp [.int .i64 t.kind, .str t.name, .int .i64 t.var, .sl false 4 (Ty.cellsL t.args)]), (79, .int .i64 a.args.length), (80, .int .i64 0)]) (st' := [(1001, .cells b [.own 1002 A f.length cap]), (1002, .row A f.length cap 47 2 (rowsF f))]) (by (repeat' first | exact FrSub.nil | exact StSub.nil | (refine FrSub.cons rfl ?_ ?_) | (refine StSub.cons rfl ?_) | exact Dw.Le.refl _)) (by (repeat' first | exact FrSub.nil | exact StSub.nil | (refine FrSub.cons rfl ?_ ?_) | (refine StSub.cons rfl ?_) | exact Dw.Le.refl _))) ⟨[], a.args, [], t.args, f, A, cap, rfl, rfl, rfl, rfl, by omega, rfl, rfl⟩ ?_
    rintro n φ ⟨pre, suf, pre', suf', f', A', cap', h1, h2, h3, h4, hfl', h5, rfl⟩
    rcases suf with _ | ⟨c, suf⟩
    · have hfin : inst a t f = (true, f') := by rw [hLL, h4]; unfold instL; rfl
      have hlp : a.args.length = pre.length := by rw [h1]; simp
      repeat' first
        | (with_reducible refine Wp.gate ?_; first
          | ((exfalso; omega))
          | (with_reducible refine Wp.seq fun K hK => ?_)
          | (with_reducible refine Wp.region ?_; simp -implicitDefEqProofs only [go_sem, ↓reduceIte, reduceCtorEq, Int.reduceToNat, Nat.reduceMul, Nat.reduceLT, Nat.reduceEqDiff, Nat.reduceAdd, Nat.reduceLeDiff, D.known, D.cells, cellsL_length, FitPost, FO, hfin])
          | (with_reducible refine Wp.region' ?_; first
            | (refine Wp.regionPure (by decide +kernel) mixed (by decide +kernel) (by decide +kernel) ?_; simp -implicitDefEqProofs only [go_sem, ↓reduceIte, reduceCtorEq, Int.reduceToNat, Nat.reduceMul, Nat.reduceLT, Nat.reduceEqDiff, Nat.reduceAdd, Nat.reduceLeDiff, D.known, D.cells, cellsL_length, FitPost, FO, hfin])
            | (refine Wp.regionTail' 1 (by decide +kernel) mixed (by decide +kernel) (by decide +kernel) ?_; simp -implicitDefEqProofs only [List.length_cons, List.length_nil, Nat.reduceAdd, Nat.reduceSub, go_sem, ↓reduceIte, reduceCtorEq, Int.reduceToNat, Nat.reduceMul, Nat.reduceLT, Nat.reduceEqDiff, Nat.reduceAdd, Nat.reduceLeDiff, D.known, D.cells, cellsL_length, FitPost, FO, hfin])
            | (refine Wp.regionTail' 2 (by decide +kernel) mixed (by decide +kernel) (by decide +kernel) ?_; simp -implicitDefEqProofs only [List.length_cons, List.length_nil, Nat.reduceAdd, Nat.reduceSub, go_sem, ↓reduceIte, reduceCtorEq, Int.reduceToNat, Nat.reduceMul, Nat.reduceLT, Nat.reduceEqDiff, Nat.reduceAdd, Nat.reduceLeDiff, D.known, D.cells, cellsL_length, FitPost, FO, hfin])
            | (refine Wp.regionTail' 3 (by decide +kernel) mixed (by decide +kernel) (by decide +kernel) ?_; simp -implicitDefEqProofs only [List.length_cons, List.length_nil, Nat.reduceAdd, Nat.reduceSub, go_sem, ↓reduceIte, reduceCtorEq, Int.reduceToNat, Nat.reduceMul, Nat.reduceLT, Nat.reduceEqDiff, Nat.reduceAdd, Nat.reduceLeDiff, D.known, D.cells, cellsL_length, FitPost, FO, hfin])
            | (refine Wp.regionTail' 4 (by decide +kernel) mixed (by decide +kernel) (by decide +kernel) ?_; simp -implicitDefEqProofs only [List.length_cons, List.length_nil, Nat.reduceAdd, Nat.reduceSub, go_sem, ↓reduceIte, reduceCtorEq, Int.reduceToNat, Nat.reduceMul, Nat.reduceLT, Nat.reduceEqDiff, Nat.reduceAdd, Nat.reduceLeDiff, D.known, D.cells, cellsL_length, FitPost, FO, hfin])
            | (refine Wp.regionTail' 5 (by decide +kernel) mixed (by decide +kernel) (by decide +kernel) ?_; simp -implicitDefEqProofs only [List.length_cons, List.length_nil, Nat.reduceAdd, Nat.reduceSub, go_sem, ↓reduceIte, reduceCtorEq, Int.reduceToNat, Nat.reduceMul, Nat.reduceLT, Nat.reduceEqDiff, Nat.reduceAdd, Nat.reduceLeDiff, D.known, D.cells, cellsL_length, FitPost, FO, hfin])
            | (refine Wp.regionTail' 6 (by decide +kernel) mixed (by decide +kernel) (by decide +kernel) ?_; simp -implicitDefEqProofs only [List.length_cons, List.length_nil, Nat.reduceAdd, Nat.reduceSub, go_sem, ↓reduceIte, reduceCtorEq, Int.reduceToNat, Nat.reduceMul, Nat.reduceLT, Nat.reduceEqDiff, Nat.reduceAdd, Nat.reduceLeDiff, D.known, D.cells, cellsL_length, FitPost, FO, hfin])
            | (refine Wp.regionAll mixed (by decide +kernel) (by decide +kernel) ?_; simp -implicitDefEqProofs only [go_sem, ↓reduceIte, reduceCtorEq, Int.reduceToNat, Nat.reduceMul, Nat.reduceLT, Nat.reduceEqDiff, Nat.reduceAdd, Nat.reduceLeDiff, D.known, D.cells, cellsL_length, FitPost, FO, hfin]))
          | (with_reducible refine Wp.cond' ?_; refine Wp.cond rfl (fun h => ?_) (fun h => ?_) <;> first | (cases h; done) | (simp only [decide_eq_true_eq, decide_eq_false_iff_not, Bool.not_eq_true', Bool.not_eq_false', ne_eq, Classical.not_not] at h) | skip)
          | (with_reducible refine Wp.block ?_)
          | (with_reducible refine Wp.scope ?_)
          | (with_reducible refine Wp.label ?_; (try simp only [Dw.thenS_normal, Dw.blockS_normal, Dw.noGotoS_normal]))
          | (with_reducible refine Wp.ret ?_; (try simp only [Dw.thenS_ret, Dw.blockS_ret, Dw.noGotoS_ret]); first | (with_reducible refine ret_pure ?_; simp -implicitDefEqProofs only [retD, resAll, oneOrTup, go_sem, ↓reduceIte, reduceCtorEq, Int.reduceToNat, Nat.reduceMul, Nat.reduceLT, Nat.reduceEqDiff, Nat.reduceAdd, Nat.reduceLeDiff, D.known, D.cells, cellsL_length, FitPost, FO, hfin]) | (with_reducible refine ret_post [1001, 1002] ?_; simp -implicitDefEqProofs only [retD, resAll, oneOrTup, go_sem, ↓reduceIte, reduceCtorEq, Int.reduceToNat, Nat.reduceMul, Nat.reduceLT, Nat.reduceEqDiff, Nat.reduceAdd, Nat.reduceLeDiff, D.known, D.cells, cellsL_length, FitPost, FO, hfin]) | skip)
          | (with_reducible refine Wp.skip ?_; (try simp only [Dw.thenS_normal, Dw.blockS_normal, Dw.noGotoS_normal]))
          | (with_reducible refine Wp.exit ?_; simp only [Dw.thenS_exit, Dw.blockS_exit, Dw.noGotoS_exit, Dw.noGotoS_normal, if_true, Dw.thenS_normal, Dw.blockS_normal, Nat.reduceEqDiff, if_false, ↓reduceIte]))
        | (with_reducible refine And.intro ?_ ?_)
        | (with_reducible refine hK _ ?_; clear hK K)
        | (clear hK K; with_reducible refine hK _ ?_; clear hK K)
        | (clear hK K; clear hK K; with_reducible refine hK _ ?_; clear hK K)
        | (with_reducible refine opsD_mark ?_; first | (refine opsD_guardT rfl rfl (fun h => ?_) (fun h => ?_) <;> first | (cases h; done) | (simp -implicitDefEqProofs only [h, go_sem, ↓reduceIte, reduceCtorEq, Int.reduceToNat, Nat.reduceMul, Nat.reduceLT, Nat.reduceEqDiff, Nat.reduceAdd, Nat.reduceLeDiff, D.known, D.cells, cellsL_length, FitPost, FO, hfin]; (try simp only [decide_eq_true_eq, decide_eq_false_iff_not, ne_eq, Classical.not_not] at h); (try (with_reducible change True at h; clear h)))) | (refine opsD_guardF rfl rfl (fun h => ?_) (fun h => ?_) <;> first | (cases h; done) | (simp -implicitDefEqProofs only [h, go_sem, ↓reduceIte, reduceCtorEq, Int.reduceToNat, Nat.reduceMul, Nat.reduceLT, Nat.reduceEqDiff, Nat.reduceAdd, Nat.reduceLeDiff, D.known, D.cells, cellsL_length, FitPost, FO, hfin]; (try simp only [decide_eq_true_eq, decide_eq_false_iff_not, ne_eq, Classical.not_not] at h); (try (with_reducible change True at h; clear h)))) | (refine opsD_guardS rfl rfl ?_; simp -implicitDefEqProofs only [go_sem, ↓reduceIte, reduceCtorEq, Int.reduceToNat, Nat.reduceMul, Nat.reduceLT, Nat.reduceEqDiff, Nat.reduceAdd, Nat.reduceLeDiff, D.known, D.cells, cellsL_length, FitPost, FO, hfin]))
        | (with_reducible refine opsN_mark ?_; first | (refine opsN_guardT rfl rfl (fun h => ?_) (fun h => ?_) <;> first | (cases h; done) | (simp -implicitDefEqProofs only [h, go_sem, ↓reduceIte, reduceCtorEq, Int.reduceToNat, Nat.reduceMul, Nat.reduceLT, Nat.reduceEqDiff, Nat.reduceAdd, Nat.reduceLeDiff, D.known, D.cells, cellsL_length, FitPost, FO, hfin]; (try simp only [decide_eq_true_eq, decide_eq_false_iff_not, ne_eq, Classical.not_not] at h); (try (with_reducible change True at h; clear h)))) | (refine opsN_guardF rfl rfl (fun h => ?_) (fun h => ?_) <;> first | (cases h; done) | (simp -implicitDefEqProofs only [h, go_sem, ↓reduceIte, reduceCtorEq, Int.reduceToNat, Nat.reduceMul, Nat.reduceLT, Nat.reduceEqDiff, Nat.reduceAdd, Nat.reduceLeDiff, D.known, D.cells, cellsL_length, FitPost, FO, hfin]; (try simp only [decide_eq_true_eq, decide_eq_false_iff_not, ne_eq, Classical.not_not] at h); (try (with_reducible change True at h; clear h)))) | (refine opsN_guardS rfl rfl ?_; simp -implicitDefEqProofs only [go_sem, ↓reduceIte, reduceCtorEq, Int.reduceToNat, Nat.reduceMul, Nat.reduceLT, Nat.reduceEqDiff, Nat.reduceAdd, Nat.reduceLeDiff, D.known, D.cells, cellsL_length, FitPost, FO, hfin]))
        | (with_reducible refine pickN_intro (fun h => ?_) (fun h => ?_) <;> first | (cases h; done) | (simp -implicitDefEqProofs only [h, go_sem, ↓reduceIte, reduceCtorEq, Int.reduceToNat, Nat.reduceMul, Nat.reduceLT, Nat.reduceEqDiff, Nat.reduceAdd, Nat.reduceLeDiff, D.known, D.cells, cellsL_length, FitPost, FO, hfin]; (try simp only [decide_eq_true_eq, decide_eq_false_iff_not, ne_eq, Classical.not_not] at h); (try (with_reducible change True at h; clear h))))
        | (with_reducible refine Dw.split_intro (fun h => ?_) (fun h => ?_) <;> simp -implicitDefEqProofs only [h, go_sem, ↓reduceIte, reduceCtorEq, Int.reduceToNat, Nat.reduceMul, Nat.reduceLT, Nat.reduceEqDiff, Nat.reduceAdd, Nat.reduceLeDiff, D.known, D.cells, cellsL_length, FitPost, FO, hfin] <;> (try simp only [decide_eq_true_eq, decide_eq_false_iff_not, ne_eq, Classical.not_not] at h); (try (with_reducible change True at h; clear h)))
        | (with_reducible refine fun _ => ?_; (try simp -implicitDefEqProofs only [go_sem, ↓reduceIte, reduceCtorEq, Int.reduceToNat, Nat.reduceMul, Nat.reduceLT, Nat.reduceEqDiff, Nat.reduceAdd, Nat.reduceLeDiff, D.known, D.cells, cellsL_length, FitPost, FO, hfin]))
        | (with_reducible exact Dw.Le.refl _)
        | (simp -implicitDefEqProofs only [go_sem, ↓reduceIte, reduceCtorEq, Int.reduceToNat, Nat.reduceMul, Nat.reduceLT, Nat.reduceEqDiff, Nat.reduceAdd, Nat.reduceLeDiff, D.known, D.cells, cellsL_length, FitPost, FO, hfin])
      all_goals first
        | (exfalso; omega)
        | exact ⟨_, _, rfl⟩
        | exact ⟨_, _, rfl, rfl⟩
        | trace_state
    · rcases suf' with _ | ⟨d, suf'⟩
      · rw [h1, h2] at hlq
        simp at hlq
        omega
      have hget := cellsL_at h1
      have hget' := cellsL_at h2
      rw [← h3] at hget'
      have hmc : c ∈ a.args := by rw [h1]; simp
      have hmd : d ∈ t.args := by rw [h2]; simp
      have hpl : pre.length < a.args.length := by rw [h1]; simp
      have hws : Ty.wtL (c :: suf) = 1 + c.wt + Ty.wtL suf := by simp [Ty.wtL]
      have hst : instL (c :: suf) (d :: suf') f' = if (inst c d f').1 then instL suf suf' (inst c d f').2 else (false, (inst c d f').2) := by simp only [instL]
      have hil := inst_len _ c d f' (Nat.le_refl _)
      have hcc := hrec c hmc d hmd f' A' cap' (by omega)
      rw [hst] at h4
      repeat' first
        | (with_reducible refine Wp.gate ?_; first
          | ((exfalso; omega))
          | (with_reducible refine Wp.seq fun K hK => ?_)
          | (with_reducible refine Wp.region ?_; simp -implicitDefEqProofs only [go_sem, ↓reduceIte, reduceCtorEq, Int.reduceToNat, Nat.reduceMul, Nat.reduceLT, Nat.reduceEqDiff, Nat.reduceAdd, Nat.reduceLeDiff, D.known, D.cells, cellsL_length, hget, hget', Ty.cells_eq c, Ty.cells_eq d, FitPost, FO, wrap_in (n := (pre.length : Int) + 1) (by unfold inI; omega)])
          | (with_reducible refine Wp.region' ?_; first
            | (refine Wp.regionTail (id := 15) 2 mixed (by decide +kernel) (by decide +kernel) ?_; simp -implicitDefEqProofs only [List.length_cons, List.length_nil, Nat.reduceAdd, Nat.reduceSub, go_sem, ↓reduceIte, reduceCtorEq, Int.reduceToNat, Nat.reduceMul, Nat.reduceLT, Nat.reduceEqDiff, Nat.reduceAdd, Nat.reduceLeDiff, D.known, D.cells, cellsL_length, hget, hget', Ty.cells_eq c, Ty.cells_eq d, FitPost, FO, wrap_in (n := (pre.length : Int) + 1) (by unfold inI; omega)])
            | (refine Wp.regionPure (by decide +kernel) mixed (by decide +kernel) (by decide +kernel) ?_; simp -implicitDefEqProofs only [go_sem, ↓reduceIte, reduceCtorEq, Int.reduceToNat, Nat.reduceMul, Nat.reduceLT, Nat.reduceEqDiff, Nat.reduceAdd, Nat.reduceLeDiff, D.known, D.cells, cellsL_length, hget, hget', Ty.cells_eq c, Ty.cells_eq d, FitPost, FO, wrap_in (n := (pre.length : Int) + 1) (by unfold inI; omega)])
            | (refine Wp.regionTail' 1 (by decide +kernel) mixed (by decide +kernel) (by decide +kernel) ?_; simp -implicitDefEqProofs only [List.length_cons, List.length_nil, Nat.reduceAdd, Nat.reduceSub, go_sem, ↓reduceIte, reduceCtorEq, Int.reduceToNat, Nat.reduceMul, Nat.reduceLT, Nat.reduceEqDiff, Nat.reduceAdd, Nat.reduceLeDiff, D.known, D.cells, cellsL_length, hget, hget', Ty.cells_eq c, Ty.cells_eq d, FitPost, FO, wrap_in (n := (pre.length : Int) + 1) (by unfold inI; omega)])
            | (refine Wp.regionTail' 2 (by decide +kernel) mixed (by decide +kernel) (by decide +kernel) ?_; simp -implicitDefEqProofs only [List.length_cons, List.length_nil, Nat.reduceAdd, Nat.reduceSub, go_sem, ↓reduceIte, reduceCtorEq, Int.reduceToNat, Nat.reduceMul, Nat.reduceLT, Nat.reduceEqDiff, Nat.reduceAdd, Nat.reduceLeDiff, D.known, D.cells, cellsL_length, hget, hget', Ty.cells_eq c, Ty.cells_eq d, FitPost, FO, wrap_in (n := (pre.length : Int) + 1) (by unfold inI; omega)])
            | (refine Wp.regionTail' 3 (by decide +kernel) mixed (by decide +kernel) (by decide +kernel) ?_; simp -implicitDefEqProofs only [List.length_cons, List.length_nil, Nat.reduceAdd, Nat.reduceSub, go_sem, ↓reduceIte, reduceCtorEq, Int.reduceToNat, Nat.reduceMul, Nat.reduceLT, Nat.reduceEqDiff, Nat.reduceAdd, Nat.reduceLeDiff, D.known, D.cells, cellsL_length, hget, hget', Ty.cells_eq c, Ty.cells_eq d, FitPost, FO, wrap_in (n := (pre.length : Int) + 1) (by unfold inI; omega)])
            | (refine Wp.regionTail' 4 (by decide +kernel) mixed (by decide +kernel) (by decide +kernel) ?_; simp -implicitDefEqProofs only [List.length_cons, List.length_nil, Nat.reduceAdd, Nat.reduceSub, go_sem, ↓reduceIte, reduceCtorEq, Int.reduceToNat, Nat.reduceMul, Nat.reduceLT, Nat.reduceEqDiff, Nat.reduceAdd, Nat.reduceLeDiff, D.known, D.cells, cellsL_length, hget, hget', Ty.cells_eq c, Ty.cells_eq d, FitPost, FO, wrap_in (n := (pre.length : Int) + 1) (by unfold inI; omega)])
            | (refine Wp.regionTail' 5 (by decide +kernel) mixed (by decide +kernel) (by decide +kernel) ?_; simp -implicitDefEqProofs only [List.length_cons, List.length_nil, Nat.reduceAdd, Nat.reduceSub, go_sem, ↓reduceIte, reduceCtorEq, Int.reduceToNat, Nat.reduceMul, Nat.reduceLT, Nat.reduceEqDiff, Nat.reduceAdd, Nat.reduceLeDiff, D.known, D.cells, cellsL_length, hget, hget', Ty.cells_eq c, Ty.cells_eq d, FitPost, FO, wrap_in (n := (pre.length : Int) + 1) (by unfold inI; omega)])
            | (refine Wp.regionTail' 6 (by decide +kernel) mixed (by decide +kernel) (by decide +kernel) ?_; simp -implicitDefEqProofs only [List.length_cons, List.length_nil, Nat.reduceAdd, Nat.reduceSub, go_sem, ↓reduceIte, reduceCtorEq, Int.reduceToNat, Nat.reduceMul, Nat.reduceLT, Nat.reduceEqDiff, Nat.reduceAdd, Nat.reduceLeDiff, D.known, D.cells, cellsL_length, hget, hget', Ty.cells_eq c, Ty.cells_eq d, FitPost, FO, wrap_in (n := (pre.length : Int) + 1) (by unfold inI; omega)])
            | (refine Wp.regionAll mixed (by decide +kernel) (by decide +kernel) ?_; simp -implicitDefEqProofs only [go_sem, ↓reduceIte, reduceCtorEq, Int.reduceToNat, Nat.reduceMul, Nat.reduceLT, Nat.reduceEqDiff, Nat.reduceAdd, Nat.reduceLeDiff, D.known, D.cells, cellsL_length, hget, hget', Ty.cells_eq c, Ty.cells_eq d, FitPost, FO, wrap_in (n := (pre.length : Int) + 1) (by unfold inI; omega)]))
          | (with_reducible refine Wp.cond' ?_; refine Wp.cond rfl (fun h => ?_) (fun h => ?_) <;> first | (cases h; done) | (simp only [decide_eq_true_eq, decide_eq_false_iff_not, Bool.not_eq_true', Bool.not_eq_false', ne_eq, Classical.not_not] at h) | skip)
          | (with_reducible refine Wp.block ?_)
          | (with_reducible refine Wp.scope ?_)
          | (with_reducible refine Wp.label ?_; (try simp only [Dw.thenS_normal, Dw.blockS_normal, Dw.noGotoS_normal]))
          | (with_reducible refine Wp.ret ?_; (try simp only [Dw.thenS_ret, Dw.blockS_ret, Dw.noGotoS_ret]); first | (with_reducible refine ret_pure ?_; simp -implicitDefEqProofs only [retD, resAll, oneOrTup, go_sem, ↓reduceIte, reduceCtorEq, Int.reduceToNat, Nat.reduceMul, Nat.reduceLT, Nat.reduceEqDiff, Nat.reduceAdd, Nat.reduceLeDiff, D.known, D.cells, cellsL_length, hget, hget', Ty.cells_eq c, Ty.cells_eq d, FitPost, FO, wrap_in (n := (pre.length : Int) + 1) (by unfold inI; omega)]) | (with_reducible refine ret_post [1001, 1002] ?_; simp -implicitDefEqProofs only [retD, resAll, oneOrTup, go_sem, ↓reduceIte, reduceCtorEq, Int.reduceToNat, Nat.reduceMul, Nat.reduceLT, Nat.reduceEqDiff, Nat.reduceAdd, Nat.reduceLeDiff, D.known, D.cells, cellsL_length, hget, hget', Ty.cells_eq c, Ty.cells_eq d, FitPost, FO, wrap_in (n := (pre.length : Int) + 1) (by unfold inI; omega)]) | skip)
          | (with_reducible refine Wp.skip ?_; (try simp only [Dw.thenS_normal, Dw.blockS_normal, Dw.noGotoS_normal]))
          | (with_reducible refine Wp.exit ?_; simp only [Dw.thenS_exit, Dw.blockS_exit, Dw.noGotoS_exit, Dw.noGotoS_normal, if_true, Dw.thenS_normal, Dw.blockS_normal, Nat.reduceEqDiff, if_false, ↓reduceIte]))
        | (with_reducible refine And.intro ?_ ?_)
        | (with_reducible refine hK _ ?_; clear hK K)
        | (clear hK K; with_reducible refine hK _ ?_; clear hK K)
        | (clear hK K; clear hK K; with_reducible refine hK _ ?_; clear hK K)
        | ((with_reducible refine opsD_callE (f := 8) ?_; simp -implicitDefEqProofs only [go_sem, ↓reduceIte, reduceCtorEq, Int.reduceToNat, Nat.reduceMul, Nat.reduceLT, Nat.reduceEqDiff, Nat.reduceAdd, Nat.reduceLeDiff]))
        | ((refine callE_same [1001, 1002] _ _ ent8 (by simp [Dw.okDst]) (by decide) (by simp) rfl hcc ?_; rintro _ _ ⟨A2, cap2, rfl, rfl⟩; refine ⟨[1001, 1002], by decide, by simp, ?_⟩; simp -implicitDefEqProofs only [FO, go_sem, ↓reduceIte, reduceCtorEq, Int.reduceToNat, Nat.reduceMul, Nat.reduceLT, Nat.reduceEqDiff, Nat.reduceAdd, Nat.reduceLeDiff]))
        | (with_reducible refine opsD_mark ?_; first | (refine opsD_guardT rfl rfl (fun h => ?_) (fun h => ?_) <;> first | (cases h; done) | (simp -implicitDefEqProofs only [h, go_sem, ↓reduceIte, reduceCtorEq, Int.reduceToNat, Nat.reduceMul, Nat.reduceLT, Nat.reduceEqDiff, Nat.reduceAdd, Nat.reduceLeDiff, D.known, D.cells, cellsL_length, hget, hget', Ty.cells_eq c, Ty.cells_eq d, FitPost, FO, wrap_in (n := (pre.length : Int) + 1) (by unfold inI; omega)]; (try simp only [decide_eq_true_eq, decide_eq_false_iff_not, ne_eq, Classical.not_not] at h); (try (with_reducible change True at h; clear h)))) | (refine opsD_guardF rfl rfl (fun h => ?_) (fun h => ?_) <;> first | (cases h; done) | (simp -implicitDefEqProofs only [h, go_sem, ↓reduceIte, reduceCtorEq, Int.reduceToNat, Nat.reduceMul, Nat.reduceLT, Nat.reduceEqDiff, Nat.reduceAdd, Nat.reduceLeDiff, D.known, D.cells, cellsL_length, hget, hget', Ty.cells_eq c, Ty.cells_eq d, FitPost, FO, wrap_in (n := (pre.length : Int) + 1) (by unfold inI; omega)]; (try simp only [decide_eq_true_eq, decide_eq_false_iff_not, ne_eq, Classical.not_not] at h); (try (with_reducible change True at h; clear h)))) | (refine opsD_guardS rfl rfl ?_; simp -implicitDefEqProofs only [go_sem, ↓reduceIte, reduceCtorEq, Int.reduceToNat, Nat.reduceMul, Nat.reduceLT, Nat.reduceEqDiff, Nat.reduceAdd, Nat.reduceLeDiff, D.known, D.cells, cellsL_length, hget, hget', Ty.cells_eq c, Ty.cells_eq d, FitPost, FO, wrap_in (n := (pre.length : Int) + 1) (by unfold inI; omega)]))
        | (with_reducible refine opsN_mark ?_; first | (refine opsN_guardT rfl rfl (fun h => ?_) (fun h => ?_) <;> first | (cases h; done) | (simp -implicitDefEqProofs only [h, go_sem, ↓reduceIte, reduceCtorEq, Int.reduceToNat, Nat.reduceMul, Nat.reduceLT, Nat.reduceEqDiff, Nat.reduceAdd, Nat.reduceLeDiff, D.known, D.cells, cellsL_length, hget, hget', Ty.cells_eq c, Ty.cells_eq d, FitPost, FO, wrap_in (n := (pre.length : Int) + 1) (by unfold inI; omega)]; (try simp only [decide_eq_true_eq, decide_eq_false_iff_not, ne_eq, Classical.not_not] at h); (try (with_reducible change True at h; clear h)))) | (refine opsN_guardF rfl rfl (fun h => ?_) (fun h => ?_) <;> first | (cases h; done) | (simp -implicitDefEqProofs only [h, go_sem, ↓reduceIte, reduceCtorEq, Int.reduceToNat, Nat.reduceMul, Nat.reduceLT, Nat.reduceEqDiff, Nat.reduceAdd, Nat.reduceLeDiff, D.known, D.cells, cellsL_length, hget, hget', Ty.cells_eq c, Ty.cells_eq d, FitPost, FO, wrap_in (n := (pre.length : Int) + 1) (by unfold inI; omega)]; (try simp only [decide_eq_true_eq, decide_eq_false_iff_not, ne_eq, Classical.not_not] at h); (try (with_reducible change True at h; clear h)))) | (refine opsN_guardS rfl rfl ?_; simp -implicitDefEqProofs only [go_sem, ↓reduceIte, reduceCtorEq, Int.reduceToNat, Nat.reduceMul, Nat.reduceLT, Nat.reduceEqDiff, Nat.reduceAdd, Nat.reduceLeDiff, D.known, D.cells, cellsL_length, hget, hget', Ty.cells_eq c, Ty.cells_eq d, FitPost, FO, wrap_in (n := (pre.length : Int) + 1) (by unfold inI; omega)]))
        | (with_reducible refine pickN_intro (fun h => ?_) (fun h => ?_) <;> first | (cases h; done) | (simp -implicitDefEqProofs only [h, go_sem, ↓reduceIte, reduceCtorEq, Int.reduceToNat, Nat.reduceMul, Nat.reduceLT, Nat.reduceEqDiff, Nat.reduceAdd, Nat.reduceLeDiff, D.known, D.cells, cellsL_length, hget, hget', Ty.cells_eq c, Ty.cells_eq d, FitPost, FO, wrap_in (n := (pre.length : Int) + 1) (by unfold inI; omega)]; (try simp only [decide_eq_true_eq, decide_eq_false_iff_not, ne_eq, Classical.not_not] at h); (try (with_reducible change True at h; clear h))))
        | (with_reducible refine Dw.split_intro (fun h => ?_) (fun h => ?_) <;> simp -implicitDefEqProofs only [h, go_sem, ↓reduceIte, reduceCtorEq, Int.reduceToNat, Nat.reduceMul, Nat.reduceLT, Nat.reduceEqDiff, Nat.reduceAdd, Nat.reduceLeDiff, D.known, D.cells, cellsL_length, hget, hget', Ty.cells_eq c, Ty.cells_eq d, FitPost, FO, wrap_in (n := (pre.length : Int) + 1) (by unfold inI; omega)] <;> (try simp only [decide_eq_true_eq, decide_eq_false_iff_not, ne_eq, Classical.not_not] at h); (try (with_reducible change True at h; clear h)))
        | (with_reducible refine fun _ => ?_; (try simp -implicitDefEqProofs only [go_sem, ↓reduceIte, reduceCtorEq, Int.reduceToNat, Nat.reduceMul, Nat.reduceLT, Nat.reduceEqDiff, Nat.reduceAdd, Nat.reduceLeDiff, D.known, D.cells, cellsL_length, hget, hget', Ty.cells_eq c, Ty.cells_eq d, FitPost, FO, wrap_in (n := (pre.length : Int) + 1) (by unfold inI; omega)]))
        | (with_reducible exact Dw.Le.refl _)
        | (simp -implicitDefEqProofs only [go_sem, ↓reduceIte, reduceCtorEq, Int.reduceToNat, Nat.reduceMul, Nat.reduceLT, Nat.reduceEqDiff, Nat.reduceAdd, Nat.reduceLeDiff, D.known, D.cells, cellsL_length, hget, hget', Ty.cells_eq c, Ty.cells_eq d, FitPost, FO, wrap_in (n := (pre.length : Int) + 1) (by unfold inI; omega)])
      all_goals first
        | (exfalso; omega)
        | omega
        | (refine ⟨suf.length, ⟨97, [(2, .ref 1001 b 0), (3, .rp [.int .i64 a.kind, .str a.name, .int .i64 a.var, .sl false 4 (Ty.cellsL a.args)]), (4, .rp [.int .i64 t.kind, .str t.name, .int .i64 t.var, .sl false 4 (Ty.cellsL t.args)]), (79, .int .i64 a.args.length), (80, .int .i64 ((pre.length : Int) + 1))], [(1001, .cells b [.own 1002 A2 (inst c d f').2.length cap2]), (1002, .row A2 (inst c d f').2.length cap2 47 2 (rowsF (inst c d f').2))]⟩, ?_, Weak.sub ?_ ?_, ⟨pre ++ [c], suf, pre' ++ [d], suf', (inst c d f').2, A2, cap2, ?_, ?_, ?_, ?_, ?_, rfl, ?_⟩⟩
           focus (simp only [List.length_cons] at h5; omega)
           focus ((repeat' first | exact FrSub.nil | exact StSub.nil | (refine FrSub.cons rfl ?_ ?_) | (refine StSub.cons rfl ?_) | exact Dw.Le.refl _); done)
           focus ((repeat' first | exact FrSub.nil | exact StSub.nil | (refine FrSub.cons rfl ?_ ?_) | (refine StSub.cons rfl ?_) | exact Dw.Le.refl _); done)
           focus (rw [h1]; simp; done)
           focus (rw [h2]; simp; done)
           focus (simp [h3]; done)
           focus (rw [h4, if_pos (by assumption)]; done)
           focus omega
           focus (rw [len_snoc]; done))
        | (have hb : (inst c d f').1 = false := by assumption
           rw [hb, if_neg (by decide)] at h4
           rw [hLL, h4]; first | exact ⟨_, _, rfl, rfl⟩ | exact ⟨_, _, rfl⟩)
        | trace_state)
end Go.Proofs.YtjbajnkbiohoeaaDoor
