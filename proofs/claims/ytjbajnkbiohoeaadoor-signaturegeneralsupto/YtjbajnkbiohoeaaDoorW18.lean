/-
  Facts on the way to the statement of this claim: contracts of the program's functions and what they reckon. No condition beyond those that each theorem bears.
-/
import Derived.Test.YtjbajnkbiohoeaaDoorW19
namespace Go.Proofs.YtjbajnkbiohoeaaDoor
open Go Go.Dw
set_option maxHeartbeats 4000000 in
set_option maxRecDepth 100000 in
theorem call18 (m : Nat) : ∀ a b : Ty, a.wt ≤ 1000000000000 → b.wt ≤ 1000000000000 → a.wt ≤ m → CallR Tryd.prog [] 18 [.agg a.cells, .agg b.cells] [] (.bool (same a b)) := by
  induction m using Nat.strongRecOn with
  | _ m ih =>
  intro a b ha hb hm
  have la := length_wtL a.args
  have lb := length_wtL b.args
  have wa := a.wt_eq
  have wb := b.wt_eq
  have hargs : CallR Tryd.prog [] 19 [.sl false 4 (Ty.cellsL a.args), .sl false 4 (Ty.cellsL b.args), .fn 18 [] []] [] (.bool (sameL a.args b.args)) := by
    refine call19 (by omega) (by omega) fun x hx y hy => ?_
    have h1 := wt_arg hx
    have h2 := wt_arg hy
    rw [← Ty.cells_eq x, ← Ty.cells_eq y]
    exact ih x.wt (by omega) x y (by omega) (by omega) (Nat.le_refl _)
  rw [same_eq]
  refine CallR.of_pure Tryd.func18 rfl (by simp [Tryd.ntmps18]) fun X B0 w0 => ?_
  simp only [Tryd.results18, Tryd.ntmps18, numF, Ty.cells_eq]
  repeat' first
    | (with_reducible refine Wp.gate ?_; first
      | (with_reducible refine Wp.seq fun K hK => ?_)
      | (with_reducible refine Wp.region ?_; simp -implicitDefEqProofs only [go_sem, ↓reduceIte, reduceCtorEq, Nat.reduceLT, Nat.reduceEqDiff, Nat.reduceAdd, Nat.reduceLeDiff, D.known, D.cells])
      | (with_reducible refine Wp.region' ?_; first
        | (refine Wp.regionPure (by decide +kernel) mixed (by decide +kernel) (by decide +kernel) ?_; simp -implicitDefEqProofs only [go_sem, ↓reduceIte, reduceCtorEq, Nat.reduceLT, Nat.reduceEqDiff, Nat.reduceAdd, Nat.reduceLeDiff, D.known, D.cells])
        | (refine Wp.regionTail' 1 (by decide +kernel) mixed (by decide +kernel) (by decide +kernel) ?_; simp -implicitDefEqProofs only [List.length_cons, List.length_nil, Nat.reduceAdd, Nat.reduceSub, go_sem, ↓reduceIte, reduceCtorEq, Nat.reduceLT, Nat.reduceEqDiff, Nat.reduceAdd, Nat.reduceLeDiff, D.known, D.cells])
        | (refine Wp.regionTail' 2 (by decide +kernel) mixed (by decide +kernel) (by decide +kernel) ?_; simp -implicitDefEqProofs only [List.length_cons, List.length_nil, Nat.reduceAdd, Nat.reduceSub, go_sem, ↓reduceIte, reduceCtorEq, Nat.reduceLT, Nat.reduceEqDiff, Nat.reduceAdd, Nat.reduceLeDiff, D.known, D.cells])
        | (refine Wp.regionTail' 3 (by decide +kernel) mixed (by decide +kernel) (by decide +kernel) ?_; simp -implicitDefEqProofs only [List.length_cons, List.length_nil, Nat.reduceAdd, Nat.reduceSub, go_sem, ↓reduceIte, reduceCtorEq, Nat.reduceLT, Nat.reduceEqDiff, Nat.reduceAdd, Nat.reduceLeDiff, D.known, D.cells])
        | (refine Wp.regionTail' 4 (by decide +kernel) mixed (by decide +kernel) (by decide +kernel) ?_; simp -implicitDefEqProofs only [List.length_cons, List.length_nil, Nat.reduceAdd, Nat.reduceSub, go_sem, ↓reduceIte, reduceCtorEq, Nat.reduceLT, Nat.reduceEqDiff, Nat.reduceAdd, Nat.reduceLeDiff, D.known, D.cells])
        | (refine Wp.regionTail' 5 (by decide +kernel) mixed (by decide +kernel) (by decide +kernel) ?_; simp -implicitDefEqProofs only [List.length_cons, List.length_nil, Nat.reduceAdd, Nat.reduceSub, go_sem, ↓reduceIte, reduceCtorEq, Nat.reduceLT, Nat.reduceEqDiff, Nat.reduceAdd, Nat.reduceLeDiff, D.known, D.cells])
        | (refine Wp.regionTail' 6 (by decide +kernel) mixed (by decide +kernel) (by decide +kernel) ?_; simp -implicitDefEqProofs only [List.length_cons, List.length_nil, Nat.reduceAdd, Nat.reduceSub, go_sem, ↓reduceIte, reduceCtorEq, Nat.reduceLT, Nat.reduceEqDiff, Nat.reduceAdd, Nat.reduceLeDiff, D.known, D.cells])
        | (refine Wp.regionAll mixed (by decide +kernel) (by decide +kernel) ?_; simp -implicitDefEqProofs only [go_sem, ↓reduceIte, reduceCtorEq, Nat.reduceLT, Nat.reduceEqDiff, Nat.reduceAdd, Nat.reduceLeDiff, D.known, D.cells]))
      | (with_reducible refine Wp.cond' ?_; refine Wp.cond rfl (fun h => ?_) (fun h => ?_) <;> first | (cases h; done) | (simp only [decide_eq_true_eq, decide_eq_false_iff_not, Bool.not_eq_true', Bool.not_eq_false', ne_eq, Classical.not_not] at h) | skip)
      | (with_reducible refine Wp.block ?_)
      | (with_reducible refine Wp.scope ?_)
      | (with_reducible refine Wp.label ?_; (try simp only [Dw.thenS_normal, Dw.blockS_normal, Dw.noGotoS_normal]))
      | (with_reducible refine Wp.ret ?_; (try simp only [Dw.thenS_ret, Dw.blockS_ret, Dw.noGotoS_ret]); first | (with_reducible refine ret_pure ?_; simp -implicitDefEqProofs only [retD, resAll, oneOrTup, go_sem, ↓reduceIte, reduceCtorEq, Nat.reduceLT, Nat.reduceEqDiff, Nat.reduceAdd, Nat.reduceLeDiff, D.known, D.cells]) | skip)
      | (with_reducible refine Wp.skip ?_; (try simp only [Dw.thenS_normal, Dw.blockS_normal, Dw.noGotoS_normal]))
      | (with_reducible refine Wp.exit ?_; simp only [Dw.thenS_exit, Dw.blockS_exit, Dw.noGotoS_exit, Dw.noGotoS_normal, if_true, Dw.thenS_normal, Dw.blockS_normal, Nat.reduceEqDiff, if_false, ↓reduceIte]))
    | (with_reducible refine And.intro ?_ ?_)
    | (with_reducible refine hK _ ?_; clear hK K)
    | (clear hK K; with_reducible refine hK _ ?_; clear hK K)
    | (clear hK K; clear hK K; with_reducible refine hK _ ?_; clear hK K)
    | (with_reducible refine opsD_callN (f := 19) ?_; simp -implicitDefEqProofs only [go_sem, ↓reduceIte, reduceCtorEq, Nat.reduceLT, Nat.reduceEqDiff, Nat.reduceAdd, Nat.reduceLeDiff, D.known, D.cells])
    | (with_reducible refine stepD_callN (f := 19) ?_; simp -implicitDefEqProofs only [go_sem, ↓reduceIte, reduceCtorEq, Nat.reduceLT, Nat.reduceEqDiff, Nat.reduceAdd, Nat.reduceLeDiff, D.known, D.cells])
    | (with_reducible refine callN_same ent19 (hargs) ?_)
    | (with_reducible refine opsD_mark ?_; first | (refine opsD_guardT rfl rfl (fun h => ?_) (fun h => ?_) <;> first | (cases h; done) | (simp -implicitDefEqProofs only [h, go_sem, ↓reduceIte, reduceCtorEq, Nat.reduceLT, Nat.reduceEqDiff, Nat.reduceAdd, Nat.reduceLeDiff, D.known, D.cells]; (try simp only [decide_eq_true_eq, decide_eq_false_iff_not, ne_eq, Classical.not_not] at h); (try (with_reducible change True at h; clear h)))) | (refine opsD_guardF rfl rfl (fun h => ?_) (fun h => ?_) <;> first | (cases h; done) | (simp -implicitDefEqProofs only [h, go_sem, ↓reduceIte, reduceCtorEq, Nat.reduceLT, Nat.reduceEqDiff, Nat.reduceAdd, Nat.reduceLeDiff, D.known, D.cells]; (try simp only [decide_eq_true_eq, decide_eq_false_iff_not, ne_eq, Classical.not_not] at h); (try (with_reducible change True at h; clear h)))) | (refine opsD_guardS rfl rfl ?_; simp -implicitDefEqProofs only [go_sem, ↓reduceIte, reduceCtorEq, Nat.reduceLT, Nat.reduceEqDiff, Nat.reduceAdd, Nat.reduceLeDiff, D.known, D.cells]))
    | (with_reducible refine opsN_mark ?_; first | (refine opsN_guardT rfl rfl (fun h => ?_) (fun h => ?_) <;> first | (cases h; done) | (simp -implicitDefEqProofs only [h, go_sem, ↓reduceIte, reduceCtorEq, Nat.reduceLT, Nat.reduceEqDiff, Nat.reduceAdd, Nat.reduceLeDiff, D.known, D.cells]; (try simp only [decide_eq_true_eq, decide_eq_false_iff_not, ne_eq, Classical.not_not] at h); (try (with_reducible change True at h; clear h)))) | (refine opsN_guardF rfl rfl (fun h => ?_) (fun h => ?_) <;> first | (cases h; done) | (simp -implicitDefEqProofs only [h, go_sem, ↓reduceIte, reduceCtorEq, Nat.reduceLT, Nat.reduceEqDiff, Nat.reduceAdd, Nat.reduceLeDiff, D.known, D.cells]; (try simp only [decide_eq_true_eq, decide_eq_false_iff_not, ne_eq, Classical.not_not] at h); (try (with_reducible change True at h; clear h)))) | (refine opsN_guardS rfl rfl ?_; simp -implicitDefEqProofs only [go_sem, ↓reduceIte, reduceCtorEq, Nat.reduceLT, Nat.reduceEqDiff, Nat.reduceAdd, Nat.reduceLeDiff, D.known, D.cells]))
    | (with_reducible refine pickN_intro (fun h => ?_) (fun h => ?_) <;> first | (cases h; done) | (simp -implicitDefEqProofs only [h, go_sem, ↓reduceIte, reduceCtorEq, Nat.reduceLT, Nat.reduceEqDiff, Nat.reduceAdd, Nat.reduceLeDiff, D.known, D.cells]; (try simp only [decide_eq_true_eq, decide_eq_false_iff_not, ne_eq, Classical.not_not] at h); (try (with_reducible change True at h; clear h))))
    | (with_reducible refine Dw.split_intro (fun h => ?_) (fun h => ?_) <;> simp -implicitDefEqProofs only [h, go_sem, ↓reduceIte, reduceCtorEq, Nat.reduceLT, Nat.reduceEqDiff, Nat.reduceAdd, Nat.reduceLeDiff, D.known, D.cells] <;> (try simp only [decide_eq_true_eq, decide_eq_false_iff_not, ne_eq, Classical.not_not] at h); (try (with_reducible change True at h; clear h)))
    | (with_reducible refine fun _ => ?_; (try simp -implicitDefEqProofs only [go_sem, ↓reduceIte, reduceCtorEq, Nat.reduceLT, Nat.reduceEqDiff, Nat.reduceAdd, Nat.reduceLeDiff, D.known, D.cells]))
    | (with_reducible exact Dw.Le.refl _)
    | (simp -implicitDefEqProofs only [go_sem, ↓reduceIte, reduceCtorEq, Nat.reduceLT, Nat.reduceEqDiff, Nat.reduceAdd, Nat.reduceLeDiff, D.known, D.cells])
  all_goals (refine Le_bool ?_; clear ih hargs; grind)
theorem same_call {a b : Ty} (ha : a.wt ≤ 1000000000000) (hb : b.wt ≤ 1000000000000) : CallR Tryd.prog [] 18 [.agg a.cells, .agg b.cells] [] (.bool (same a b)) := call18 _ a b ha hb (Nat.le_refl _)
end Go.Proofs.YtjbajnkbiohoeaaDoor
