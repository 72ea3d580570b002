/-
  Facts on the way to the statement of this claim: contracts of the program's functions and what they reckon. No condition beyond those that each theorem bears.
-/
import Derived.Test.YtjbajnkbiohoeaaDoorW4
import Derived.Test.YtjbajnkbiohoeaaDoorW5
namespace Go.Proofs.YtjbajnkbiohoeaaDoor
open Go Go.Dw
def exV : Sc := ⟨1, [], .mk 0 [] 0 []⟩
def exW : Sc := ⟨0, [], .mk 1 [105, 110, 116] 0 []⟩
theorem exV_ok : exV.ok := ⟨by simp [exV, Ty.ok, Ty.okL, inI], by simp [exV, Ty.wt, Ty.wtL], by simp [exV], by simp [exV]⟩
theorem exW_ok : exW.ok := ⟨by simp [exW, Ty.ok, Ty.okL, inI], by simp [exW, Ty.wt, Ty.wtL], by simp [exW], by simp [exW]⟩
theorem exV_err : err exV.ty exV.vars 1 = 0 := by decide
theorem exW_err : err exW.ty exW.vars 1 = 0 := by decide
theorem ex_gen : gen exV exW = true := by simp [gen, exV, exW, inst, fget]
theorem callEx {E : Env} {φ : St} {dst : Option Tmp} {κ : St → Prop} (hd : okDst φ.N dst) (hG : E.G = GA)
    (hK : κ { φ with fr := putF dst (.tup [.bool true, .int .i64 0]) φ.fr, st := φ.st }) :
    callE Tryd.prog E φ (.fn 4 [] []) [.agg [.int .i64 1, .nil, .int .i64 0, .str [], .int .i64 0, .nil], .agg [.int .i64 0, .nil, .int .i64 1, .str [105, 110, 116], .int .i64 0, .nil]] dst κ := by
  refine callE_of [] (fun d S' => d = .tup [.bool (gen exV exW), .int .i64 0] ∧ S' = []) ent4 hd (ds' := [.agg exV.cells, .agg exW.cells]) ?_ (by simp) (by simp) (by simp) (by rw [hG]; exact call4e exV_ok exW_ok rfl (by decide) (by decide) exV_err rfl (by decide) (by decide) exW_err) ?_
  · refine .cons (.aggs ?_) (.cons (.aggs ?_) .nil)
    · exact .cons (.refl _) (.cons (.nil _ _) (.cons (.refl _) (.cons (.refl _) (.cons (.refl _) (.cons (.nil _ _) .nil)))))
    · exact .cons (.refl _) (.cons (.nil _ _) (.cons (.refl _) (.cons (.refl _) (.cons (.refl _) (.cons (.nil _ _) .nil)))))
  · rintro d S' ⟨rfl, rfl⟩
    refine ⟨[], by simp, by simp, ?_⟩
    rw [ex_gen]
    simpa [ren, dropAll] using hK
set_option maxHeartbeats 8000000 in
set_option maxRecDepth 100000 in
theorem call3 {a b : Sc} (ha : a.ok) (hb : b.ok) : CallTo Tryd.prog GA 3 [.agg a.cells, .agg b.cells] [] fun d S' => d = .bool true ∧ S' = [] := by
  have c4 := call4 ha hb
  have c5 := CallTo.glob (G := GA) (call5 ha hb)
  rw [Sc.cells_eq a, Sc.cells_eq b] at c4 c5
  refine CallTo.of_walk Tryd.func3 rfl (by simp [Tryd.ntmps3]) fun X B0 w0 => ?_
  simp only [Tryd.results3, Tryd.ntmps3, numF, Sc.cells_eq]
  repeat' first
    | (with_reducible refine Wp.gate ?_; first
      | (with_reducible refine Wp.seq fun K hK => ?_)
      | (with_reducible refine Wp.region ?_; simp -implicitDefEqProofs only [go_sem, ↓reduceIte, reduceCtorEq, Int.reduceToNat, Nat.reduceMul, Nat.reduceLT, Nat.reduceEqDiff, Nat.reduceAdd, Nat.reduceLeDiff, D.known, D.cells])
      | (with_reducible refine Wp.region' ?_; first
        | (refine Wp.regionPure (by decide +kernel) mixed (by decide +kernel) (by decide +kernel) ?_; simp -implicitDefEqProofs only [go_sem, ↓reduceIte, reduceCtorEq, Int.reduceToNat, Nat.reduceMul, Nat.reduceLT, Nat.reduceEqDiff, Nat.reduceAdd, Nat.reduceLeDiff, D.known, D.cells])
        | (refine Wp.regionTail' 1 (by decide +kernel) mixed (by decide +kernel) (by decide +kernel) ?_; simp -implicitDefEqProofs only [List.length_cons, List.length_nil, Nat.reduceAdd, Nat.reduceSub, go_sem, ↓reduceIte, reduceCtorEq, Int.reduceToNat, Nat.reduceMul, Nat.reduceLT, Nat.reduceEqDiff, Nat.reduceAdd, Nat.reduceLeDiff, D.known, D.cells])
        | (refine Wp.regionTail' 2 (by decide +kernel) mixed (by decide +kernel) (by decide +kernel) ?_; simp -implicitDefEqProofs only [List.length_cons, List.length_nil, Nat.reduceAdd, Nat.reduceSub, go_sem, ↓reduceIte, reduceCtorEq, Int.reduceToNat, Nat.reduceMul, Nat.reduceLT, Nat.reduceEqDiff, Nat.reduceAdd, Nat.reduceLeDiff, D.known, D.cells])
        | (refine Wp.regionTail' 3 (by decide +kernel) mixed (by decide +kernel) (by decide +kernel) ?_; simp -implicitDefEqProofs only [List.length_cons, List.length_nil, Nat.reduceAdd, Nat.reduceSub, go_sem, ↓reduceIte, reduceCtorEq, Int.reduceToNat, Nat.reduceMul, Nat.reduceLT, Nat.reduceEqDiff, Nat.reduceAdd, Nat.reduceLeDiff, D.known, D.cells])
        | (refine Wp.regionTail' 4 (by decide +kernel) mixed (by decide +kernel) (by decide +kernel) ?_; simp -implicitDefEqProofs only [List.length_cons, List.length_nil, Nat.reduceAdd, Nat.reduceSub, go_sem, ↓reduceIte, reduceCtorEq, Int.reduceToNat, Nat.reduceMul, Nat.reduceLT, Nat.reduceEqDiff, Nat.reduceAdd, Nat.reduceLeDiff, D.known, D.cells])
        | (refine Wp.regionTail' 5 (by decide +kernel) mixed (by decide +kernel) (by decide +kernel) ?_; simp -implicitDefEqProofs only [List.length_cons, List.length_nil, Nat.reduceAdd, Nat.reduceSub, go_sem, ↓reduceIte, reduceCtorEq, Int.reduceToNat, Nat.reduceMul, Nat.reduceLT, Nat.reduceEqDiff, Nat.reduceAdd, Nat.reduceLeDiff, D.known, D.cells])
        | (refine Wp.regionTail' 6 (by decide +kernel) mixed (by decide +kernel) (by decide +kernel) ?_; simp -implicitDefEqProofs only [List.length_cons, List.length_nil, Nat.reduceAdd, Nat.reduceSub, go_sem, ↓reduceIte, reduceCtorEq, Int.reduceToNat, Nat.reduceMul, Nat.reduceLT, Nat.reduceEqDiff, Nat.reduceAdd, Nat.reduceLeDiff, D.known, D.cells])
        | (refine Wp.regionAll mixed (by decide +kernel) (by decide +kernel) ?_; simp -implicitDefEqProofs only [go_sem, ↓reduceIte, reduceCtorEq, Int.reduceToNat, Nat.reduceMul, Nat.reduceLT, Nat.reduceEqDiff, Nat.reduceAdd, Nat.reduceLeDiff, D.known, D.cells]))
      | (with_reducible refine Wp.cond' ?_; refine Wp.cond rfl (fun h => ?_) (fun h => ?_) <;> first | (cases h; done) | (simp only [decide_eq_true_eq, decide_eq_false_iff_not, Bool.not_eq_true', Bool.not_eq_false', ne_eq, Classical.not_not] at h) | skip)
      | (with_reducible refine Wp.block ?_)
      | (with_reducible refine Wp.scope ?_)
      | (with_reducible refine Wp.label ?_; (try simp only [Dw.thenS_normal, Dw.blockS_normal, Dw.noGotoS_normal]))
      | (with_reducible refine Wp.ret ?_; (try simp only [Dw.thenS_ret, Dw.blockS_ret, Dw.noGotoS_ret]); first | (with_reducible refine ret_pure ?_; simp -implicitDefEqProofs only [retD, resAll, oneOrTup, go_sem, ↓reduceIte, reduceCtorEq, Int.reduceToNat, Nat.reduceMul, Nat.reduceLT, Nat.reduceEqDiff, Nat.reduceAdd, Nat.reduceLeDiff, D.known, D.cells]) | (with_reducible refine ret_post [] ?_; simp -implicitDefEqProofs only [retD, resAll, oneOrTup, go_sem, ↓reduceIte, reduceCtorEq, Int.reduceToNat, Nat.reduceMul, Nat.reduceLT, Nat.reduceEqDiff, Nat.reduceAdd, Nat.reduceLeDiff, D.known, D.cells]) | skip)
      | (with_reducible refine Wp.skip ?_; (try simp only [Dw.thenS_normal, Dw.blockS_normal, Dw.noGotoS_normal]))
      | (with_reducible refine Wp.exit ?_; simp only [Dw.thenS_exit, Dw.blockS_exit, Dw.noGotoS_exit, Dw.noGotoS_normal, if_true, Dw.thenS_normal, Dw.blockS_normal, Nat.reduceEqDiff, if_false, ↓reduceIte]))
    | (with_reducible refine And.intro ?_ ?_)
    | (with_reducible refine hK _ ?_; clear hK K)
    | (clear hK K; with_reducible refine hK _ ?_; clear hK K)
    | (clear hK K; clear hK K; with_reducible refine hK _ ?_; clear hK K)
    | ((with_reducible refine opsD_callE (f := 4) ?_; simp -implicitDefEqProofs only [go_sem, ↓reduceIte, reduceCtorEq, Int.reduceToNat, Nat.reduceMul, Nat.reduceLT, Nat.reduceEqDiff, Nat.reduceAdd, Nat.reduceLeDiff]))
    | ((with_reducible refine stepD_callE (f := 5) ?_; simp -implicitDefEqProofs only [go_sem, ↓reduceIte, reduceCtorEq, Int.reduceToNat, Nat.reduceMul, Nat.reduceLT, Nat.reduceEqDiff, Nat.reduceAdd, Nat.reduceLeDiff]))
    | ((refine callEx (by simp [Dw.okDst]) rfl ?_; simp -implicitDefEqProofs only [go_sem, ↓reduceIte, reduceCtorEq, Int.reduceToNat, Nat.reduceMul, Nat.reduceLT, Nat.reduceEqDiff, Nat.reduceAdd, Nat.reduceLeDiff]))
    | ((refine callE_same [] _ _ ent4 (by simp [Dw.okDst]) (by decide) (by simp) rfl c4 ?_; rintro _ _ ⟨x, e, rfl, hxe, rfl⟩; refine ⟨[], by decide, by simp, ?_⟩; simp -implicitDefEqProofs only [go_sem, ↓reduceIte, reduceCtorEq, Int.reduceToNat, Nat.reduceMul, Nat.reduceLT, Nat.reduceEqDiff, Nat.reduceAdd, Nat.reduceLeDiff]))
    | ((refine callE_same [] _ _ ent5 (by simp [Dw.okDst]) (by decide) (by simp) rfl c5 ?_; rintro _ _ ⟨rfl, rfl⟩; refine ⟨[], by decide, by simp, ?_⟩; simp -implicitDefEqProofs only [go_sem, ↓reduceIte, reduceCtorEq, Int.reduceToNat, Nat.reduceMul, Nat.reduceLT, Nat.reduceEqDiff, Nat.reduceAdd, Nat.reduceLeDiff]))
    | (with_reducible refine opsD_mark ?_; first | (refine opsD_guardT rfl rfl (fun h => ?_) (fun h => ?_) <;> first | (cases h; done) | ((try simp -implicitDefEqProofs only [h, go_sem, ↓reduceIte, reduceCtorEq, Int.reduceToNat, Nat.reduceMul, Nat.reduceLT, Nat.reduceEqDiff, Nat.reduceAdd, Nat.reduceLeDiff, D.known, D.cells]); (try simp only [decide_eq_true_eq, decide_eq_false_iff_not, ne_eq, Classical.not_not] at h); (try (with_reducible change True at h; clear h)))) | (refine opsD_guardF rfl rfl (fun h => ?_) (fun h => ?_) <;> first | (cases h; done) | ((try simp -implicitDefEqProofs only [h, go_sem, ↓reduceIte, reduceCtorEq, Int.reduceToNat, Nat.reduceMul, Nat.reduceLT, Nat.reduceEqDiff, Nat.reduceAdd, Nat.reduceLeDiff, D.known, D.cells]); (try simp only [decide_eq_true_eq, decide_eq_false_iff_not, ne_eq, Classical.not_not] at h); (try (with_reducible change True at h; clear h)))) | (refine opsD_guardS rfl rfl ?_; simp -implicitDefEqProofs only [go_sem, ↓reduceIte, reduceCtorEq, Int.reduceToNat, Nat.reduceMul, Nat.reduceLT, Nat.reduceEqDiff, Nat.reduceAdd, Nat.reduceLeDiff, D.known, D.cells]))
    | (with_reducible refine opsN_mark ?_; first | (refine opsN_guardT rfl rfl (fun h => ?_) (fun h => ?_) <;> first | (cases h; done) | ((try simp -implicitDefEqProofs only [h, go_sem, ↓reduceIte, reduceCtorEq, Int.reduceToNat, Nat.reduceMul, Nat.reduceLT, Nat.reduceEqDiff, Nat.reduceAdd, Nat.reduceLeDiff, D.known, D.cells]); (try simp only [decide_eq_true_eq, decide_eq_false_iff_not, ne_eq, Classical.not_not] at h); (try (with_reducible change True at h; clear h)))) | (refine opsN_guardF rfl rfl (fun h => ?_) (fun h => ?_) <;> first | (cases h; done) | ((try simp -implicitDefEqProofs only [h, go_sem, ↓reduceIte, reduceCtorEq, Int.reduceToNat, Nat.reduceMul, Nat.reduceLT, Nat.reduceEqDiff, Nat.reduceAdd, Nat.reduceLeDiff, D.known, D.cells]); (try simp only [decide_eq_true_eq, decide_eq_false_iff_not, ne_eq, Classical.not_not] at h); (try (with_reducible change True at h; clear h)))) | (refine opsN_guardS rfl rfl ?_; simp -implicitDefEqProofs only [go_sem, ↓reduceIte, reduceCtorEq, Int.reduceToNat, Nat.reduceMul, Nat.reduceLT, Nat.reduceEqDiff, Nat.reduceAdd, Nat.reduceLeDiff, D.known, D.cells]))
    | (with_reducible refine pickN_intro (fun h => ?_) (fun h => ?_) <;> first | (cases h; done) | ((try simp -implicitDefEqProofs only [h, go_sem, ↓reduceIte, reduceCtorEq, Int.reduceToNat, Nat.reduceMul, Nat.reduceLT, Nat.reduceEqDiff, Nat.reduceAdd, Nat.reduceLeDiff, D.known, D.cells]); (try simp only [decide_eq_true_eq, decide_eq_false_iff_not, ne_eq, Classical.not_not] at h); (try (with_reducible change True at h; clear h))))
    | (with_reducible refine Dw.split_intro (fun h => ?_) (fun h => ?_) <;> simp -implicitDefEqProofs only [h, go_sem, ↓reduceIte, reduceCtorEq, Int.reduceToNat, Nat.reduceMul, Nat.reduceLT, Nat.reduceEqDiff, Nat.reduceAdd, Nat.reduceLeDiff, D.known, D.cells] <;> (try simp only [decide_eq_true_eq, decide_eq_false_iff_not, ne_eq, Classical.not_not] at h); (try (with_reducible change True at h; clear h)))
    | (with_reducible refine fun _ => ?_; (try simp -implicitDefEqProofs only [go_sem, ↓reduceIte, reduceCtorEq, Int.reduceToNat, Nat.reduceMul, Nat.reduceLT, Nat.reduceEqDiff, Nat.reduceAdd, Nat.reduceLeDiff, D.known, D.cells]))
    | (with_reducible exact Dw.Le.refl _)
    | (simp -implicitDefEqProofs only [go_sem, ↓reduceIte, reduceCtorEq, Int.reduceToNat, Nat.reduceMul, Nat.reduceLT, Nat.reduceEqDiff, Nat.reduceAdd, Nat.reduceLeDiff, D.known, D.cells])
  all_goals (clear c4 c5; rcases hxe with ⟨h1, rfl⟩ | ⟨h1, rfl⟩ <;> first | contradiction | (simp; done) | (exfalso; simp_all; done) | trace_state)
end Go.Proofs.YtjbajnkbiohoeaaDoor
