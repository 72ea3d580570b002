/-
  Facts on the way to the statement of this claim: contracts of the program's functions and what they reckon. No condition beyond those that each theorem bears.
-/
import Derived.Test.YtjbajnkbiohoeaaDoorW19i
namespace Go.Proofs.YtjbajnkbiohoeaaDoor
open Go Go.Dw
set_option maxHeartbeats 8000000 in
set_option maxRecDepth 100000 in
theorem call11 (r m : Nat) : ∀ (a b : Ty) (f : Fd), a.wt ≤ m → a.wt ≤ 1000000000000 → b.wt ≤ 1000000000000 → okF f →
    CallTo Tryd.prog [] 11 [.rp [.mapr 1000 r], .agg a.cells, .agg b.cells] [(1000, .map r (es f))] (InstPost r (inst a b f)) := by
  induction m using Nat.strongRecOn with
  | _ m ih =>
  intro a b f hm hwa hwb hwf
  have hwt := a.wt_eq
  have hwt' := b.wt_eq
  have hlen := length_wtL a.args
  have hlen' := length_wtL b.args
  have hrec : CallTo Tryd.prog [] 19 [.sl false 4 (Ty.cellsL a.args), .sl false 4 (Ty.cellsL b.args), .fn 11 [.rp [.mapr 1000 r]] []] [(1000, .map r (es f))] (InstPost r (instA a.args b.args f)) :=
    call19i (by omega) (by omega) hwf (fun c hc => Nat.le_trans (Nat.le_of_lt (wt_arg hc)) hwb) fun c hc d hd f' hf' => by
      have h1 := wt_arg hc
      have h2 := wt_arg hd
      rw [← Ty.cells_eq c, ← Ty.cells_eq d]
      exact ih c.wt (by omega) c d f' (Nat.le_refl _) (by omega) (by omega) hf'
  have hsame : ∀ t, fget f a.var = some t → CallR Tryd.prog [] 18 [.agg [.int .i64 t.kind, .str t.name, .int .i64 t.var, .sl false 4 (Ty.cellsL t.args)], .agg [.int .i64 b.kind, .str b.name, .int .i64 b.var, .sl false 4 (Ty.cellsL b.args)]] [] (.bool (same t b)) := fun t ht => by
    rw [← Ty.cells_eq b, ← Ty.cells_eq t]
    exact same_call (okF_get hwf ht) hwb
  have hun : fget f a.var = none → unlook (.int .i64 a.var) (.agg [.int .i64 b.kind, .str b.name, .int .i64 b.var, .sl false 4 (Ty.cellsL b.args)]) (es f) = some (es (f ++ [(a.var, b)])) := fun h => by
    rw [← Ty.cells_eq b]; exact unlook_es h
  clear ih
  cases hg : fget f a.var with
  | some t =>
    have hie0 : a.kind = 0 → inst a b f = (same t b, f) := fun h => by rw [inst_eq, if_pos h, hg]
    clear hun
    refine CallTo.of_walk Tryd.func11 rfl (by simp [Tryd.ntmps11]) fun X B0 w0 => ?_
    simp only [Tryd.results11, Tryd.ntmps11, numF, Ty.cells_eq]
    repeat' first
      | (with_reducible refine Wp.gate ?_; first
        | (with_reducible refine Wp.seq fun K hK => ?_)
        | (with_reducible refine Wp.region ?_; simp -implicitDefEqProofs only [go_sem, ↓reduceIte, reduceCtorEq, Nat.reduceLT, Nat.reduceEqDiff, Nat.reduceAdd, Nat.reduceLeDiff, D.known, D.cells, cellsL_length, findD_es, hg, Ty.cells_eq t, InstPost])
        | (with_reducible refine Wp.region' ?_; first
          | (refine Wp.regionPure (by decide +kernel) mixed (by decide +kernel) (by decide +kernel) ?_; simp -implicitDefEqProofs only [go_sem, ↓reduceIte, reduceCtorEq, Nat.reduceLT, Nat.reduceEqDiff, Nat.reduceAdd, Nat.reduceLeDiff, D.known, D.cells, cellsL_length, findD_es, hg, Ty.cells_eq t, InstPost])
          | (refine Wp.regionTail' 1 (by decide +kernel) mixed (by decide +kernel) (by decide +kernel) ?_; simp -implicitDefEqProofs only [List.length_cons, List.length_nil, Nat.reduceAdd, Nat.reduceSub, go_sem, ↓reduceIte, reduceCtorEq, Nat.reduceLT, Nat.reduceEqDiff, Nat.reduceAdd, Nat.reduceLeDiff, D.known, D.cells, cellsL_length, findD_es, hg, Ty.cells_eq t, InstPost])
          | (refine Wp.regionTail' 2 (by decide +kernel) mixed (by decide +kernel) (by decide +kernel) ?_; simp -implicitDefEqProofs only [List.length_cons, List.length_nil, Nat.reduceAdd, Nat.reduceSub, go_sem, ↓reduceIte, reduceCtorEq, Nat.reduceLT, Nat.reduceEqDiff, Nat.reduceAdd, Nat.reduceLeDiff, D.known, D.cells, cellsL_length, findD_es, hg, Ty.cells_eq t, InstPost])
          | (refine Wp.regionTail' 3 (by decide +kernel) mixed (by decide +kernel) (by decide +kernel) ?_; simp -implicitDefEqProofs only [List.length_cons, List.length_nil, Nat.reduceAdd, Nat.reduceSub, go_sem, ↓reduceIte, reduceCtorEq, Nat.reduceLT, Nat.reduceEqDiff, Nat.reduceAdd, Nat.reduceLeDiff, D.known, D.cells, cellsL_length, findD_es, hg, Ty.cells_eq t, InstPost])
          | (refine Wp.regionTail' 4 (by decide +kernel) mixed (by decide +kernel) (by decide +kernel) ?_; simp -implicitDefEqProofs only [List.length_cons, List.length_nil, Nat.reduceAdd, Nat.reduceSub, go_sem, ↓reduceIte, reduceCtorEq, Nat.reduceLT, Nat.reduceEqDiff, Nat.reduceAdd, Nat.reduceLeDiff, D.known, D.cells, cellsL_length, findD_es, hg, Ty.cells_eq t, InstPost])
          | (refine Wp.regionTail' 5 (by decide +kernel) mixed (by decide +kernel) (by decide +kernel) ?_; simp -implicitDefEqProofs only [List.length_cons, List.length_nil, Nat.reduceAdd, Nat.reduceSub, go_sem, ↓reduceIte, reduceCtorEq, Nat.reduceLT, Nat.reduceEqDiff, Nat.reduceAdd, Nat.reduceLeDiff, D.known, D.cells, cellsL_length, findD_es, hg, Ty.cells_eq t, InstPost])
          | (refine Wp.regionTail' 6 (by decide +kernel) mixed (by decide +kernel) (by decide +kernel) ?_; simp -implicitDefEqProofs only [List.length_cons, List.length_nil, Nat.reduceAdd, Nat.reduceSub, go_sem, ↓reduceIte, reduceCtorEq, Nat.reduceLT, Nat.reduceEqDiff, Nat.reduceAdd, Nat.reduceLeDiff, D.known, D.cells, cellsL_length, findD_es, hg, Ty.cells_eq t, InstPost])
          | (refine Wp.regionAll mixed (by decide +kernel) (by decide +kernel) ?_; simp -implicitDefEqProofs only [go_sem, ↓reduceIte, reduceCtorEq, Nat.reduceLT, Nat.reduceEqDiff, Nat.reduceAdd, Nat.reduceLeDiff, D.known, D.cells, cellsL_length, findD_es, hg, Ty.cells_eq t, InstPost]))
        | (with_reducible refine Wp.cond' ?_; refine Wp.cond rfl (fun h => ?_) (fun h => ?_) <;> first | (cases h; done) | (simp only [decide_eq_true_eq, decide_eq_false_iff_not, Bool.not_eq_true', Bool.not_eq_false', ne_eq, Classical.not_not] at h) | skip)
        | (with_reducible refine Wp.block ?_)
        | (with_reducible refine Wp.scope ?_)
        | (with_reducible refine Wp.label ?_; (try simp only [Dw.thenS_normal, Dw.blockS_normal, Dw.noGotoS_normal]))
        | (with_reducible refine Wp.ret ?_; (try simp only [Dw.thenS_ret, Dw.blockS_ret, Dw.noGotoS_ret]); first | (with_reducible refine ret_pure ?_; simp -implicitDefEqProofs only [retD, resAll, oneOrTup, go_sem, ↓reduceIte, reduceCtorEq, Nat.reduceLT, Nat.reduceEqDiff, Nat.reduceAdd, Nat.reduceLeDiff, D.known, D.cells, cellsL_length, findD_es, hg, Ty.cells_eq t, InstPost]) | (with_reducible refine ret_post [1000] ?_; simp -implicitDefEqProofs only [retD, resAll, oneOrTup, go_sem, ↓reduceIte, reduceCtorEq, Nat.reduceLT, Nat.reduceEqDiff, Nat.reduceAdd, Nat.reduceLeDiff, D.known, D.cells, cellsL_length, findD_es, hg, Ty.cells_eq t, InstPost]) | skip)
        | (with_reducible refine Wp.skip ?_; (try simp only [Dw.thenS_normal, Dw.blockS_normal, Dw.noGotoS_normal]))
        | (with_reducible refine Wp.exit ?_; simp only [Dw.thenS_exit, Dw.blockS_exit, Dw.noGotoS_exit, Dw.noGotoS_normal, if_true, Dw.thenS_normal, Dw.blockS_normal, Nat.reduceEqDiff, if_false, ↓reduceIte]))
      | (with_reducible refine And.intro ?_ ?_)
      | (with_reducible refine hK _ ?_; clear hK K)
      | (clear hK K; with_reducible refine hK _ ?_; clear hK K)
      | (clear hK K; clear hK K; with_reducible refine hK _ ?_; clear hK K)
      | (with_reducible refine opsD_callN (f := 18) ?_; simp -implicitDefEqProofs only [go_sem, ↓reduceIte, reduceCtorEq, Nat.reduceLT, Nat.reduceEqDiff, Nat.reduceAdd, Nat.reduceLeDiff, D.known, D.cells, cellsL_length, findD_es, hg, Ty.cells_eq t, InstPost])
      | (with_reducible refine stepD_callN (f := 18) ?_; simp -implicitDefEqProofs only [go_sem, ↓reduceIte, reduceCtorEq, Nat.reduceLT, Nat.reduceEqDiff, Nat.reduceAdd, Nat.reduceLeDiff, D.known, D.cells, cellsL_length, findD_es, hg, Ty.cells_eq t, InstPost])
      | (with_reducible refine callN_same ent18 (hsame t hg) ?_)
      | (with_reducible refine opsD_callE (f := 19) ?_; simp -implicitDefEqProofs only [go_sem, ↓reduceIte, reduceCtorEq, Nat.reduceLT, Nat.reduceEqDiff, Nat.reduceAdd, Nat.reduceLeDiff, D.known, D.cells, cellsL_length, findD_es, hg, Ty.cells_eq t, InstPost])
      | (with_reducible refine opsD_callVE ?_; simp -implicitDefEqProofs only [go_sem, ↓reduceIte, reduceCtorEq, Nat.reduceLT, Nat.reduceEqDiff, Nat.reduceAdd, Nat.reduceLeDiff, D.known, D.cells, cellsL_length, findD_es, hg, Ty.cells_eq t, InstPost])
      | (refine callE_same [1000] _ _ ent19 (by simp [Dw.okDst]) (by decide) (by simp) rfl (hrec) ?_; rintro _ _ ⟨rfl, rfl⟩; refine ⟨[1000], by decide, by simp, ?_⟩; simp -implicitDefEqProofs only [go_sem, ↓reduceIte, reduceCtorEq, Nat.reduceLT, Nat.reduceEqDiff, Nat.reduceAdd, Nat.reduceLeDiff, D.known, D.cells, cellsL_length, findD_es, hg, Ty.cells_eq t, InstPost])
      | (with_reducible refine opsD_mark ?_; first | (refine opsD_guardT rfl rfl (fun h => ?_) (fun h => ?_) <;> first | (cases h; done) | (simp -implicitDefEqProofs only [h, go_sem, ↓reduceIte, reduceCtorEq, Nat.reduceLT, Nat.reduceEqDiff, Nat.reduceAdd, Nat.reduceLeDiff, D.known, D.cells, cellsL_length, findD_es, hg, Ty.cells_eq t, InstPost]; (try simp only [decide_eq_true_eq, decide_eq_false_iff_not, ne_eq, Classical.not_not] at h); (try (with_reducible change True at h; clear h)))) | (refine opsD_guardF rfl rfl (fun h => ?_) (fun h => ?_) <;> first | (cases h; done) | (simp -implicitDefEqProofs only [h, go_sem, ↓reduceIte, reduceCtorEq, Nat.reduceLT, Nat.reduceEqDiff, Nat.reduceAdd, Nat.reduceLeDiff, D.known, D.cells, cellsL_length, findD_es, hg, Ty.cells_eq t, InstPost]; (try simp only [decide_eq_true_eq, decide_eq_false_iff_not, ne_eq, Classical.not_not] at h); (try (with_reducible change True at h; clear h)))) | (refine opsD_guardS rfl rfl ?_; simp -implicitDefEqProofs only [go_sem, ↓reduceIte, reduceCtorEq, Nat.reduceLT, Nat.reduceEqDiff, Nat.reduceAdd, Nat.reduceLeDiff, D.known, D.cells, cellsL_length, findD_es, hg, Ty.cells_eq t, InstPost]))
      | (with_reducible refine opsN_mark ?_; first | (refine opsN_guardT rfl rfl (fun h => ?_) (fun h => ?_) <;> first | (cases h; done) | (simp -implicitDefEqProofs only [h, go_sem, ↓reduceIte, reduceCtorEq, Nat.reduceLT, Nat.reduceEqDiff, Nat.reduceAdd, Nat.reduceLeDiff, D.known, D.cells, cellsL_length, findD_es, hg, Ty.cells_eq t, InstPost]; (try simp only [decide_eq_true_eq, decide_eq_false_iff_not, ne_eq, Classical.not_not] at h); (try (with_reducible change True at h; clear h)))) | (refine opsN_guardF rfl rfl (fun h => ?_) (fun h => ?_) <;> first | (cases h; done) | (simp -implicitDefEqProofs only [h, go_sem, ↓reduceIte, reduceCtorEq, Nat.reduceLT, Nat.reduceEqDiff, Nat.reduceAdd, Nat.reduceLeDiff, D.known, D.cells, cellsL_length, findD_es, hg, Ty.cells_eq t, InstPost]; (try simp only [decide_eq_true_eq, decide_eq_false_iff_not, ne_eq, Classical.not_not] at h); (try (with_reducible change True at h; clear h)))) | (refine opsN_guardS rfl rfl ?_; simp -implicitDefEqProofs only [go_sem, ↓reduceIte, reduceCtorEq, Nat.reduceLT, Nat.reduceEqDiff, Nat.reduceAdd, Nat.reduceLeDiff, D.known, D.cells, cellsL_length, findD_es, hg, Ty.cells_eq t, InstPost]))
      | (with_reducible refine pickN_intro (fun h => ?_) (fun h => ?_) <;> first | (cases h; done) | (simp -implicitDefEqProofs only [h, go_sem, ↓reduceIte, reduceCtorEq, Nat.reduceLT, Nat.reduceEqDiff, Nat.reduceAdd, Nat.reduceLeDiff, D.known, D.cells, cellsL_length, findD_es, hg, Ty.cells_eq t, InstPost]; (try simp only [decide_eq_true_eq, decide_eq_false_iff_not, ne_eq, Classical.not_not] at h); (try (with_reducible change True at h; clear h))))
      | (with_reducible refine Dw.split_intro (fun h => ?_) (fun h => ?_) <;> simp -implicitDefEqProofs only [h, go_sem, ↓reduceIte, reduceCtorEq, Nat.reduceLT, Nat.reduceEqDiff, Nat.reduceAdd, Nat.reduceLeDiff, D.known, D.cells, cellsL_length, findD_es, hg, Ty.cells_eq t, InstPost] <;> (try simp only [decide_eq_true_eq, decide_eq_false_iff_not, ne_eq, Classical.not_not] at h); (try (with_reducible change True at h; clear h)))
      | (with_reducible refine fun _ => ?_; (try simp -implicitDefEqProofs only [go_sem, ↓reduceIte, reduceCtorEq, Nat.reduceLT, Nat.reduceEqDiff, Nat.reduceAdd, Nat.reduceLeDiff, D.known, D.cells, cellsL_length, findD_es, hg, Ty.cells_eq t, InstPost]))
      | (with_reducible exact Dw.Le.refl _)
      | (simp -implicitDefEqProofs only [go_sem, ↓reduceIte, reduceCtorEq, Nat.reduceLT, Nat.reduceEqDiff, Nat.reduceAdd, Nat.reduceLeDiff, D.known, D.cells, cellsL_length, findD_es, hg, Ty.cells_eq t, InstPost])
    all_goals first
      | rw [hie0 (by assumption)]
      | rw [inst_f1 (by assumption) (by assumption)]
      | rw [inst_f2 (by assumption) (by assumption) (by assumption)]
      | rw [inst_f5 (by assumption) (by assumption) (by assumption)]
      | rw [inst_g1 (by assumption) (by assumption) (by assumption)]
      | rw [inst_g2 (by assumption) (by assumption) (by assumption) (by assumption)]
      | trace_state
  | none =>
    have hie0 : a.kind = 0 → inst a b f = (true, f ++ [(a.var, b)]) := fun h => by rw [inst_eq, if_pos h, hg]
    have hun := hun hg
    clear hsame
    refine CallTo.of_walk Tryd.func11 rfl (by simp [Tryd.ntmps11]) fun X B0 w0 => ?_
    simp only [Tryd.results11, Tryd.ntmps11, numF, Ty.cells_eq]
    repeat' first
      | (with_reducible refine Wp.gate ?_; first
        | (with_reducible refine Wp.seq fun K hK => ?_)
        | (with_reducible refine Wp.region ?_; simp -implicitDefEqProofs only [go_sem, ↓reduceIte, reduceCtorEq, Nat.reduceLT, Nat.reduceEqDiff, Nat.reduceAdd, Nat.reduceLeDiff, D.known, D.cells, cellsL_length, findD_es, hg, hun, InstPost])
        | (with_reducible refine Wp.region' ?_; first
          | (refine Wp.regionPure (by decide +kernel) mixed (by decide +kernel) (by decide +kernel) ?_; simp -implicitDefEqProofs only [go_sem, ↓reduceIte, reduceCtorEq, Nat.reduceLT, Nat.reduceEqDiff, Nat.reduceAdd, Nat.reduceLeDiff, D.known, D.cells, cellsL_length, findD_es, hg, hun, InstPost])
          | (refine Wp.regionTail' 1 (by decide +kernel) mixed (by decide +kernel) (by decide +kernel) ?_; simp -implicitDefEqProofs only [List.length_cons, List.length_nil, Nat.reduceAdd, Nat.reduceSub, go_sem, ↓reduceIte, reduceCtorEq, Nat.reduceLT, Nat.reduceEqDiff, Nat.reduceAdd, Nat.reduceLeDiff, D.known, D.cells, cellsL_length, findD_es, hg, hun, InstPost])
          | (refine Wp.regionTail' 2 (by decide +kernel) mixed (by decide +kernel) (by decide +kernel) ?_; simp -implicitDefEqProofs only [List.length_cons, List.length_nil, Nat.reduceAdd, Nat.reduceSub, go_sem, ↓reduceIte, reduceCtorEq, Nat.reduceLT, Nat.reduceEqDiff, Nat.reduceAdd, Nat.reduceLeDiff, D.known, D.cells, cellsL_length, findD_es, hg, hun, InstPost])
          | (refine Wp.regionTail' 3 (by decide +kernel) mixed (by decide +kernel) (by decide +kernel) ?_; simp -implicitDefEqProofs only [List.length_cons, List.length_nil, Nat.reduceAdd, Nat.reduceSub, go_sem, ↓reduceIte, reduceCtorEq, Nat.reduceLT, Nat.reduceEqDiff, Nat.reduceAdd, Nat.reduceLeDiff, D.known, D.cells, cellsL_length, findD_es, hg, hun, InstPost])
          | (refine Wp.regionTail' 4 (by decide +kernel) mixed (by decide +kernel) (by decide +kernel) ?_; simp -implicitDefEqProofs only [List.length_cons, List.length_nil, Nat.reduceAdd, Nat.reduceSub, go_sem, ↓reduceIte, reduceCtorEq, Nat.reduceLT, Nat.reduceEqDiff, Nat.reduceAdd, Nat.reduceLeDiff, D.known, D.cells, cellsL_length, findD_es, hg, hun, InstPost])
          | (refine Wp.regionTail' 5 (by decide +kernel) mixed (by decide +kernel) (by decide +kernel) ?_; simp -implicitDefEqProofs only [List.length_cons, List.length_nil, Nat.reduceAdd, Nat.reduceSub, go_sem, ↓reduceIte, reduceCtorEq, Nat.reduceLT, Nat.reduceEqDiff, Nat.reduceAdd, Nat.reduceLeDiff, D.known, D.cells, cellsL_length, findD_es, hg, hun, InstPost])
          | (refine Wp.regionTail' 6 (by decide +kernel) mixed (by decide +kernel) (by decide +kernel) ?_; simp -implicitDefEqProofs only [List.length_cons, List.length_nil, Nat.reduceAdd, Nat.reduceSub, go_sem, ↓reduceIte, reduceCtorEq, Nat.reduceLT, Nat.reduceEqDiff, Nat.reduceAdd, Nat.reduceLeDiff, D.known, D.cells, cellsL_length, findD_es, hg, hun, InstPost])
          | (refine Wp.regionAll mixed (by decide +kernel) (by decide +kernel) ?_; simp -implicitDefEqProofs only [go_sem, ↓reduceIte, reduceCtorEq, Nat.reduceLT, Nat.reduceEqDiff, Nat.reduceAdd, Nat.reduceLeDiff, D.known, D.cells, cellsL_length, findD_es, hg, hun, InstPost]))
        | (with_reducible refine Wp.cond' ?_; refine Wp.cond rfl (fun h => ?_) (fun h => ?_) <;> first | (cases h; done) | (simp only [decide_eq_true_eq, decide_eq_false_iff_not, Bool.not_eq_true', Bool.not_eq_false', ne_eq, Classical.not_not] at h) | skip)
        | (with_reducible refine Wp.block ?_)
        | (with_reducible refine Wp.scope ?_)
        | (with_reducible refine Wp.label ?_; (try simp only [Dw.thenS_normal, Dw.blockS_normal, Dw.noGotoS_normal]))
        | (with_reducible refine Wp.ret ?_; (try simp only [Dw.thenS_ret, Dw.blockS_ret, Dw.noGotoS_ret]); first | (with_reducible refine ret_pure ?_; simp -implicitDefEqProofs only [retD, resAll, oneOrTup, go_sem, ↓reduceIte, reduceCtorEq, Nat.reduceLT, Nat.reduceEqDiff, Nat.reduceAdd, Nat.reduceLeDiff, D.known, D.cells, cellsL_length, findD_es, hg, hun, InstPost]) | (with_reducible refine ret_post [1000] ?_; simp -implicitDefEqProofs only [retD, resAll, oneOrTup, go_sem, ↓reduceIte, reduceCtorEq, Nat.reduceLT, Nat.reduceEqDiff, Nat.reduceAdd, Nat.reduceLeDiff, D.known, D.cells, cellsL_length, findD_es, hg, hun, InstPost]) | skip)
        | (with_reducible refine Wp.skip ?_; (try simp only [Dw.thenS_normal, Dw.blockS_normal, Dw.noGotoS_normal]))
        | (with_reducible refine Wp.exit ?_; simp only [Dw.thenS_exit, Dw.blockS_exit, Dw.noGotoS_exit, Dw.noGotoS_normal, if_true, Dw.thenS_normal, Dw.blockS_normal, Nat.reduceEqDiff, if_false, ↓reduceIte]))
      | (with_reducible refine And.intro ?_ ?_)
      | (with_reducible refine hK _ ?_; clear hK K)
      | (clear hK K; with_reducible refine hK _ ?_; clear hK K)
      | (clear hK K; clear hK K; with_reducible refine hK _ ?_; clear hK K)
      | (with_reducible refine opsD_callE (f := 19) ?_; simp -implicitDefEqProofs only [go_sem, ↓reduceIte, reduceCtorEq, Nat.reduceLT, Nat.reduceEqDiff, Nat.reduceAdd, Nat.reduceLeDiff, D.known, D.cells, cellsL_length, findD_es, hg, hun, InstPost])
      | (with_reducible refine opsD_callVE ?_; simp -implicitDefEqProofs only [go_sem, ↓reduceIte, reduceCtorEq, Nat.reduceLT, Nat.reduceEqDiff, Nat.reduceAdd, Nat.reduceLeDiff, D.known, D.cells, cellsL_length, findD_es, hg, hun, InstPost])
      | (refine callE_same [1000] _ _ ent19 (by simp [Dw.okDst]) (by decide) (by simp) rfl (hrec) ?_; rintro _ _ ⟨rfl, rfl⟩; refine ⟨[1000], by decide, by simp, ?_⟩; simp -implicitDefEqProofs only [go_sem, ↓reduceIte, reduceCtorEq, Nat.reduceLT, Nat.reduceEqDiff, Nat.reduceAdd, Nat.reduceLeDiff, D.known, D.cells, cellsL_length, findD_es, hg, hun, InstPost])
      | (with_reducible refine opsD_mark ?_; first | (refine opsD_guardT rfl rfl (fun h => ?_) (fun h => ?_) <;> first | (cases h; done) | (simp -implicitDefEqProofs only [h, go_sem, ↓reduceIte, reduceCtorEq, Nat.reduceLT, Nat.reduceEqDiff, Nat.reduceAdd, Nat.reduceLeDiff, D.known, D.cells, cellsL_length, findD_es, hg, hun, InstPost]; (try simp only [decide_eq_true_eq, decide_eq_false_iff_not, ne_eq, Classical.not_not] at h); (try (with_reducible change True at h; clear h)))) | (refine opsD_guardF rfl rfl (fun h => ?_) (fun h => ?_) <;> first | (cases h; done) | (simp -implicitDefEqProofs only [h, go_sem, ↓reduceIte, reduceCtorEq, Nat.reduceLT, Nat.reduceEqDiff, Nat.reduceAdd, Nat.reduceLeDiff, D.known, D.cells, cellsL_length, findD_es, hg, hun, InstPost]; (try simp only [decide_eq_true_eq, decide_eq_false_iff_not, ne_eq, Classical.not_not] at h); (try (with_reducible change True at h; clear h)))) | (refine opsD_guardS rfl rfl ?_; simp -implicitDefEqProofs only [go_sem, ↓reduceIte, reduceCtorEq, Nat.reduceLT, Nat.reduceEqDiff, Nat.reduceAdd, Nat.reduceLeDiff, D.known, D.cells, cellsL_length, findD_es, hg, hun, InstPost]))
      | (with_reducible refine opsN_mark ?_; first | (refine opsN_guardT rfl rfl (fun h => ?_) (fun h => ?_) <;> first | (cases h; done) | (simp -implicitDefEqProofs only [h, go_sem, ↓reduceIte, reduceCtorEq, Nat.reduceLT, Nat.reduceEqDiff, Nat.reduceAdd, Nat.reduceLeDiff, D.known, D.cells, cellsL_length, findD_es, hg, hun, InstPost]; (try simp only [decide_eq_true_eq, decide_eq_false_iff_not, ne_eq, Classical.not_not] at h); (try (with_reducible change True at h; clear h)))) | (refine opsN_guardF rfl rfl (fun h => ?_) (fun h => ?_) <;> first | (cases h; done) | (simp -implicitDefEqProofs only [h, go_sem, ↓reduceIte, reduceCtorEq, Nat.reduceLT, Nat.reduceEqDiff, Nat.reduceAdd, Nat.reduceLeDiff, D.known, D.cells, cellsL_length, findD_es, hg, hun, InstPost]; (try simp only [decide_eq_true_eq, decide_eq_false_iff_not, ne_eq, Classical.not_not] at h); (try (with_reducible change True at h; clear h)))) | (refine opsN_guardS rfl rfl ?_; simp -implicitDefEqProofs only [go_sem, ↓reduceIte, reduceCtorEq, Nat.reduceLT, Nat.reduceEqDiff, Nat.reduceAdd, Nat.reduceLeDiff, D.known, D.cells, cellsL_length, findD_es, hg, hun, InstPost]))
      | (with_reducible refine pickN_intro (fun h => ?_) (fun h => ?_) <;> first | (cases h; done) | (simp -implicitDefEqProofs only [h, go_sem, ↓reduceIte, reduceCtorEq, Nat.reduceLT, Nat.reduceEqDiff, Nat.reduceAdd, Nat.reduceLeDiff, D.known, D.cells, cellsL_length, findD_es, hg, hun, InstPost]; (try simp only [decide_eq_true_eq, decide_eq_false_iff_not, ne_eq, Classical.not_not] at h); (try (with_reducible change True at h; clear h))))
      | (with_reducible refine Dw.split_intro (fun h => ?_) (fun h => ?_) <;> simp -implicitDefEqProofs only [h, go_sem, ↓reduceIte, reduceCtorEq, Nat.reduceLT, Nat.reduceEqDiff, Nat.reduceAdd, Nat.reduceLeDiff, D.known, D.cells, cellsL_length, findD_es, hg, hun, InstPost] <;> (try simp only [decide_eq_true_eq, decide_eq_false_iff_not, ne_eq, Classical.not_not] at h); (try (with_reducible change True at h; clear h)))
      | (with_reducible refine fun _ => ?_; (try simp -implicitDefEqProofs only [go_sem, ↓reduceIte, reduceCtorEq, Nat.reduceLT, Nat.reduceEqDiff, Nat.reduceAdd, Nat.reduceLeDiff, D.known, D.cells, cellsL_length, findD_es, hg, hun, InstPost]))
      | (with_reducible exact Dw.Le.refl _)
      | (simp -implicitDefEqProofs only [go_sem, ↓reduceIte, reduceCtorEq, Nat.reduceLT, Nat.reduceEqDiff, Nat.reduceAdd, Nat.reduceLeDiff, D.known, D.cells, cellsL_length, findD_es, hg, hun, InstPost])
    all_goals first
      | rw [hie0 (by assumption)]
      | rw [inst_f1 (by assumption) (by assumption)]
      | rw [inst_f2 (by assumption) (by assumption) (by assumption)]
      | rw [inst_f5 (by assumption) (by assumption) (by assumption)]
      | rw [inst_g1 (by assumption) (by assumption) (by assumption)]
      | rw [inst_g2 (by assumption) (by assumption) (by assumption) (by assumption)]
      | trace_state
end Go.Proofs.YtjbajnkbiohoeaaDoor
