/-
  Facts on the way to the statement of this claim: contracts of the program's functions and what they reckon. No condition beyond those that each theorem bears.
-/
import Derived.Test.YtjbajnkbiohoeaaDoorW14
namespace Go.Proofs.YtjbajnkbiohoeaaDoor
open Go Go.Dw
set_option maxHeartbeats 4000000 in
theorem call15 (m : Nat) : ∀ t : Ty, t.ok → t.wt ≤ 1000000000000 → t.wt ≤ m → CallR Tryd.prog [] 15 [.agg t.cells] [] (.str t.text) := by
  induction m using Nat.strongRecOn with
  | _ m ih =>
  intro t hok hw hm
  have hok' := t.ok_eq.1 hok
  have hl := t.text_eq ▸ text_length t hok
  have hargs := t.wt_eq
  have hlen := length_wtL t.args
  have hwk : ∀ pre suf, t.args = pre ++ suf → (Ty.textL pre).length ≤ Ty.wtL t.args := fun pre suf h => by
    have h1 := textL_length pre ((okL_append pre suf).1 (h ▸ hok'.2.2.2)).1
    rw [h, wtL_append]; omega
  have hsub : ∀ a ∈ t.args, CallR Tryd.prog [] 15 [.agg [.int .i64 a.kind, .str a.name, .int .i64 a.var, .sl false 4 (Ty.cellsL a.args)]] [] (.str a.text) := fun a ha => a.cells_eq ▸ ih a.wt (by have := wt_arg ha; omega) a (ok_arg hok ha) (by have := wt_arg ha; omega) (Nat.le_refl _)
  have hln : ∀ a ∈ t.args, a.text.length ≤ Ty.wtL t.args := fun a ha => by have := text_length a (ok_arg hok ha); have := wtL_mem ha; omega
  have b1 := num_length hok'.1
  have b2 := num_length hok'.2.1
  have b3 := num_length (inI_len hok'.2.2.1)
  have b4 := hok'.2.2.1
  refine CallR.of_pure Tryd.func15 rfl (by simp [Tryd.ntmps15]) fun X B0 w0 => ?_
  simp only [Tryd.results15, Tryd.ntmps15, numF, Ty.cells_eq]
  repeat' first
    | (with_reducible refine Wp.gate ?_; first
      | (with_reducible refine Wp.seq fun K hK => ?_)
      | (with_reducible refine Wp.region ?_; simp -implicitDefEqProofs only [go_sem, ↓reduceIte, reduceCtorEq, Int.reduceToNat, Nat.reduceMul, Nat.reduceLT, Nat.reduceEqDiff, Nat.reduceAdd, Nat.reduceLeDiff, D.known, D.cells, cellsL_length])
      | (with_reducible refine Wp.region' ?_; first
        | (refine Wp.regionPure (by decide +kernel) mixed (by decide +kernel) (by decide +kernel) ?_; simp -implicitDefEqProofs only [go_sem, ↓reduceIte, reduceCtorEq, Int.reduceToNat, Nat.reduceMul, Nat.reduceLT, Nat.reduceEqDiff, Nat.reduceAdd, Nat.reduceLeDiff, D.known, D.cells, cellsL_length])
        | (refine Wp.regionTail' 1 (by decide +kernel) mixed (by decide +kernel) (by decide +kernel) ?_; simp -implicitDefEqProofs only [List.length_cons, List.length_nil, Nat.reduceAdd, Nat.reduceSub, go_sem, ↓reduceIte, reduceCtorEq, Int.reduceToNat, Nat.reduceMul, Nat.reduceLT, Nat.reduceEqDiff, Nat.reduceAdd, Nat.reduceLeDiff, D.known, D.cells, cellsL_length])
        | (refine Wp.regionTail' 2 (by decide +kernel) mixed (by decide +kernel) (by decide +kernel) ?_; simp -implicitDefEqProofs only [List.length_cons, List.length_nil, Nat.reduceAdd, Nat.reduceSub, go_sem, ↓reduceIte, reduceCtorEq, Int.reduceToNat, Nat.reduceMul, Nat.reduceLT, Nat.reduceEqDiff, Nat.reduceAdd, Nat.reduceLeDiff, D.known, D.cells, cellsL_length])
        | (refine Wp.regionTail' 3 (by decide +kernel) mixed (by decide +kernel) (by decide +kernel) ?_; simp -implicitDefEqProofs only [List.length_cons, List.length_nil, Nat.reduceAdd, Nat.reduceSub, go_sem, ↓reduceIte, reduceCtorEq, Int.reduceToNat, Nat.reduceMul, Nat.reduceLT, Nat.reduceEqDiff, Nat.reduceAdd, Nat.reduceLeDiff, D.known, D.cells, cellsL_length])
        | (refine Wp.regionTail' 4 (by decide +kernel) mixed (by decide +kernel) (by decide +kernel) ?_; simp -implicitDefEqProofs only [List.length_cons, List.length_nil, Nat.reduceAdd, Nat.reduceSub, go_sem, ↓reduceIte, reduceCtorEq, Int.reduceToNat, Nat.reduceMul, Nat.reduceLT, Nat.reduceEqDiff, Nat.reduceAdd, Nat.reduceLeDiff, D.known, D.cells, cellsL_length])
        | (refine Wp.regionTail' 5 (by decide +kernel) mixed (by decide +kernel) (by decide +kernel) ?_; simp -implicitDefEqProofs only [List.length_cons, List.length_nil, Nat.reduceAdd, Nat.reduceSub, go_sem, ↓reduceIte, reduceCtorEq, Int.reduceToNat, Nat.reduceMul, Nat.reduceLT, Nat.reduceEqDiff, Nat.reduceAdd, Nat.reduceLeDiff, D.known, D.cells, cellsL_length])
        | (refine Wp.regionTail' 6 (by decide +kernel) mixed (by decide +kernel) (by decide +kernel) ?_; simp -implicitDefEqProofs only [List.length_cons, List.length_nil, Nat.reduceAdd, Nat.reduceSub, go_sem, ↓reduceIte, reduceCtorEq, Int.reduceToNat, Nat.reduceMul, Nat.reduceLT, Nat.reduceEqDiff, Nat.reduceAdd, Nat.reduceLeDiff, D.known, D.cells, cellsL_length])
        | (refine Wp.regionAll mixed (by decide +kernel) (by decide +kernel) ?_; simp -implicitDefEqProofs only [go_sem, ↓reduceIte, reduceCtorEq, Int.reduceToNat, Nat.reduceMul, Nat.reduceLT, Nat.reduceEqDiff, Nat.reduceAdd, Nat.reduceLeDiff, D.known, D.cells, cellsL_length]))
      | (with_reducible refine Wp.cond' ?_; refine Wp.cond rfl (fun h => ?_) (fun h => ?_) <;> first | (cases h; done) | (simp only [decide_eq_true_eq, decide_eq_false_iff_not, Bool.not_eq_true', Bool.not_eq_false', ne_eq, Classical.not_not] at h) | skip)
      | (with_reducible refine Wp.block ?_)
      | (with_reducible refine Wp.scope ?_)
      | (with_reducible refine Wp.label ?_; (try simp only [Dw.thenS_normal, Dw.blockS_normal, Dw.noGotoS_normal]))
      | (with_reducible refine Wp.ret ?_; (try simp only [Dw.thenS_ret, Dw.blockS_ret, Dw.noGotoS_ret]); first | (with_reducible refine ret_pure ?_; simp -implicitDefEqProofs only [retD, resAll, oneOrTup, go_sem, ↓reduceIte, reduceCtorEq, Int.reduceToNat, Nat.reduceMul, Nat.reduceLT, Nat.reduceEqDiff, Nat.reduceAdd, Nat.reduceLeDiff, D.known, D.cells, cellsL_length]) | skip)
      | (with_reducible refine Wp.skip ?_; (try simp only [Dw.thenS_normal, Dw.blockS_normal, Dw.noGotoS_normal]))
      | (with_reducible refine Wp.exit ?_; simp only [Dw.thenS_exit, Dw.blockS_exit, Dw.noGotoS_exit, Dw.noGotoS_normal, if_true, Dw.thenS_normal, Dw.blockS_normal, Nat.reduceEqDiff, if_false, ↓reduceIte]))
    | (with_reducible refine And.intro ?_ ?_)
    | (with_reducible refine hK _ ?_; clear hK K)
    | (clear hK K; with_reducible refine hK _ ?_; clear hK K)
    | (clear hK K; clear hK K; with_reducible refine hK _ ?_; clear hK K)
    | (with_reducible refine opsD_callN (f := 14) ?_; simp -implicitDefEqProofs only [go_sem, ↓reduceIte, reduceCtorEq, Int.reduceToNat, Nat.reduceMul, Nat.reduceLT, Nat.reduceEqDiff, Nat.reduceAdd, Nat.reduceLeDiff, D.known, D.cells, cellsL_length])
    | (with_reducible refine stepD_callN (f := 14) ?_; simp -implicitDefEqProofs only [go_sem, ↓reduceIte, reduceCtorEq, Int.reduceToNat, Nat.reduceMul, Nat.reduceLT, Nat.reduceEqDiff, Nat.reduceAdd, Nat.reduceLeDiff, D.known, D.cells, cellsL_length])
    | (with_reducible refine callN_same ent14 (num_call (by first | exact hok'.1 | exact hok'.2.1 | exact inI_len hok'.2.2.1)) ?_)
    | (with_reducible refine opsD_mark ?_; first | (refine opsD_guardT rfl rfl (fun h => ?_) (fun h => ?_) <;> first | (cases h; done) | (simp -implicitDefEqProofs only [h, go_sem, ↓reduceIte, reduceCtorEq, Int.reduceToNat, Nat.reduceMul, Nat.reduceLT, Nat.reduceEqDiff, Nat.reduceAdd, Nat.reduceLeDiff, D.known, D.cells, cellsL_length]; (try simp only [decide_eq_true_eq, decide_eq_false_iff_not, ne_eq, Classical.not_not] at h); (try (with_reducible change True at h; clear h)))) | (refine opsD_guardF rfl rfl (fun h => ?_) (fun h => ?_) <;> first | (cases h; done) | (simp -implicitDefEqProofs only [h, go_sem, ↓reduceIte, reduceCtorEq, Int.reduceToNat, Nat.reduceMul, Nat.reduceLT, Nat.reduceEqDiff, Nat.reduceAdd, Nat.reduceLeDiff, D.known, D.cells, cellsL_length]; (try simp only [decide_eq_true_eq, decide_eq_false_iff_not, ne_eq, Classical.not_not] at h); (try (with_reducible change True at h; clear h)))) | (refine opsD_guardS rfl rfl ?_; simp -implicitDefEqProofs only [go_sem, ↓reduceIte, reduceCtorEq, Int.reduceToNat, Nat.reduceMul, Nat.reduceLT, Nat.reduceEqDiff, Nat.reduceAdd, Nat.reduceLeDiff, D.known, D.cells, cellsL_length]))
    | (with_reducible refine opsN_mark ?_; first | (refine opsN_guardT rfl rfl (fun h => ?_) (fun h => ?_) <;> first | (cases h; done) | (simp -implicitDefEqProofs only [h, go_sem, ↓reduceIte, reduceCtorEq, Int.reduceToNat, Nat.reduceMul, Nat.reduceLT, Nat.reduceEqDiff, Nat.reduceAdd, Nat.reduceLeDiff, D.known, D.cells, cellsL_length]; (try simp only [decide_eq_true_eq, decide_eq_false_iff_not, ne_eq, Classical.not_not] at h); (try (with_reducible change True at h; clear h)))) | (refine opsN_guardF rfl rfl (fun h => ?_) (fun h => ?_) <;> first | (cases h; done) | (simp -implicitDefEqProofs only [h, go_sem, ↓reduceIte, reduceCtorEq, Int.reduceToNat, Nat.reduceMul, Nat.reduceLT, Nat.reduceEqDiff, Nat.reduceAdd, Nat.reduceLeDiff, D.known, D.cells, cellsL_length]; (try simp only [decide_eq_true_eq, decide_eq_false_iff_not, ne_eq, Classical.not_not] at h); (try (with_reducible change True at h; clear h)))) | (refine opsN_guardS rfl rfl ?_; simp -implicitDefEqProofs only [go_sem, ↓reduceIte, reduceCtorEq, Int.reduceToNat, Nat.reduceMul, Nat.reduceLT, Nat.reduceEqDiff, Nat.reduceAdd, Nat.reduceLeDiff, D.known, D.cells, cellsL_length]))
    | (with_reducible refine pickN_intro (fun h => ?_) (fun h => ?_) <;> first | (cases h; done) | (simp -implicitDefEqProofs only [h, go_sem, ↓reduceIte, reduceCtorEq, Int.reduceToNat, Nat.reduceMul, Nat.reduceLT, Nat.reduceEqDiff, Nat.reduceAdd, Nat.reduceLeDiff, D.known, D.cells, cellsL_length]; (try simp only [decide_eq_true_eq, decide_eq_false_iff_not, ne_eq, Classical.not_not] at h); (try (with_reducible change True at h; clear h))))
    | (with_reducible refine Dw.split_intro (fun h => ?_) (fun h => ?_) <;> simp -implicitDefEqProofs only [h, go_sem, ↓reduceIte, reduceCtorEq, Int.reduceToNat, Nat.reduceMul, Nat.reduceLT, Nat.reduceEqDiff, Nat.reduceAdd, Nat.reduceLeDiff, D.known, D.cells, cellsL_length] <;> (try simp only [decide_eq_true_eq, decide_eq_false_iff_not, ne_eq, Classical.not_not] at h); (try (with_reducible change True at h; clear h)))
    | (with_reducible refine fun _ => ?_; (try simp -implicitDefEqProofs only [go_sem, ↓reduceIte, reduceCtorEq, Int.reduceToNat, Nat.reduceMul, Nat.reduceLT, Nat.reduceEqDiff, Nat.reduceAdd, Nat.reduceLeDiff, D.known, D.cells, cellsL_length]))
    | (with_reducible exact Dw.Le.refl _)
    | (simp -implicitDefEqProofs only [go_sem, ↓reduceIte, reduceCtorEq, Int.reduceToNat, Nat.reduceMul, Nat.reduceLT, Nat.reduceEqDiff, Nat.reduceAdd, Nat.reduceLeDiff, D.known, D.cells, cellsL_length])
  all_goals try (refine Wp.loop (fun n φ => ∃ pre suf out, t.args = pre ++ suf ∧ n = suf.length ∧ out = ?_ ++ Ty.textL pre ∧ φ = ⟨51, [(1, .rp t.cells), (3, .str out), (37, .sl false 4 (Ty.cellsL t.args)), (38, .int .i64 t.args.length), (39, .int .i64 pre.length)], []⟩) (Weak.sub (fr' := [(1, .rp t.cells), (3, .str ?_), (37, .sl false 4 (Ty.cellsL t.args)), (38, .int .i64 t.args.length), (39, .int .i64 0)]) (st' := []) (by rw [Ty.cells_eq]; (repeat' first | exact FrSub.nil | exact StSub.nil | (refine FrSub.cons rfl ?_ ?_) | (refine StSub.cons rfl ?_) | exact Dw.Le.refl _)) (by (repeat' first | exact FrSub.nil | exact StSub.nil | (refine FrSub.cons rfl ?_ ?_) | (refine StSub.cons rfl ?_) | exact Dw.Le.refl _))) ⟨[], t.args, _, rfl, rfl, by simp only [Ty.textL, List.append_nil]; rfl, rfl⟩ ?_)
  all_goals first
  | ((try simp only [List.length_append, List.length_cons, List.length_nil]); show _ ≤ (9223372036854775807 : Int); omega)
  | (decide; done)
  | skip
  all_goals (
    intro n φ ⟨pre, suf, out, hpre, hn, hout, hφ⟩
    subst hφ
    rcases suf with _ | ⟨a, suf⟩
    · have hp := hwk pre [] hpre
      rw [List.append_nil] at hpre
      repeat' first
        | (with_reducible refine Wp.gate ?_; first
          | (with_reducible refine Wp.seq fun K hK => ?_)
          | (with_reducible refine Wp.region ?_; simp -implicitDefEqProofs only [go_sem, ↓reduceIte, reduceCtorEq, Int.reduceToNat, Nat.reduceMul, Nat.reduceLT, Nat.reduceEqDiff, Nat.reduceAdd, Nat.reduceLeDiff, D.known, D.cells, hpre, Int.lt_irrefl])
          | (with_reducible refine Wp.region' ?_; first
            | (refine Wp.regionPure (by decide +kernel) mixed (by decide +kernel) (by decide +kernel) ?_; simp -implicitDefEqProofs only [go_sem, ↓reduceIte, reduceCtorEq, Int.reduceToNat, Nat.reduceMul, Nat.reduceLT, Nat.reduceEqDiff, Nat.reduceAdd, Nat.reduceLeDiff, D.known, D.cells, hpre, Int.lt_irrefl])
            | (refine Wp.regionTail' 1 (by decide +kernel) mixed (by decide +kernel) (by decide +kernel) ?_; simp -implicitDefEqProofs only [List.length_cons, List.length_nil, Nat.reduceAdd, Nat.reduceSub, go_sem, ↓reduceIte, reduceCtorEq, Int.reduceToNat, Nat.reduceMul, Nat.reduceLT, Nat.reduceEqDiff, Nat.reduceAdd, Nat.reduceLeDiff, D.known, D.cells, hpre, Int.lt_irrefl])
            | (refine Wp.regionTail' 2 (by decide +kernel) mixed (by decide +kernel) (by decide +kernel) ?_; simp -implicitDefEqProofs only [List.length_cons, List.length_nil, Nat.reduceAdd, Nat.reduceSub, go_sem, ↓reduceIte, reduceCtorEq, Int.reduceToNat, Nat.reduceMul, Nat.reduceLT, Nat.reduceEqDiff, Nat.reduceAdd, Nat.reduceLeDiff, D.known, D.cells, hpre, Int.lt_irrefl])
            | (refine Wp.regionTail' 3 (by decide +kernel) mixed (by decide +kernel) (by decide +kernel) ?_; simp -implicitDefEqProofs only [List.length_cons, List.length_nil, Nat.reduceAdd, Nat.reduceSub, go_sem, ↓reduceIte, reduceCtorEq, Int.reduceToNat, Nat.reduceMul, Nat.reduceLT, Nat.reduceEqDiff, Nat.reduceAdd, Nat.reduceLeDiff, D.known, D.cells, hpre, Int.lt_irrefl])
            | (refine Wp.regionTail' 4 (by decide +kernel) mixed (by decide +kernel) (by decide +kernel) ?_; simp -implicitDefEqProofs only [List.length_cons, List.length_nil, Nat.reduceAdd, Nat.reduceSub, go_sem, ↓reduceIte, reduceCtorEq, Int.reduceToNat, Nat.reduceMul, Nat.reduceLT, Nat.reduceEqDiff, Nat.reduceAdd, Nat.reduceLeDiff, D.known, D.cells, hpre, Int.lt_irrefl])
            | (refine Wp.regionTail' 5 (by decide +kernel) mixed (by decide +kernel) (by decide +kernel) ?_; simp -implicitDefEqProofs only [List.length_cons, List.length_nil, Nat.reduceAdd, Nat.reduceSub, go_sem, ↓reduceIte, reduceCtorEq, Int.reduceToNat, Nat.reduceMul, Nat.reduceLT, Nat.reduceEqDiff, Nat.reduceAdd, Nat.reduceLeDiff, D.known, D.cells, hpre, Int.lt_irrefl])
            | (refine Wp.regionTail' 6 (by decide +kernel) mixed (by decide +kernel) (by decide +kernel) ?_; simp -implicitDefEqProofs only [List.length_cons, List.length_nil, Nat.reduceAdd, Nat.reduceSub, go_sem, ↓reduceIte, reduceCtorEq, Int.reduceToNat, Nat.reduceMul, Nat.reduceLT, Nat.reduceEqDiff, Nat.reduceAdd, Nat.reduceLeDiff, D.known, D.cells, hpre, Int.lt_irrefl])
            | (refine Wp.regionAll mixed (by decide +kernel) (by decide +kernel) ?_; simp -implicitDefEqProofs only [go_sem, ↓reduceIte, reduceCtorEq, Int.reduceToNat, Nat.reduceMul, Nat.reduceLT, Nat.reduceEqDiff, Nat.reduceAdd, Nat.reduceLeDiff, D.known, D.cells, hpre, Int.lt_irrefl]))
          | (with_reducible refine Wp.cond' ?_; refine Wp.cond rfl (fun h => ?_) (fun h => ?_) <;> first | (cases h; done) | (simp only [decide_eq_true_eq, decide_eq_false_iff_not, Bool.not_eq_true', Bool.not_eq_false', ne_eq, Classical.not_not] at h) | skip)
          | (with_reducible refine Wp.block ?_)
          | (with_reducible refine Wp.scope ?_)
          | (with_reducible refine Wp.label ?_; (try simp only [Dw.thenS_normal, Dw.blockS_normal, Dw.noGotoS_normal]))
          | (with_reducible refine Wp.ret ?_; (try simp only [Dw.thenS_ret, Dw.blockS_ret, Dw.noGotoS_ret]); first | (with_reducible refine ret_pure ?_; simp -implicitDefEqProofs only [retD, resAll, oneOrTup, go_sem, ↓reduceIte, reduceCtorEq, Int.reduceToNat, Nat.reduceMul, Nat.reduceLT, Nat.reduceEqDiff, Nat.reduceAdd, Nat.reduceLeDiff, D.known, D.cells, hpre, Int.lt_irrefl]) | skip)
          | (with_reducible refine Wp.skip ?_; (try simp only [Dw.thenS_normal, Dw.blockS_normal, Dw.noGotoS_normal]))
          | (with_reducible refine Wp.exit ?_; simp only [Dw.thenS_exit, Dw.blockS_exit, Dw.noGotoS_exit, Dw.noGotoS_normal, if_true, Dw.thenS_normal, Dw.blockS_normal, Nat.reduceEqDiff, if_false, ↓reduceIte]))
        | (with_reducible refine And.intro ?_ ?_)
        | (with_reducible refine hK _ ?_; clear hK K)
        | (clear hK K; with_reducible refine hK _ ?_; clear hK K)
        | (clear hK K; clear hK K; with_reducible refine hK _ ?_; clear hK K)
        | ((exact absurd (by assumption) (Int.lt_irrefl _)))
        | (with_reducible refine opsD_mark ?_; first | (refine opsD_guardT rfl rfl (fun h => ?_) (fun h => ?_) <;> first | (cases h; done) | (simp -implicitDefEqProofs only [h, go_sem, ↓reduceIte, reduceCtorEq, Int.reduceToNat, Nat.reduceMul, Nat.reduceLT, Nat.reduceEqDiff, Nat.reduceAdd, Nat.reduceLeDiff, D.known, D.cells, hpre, Int.lt_irrefl]; (try simp only [decide_eq_true_eq, decide_eq_false_iff_not, ne_eq, Classical.not_not] at h); (try (with_reducible change True at h; clear h)))) | (refine opsD_guardF rfl rfl (fun h => ?_) (fun h => ?_) <;> first | (cases h; done) | (simp -implicitDefEqProofs only [h, go_sem, ↓reduceIte, reduceCtorEq, Int.reduceToNat, Nat.reduceMul, Nat.reduceLT, Nat.reduceEqDiff, Nat.reduceAdd, Nat.reduceLeDiff, D.known, D.cells, hpre, Int.lt_irrefl]; (try simp only [decide_eq_true_eq, decide_eq_false_iff_not, ne_eq, Classical.not_not] at h); (try (with_reducible change True at h; clear h)))) | (refine opsD_guardS rfl rfl ?_; simp -implicitDefEqProofs only [go_sem, ↓reduceIte, reduceCtorEq, Int.reduceToNat, Nat.reduceMul, Nat.reduceLT, Nat.reduceEqDiff, Nat.reduceAdd, Nat.reduceLeDiff, D.known, D.cells, hpre, Int.lt_irrefl]))
        | (with_reducible refine opsN_mark ?_; first | (refine opsN_guardT rfl rfl (fun h => ?_) (fun h => ?_) <;> first | (cases h; done) | (simp -implicitDefEqProofs only [h, go_sem, ↓reduceIte, reduceCtorEq, Int.reduceToNat, Nat.reduceMul, Nat.reduceLT, Nat.reduceEqDiff, Nat.reduceAdd, Nat.reduceLeDiff, D.known, D.cells, hpre, Int.lt_irrefl]; (try simp only [decide_eq_true_eq, decide_eq_false_iff_not, ne_eq, Classical.not_not] at h); (try (with_reducible change True at h; clear h)))) | (refine opsN_guardF rfl rfl (fun h => ?_) (fun h => ?_) <;> first | (cases h; done) | (simp -implicitDefEqProofs only [h, go_sem, ↓reduceIte, reduceCtorEq, Int.reduceToNat, Nat.reduceMul, Nat.reduceLT, Nat.reduceEqDiff, Nat.reduceAdd, Nat.reduceLeDiff, D.known, D.cells, hpre, Int.lt_irrefl]; (try simp only [decide_eq_true_eq, decide_eq_false_iff_not, ne_eq, Classical.not_not] at h); (try (with_reducible change True at h; clear h)))) | (refine opsN_guardS rfl rfl ?_; simp -implicitDefEqProofs only [go_sem, ↓reduceIte, reduceCtorEq, Int.reduceToNat, Nat.reduceMul, Nat.reduceLT, Nat.reduceEqDiff, Nat.reduceAdd, Nat.reduceLeDiff, D.known, D.cells, hpre, Int.lt_irrefl]))
        | (with_reducible refine pickN_intro (fun h => ?_) (fun h => ?_) <;> first | (cases h; done) | (simp -implicitDefEqProofs only [h, go_sem, ↓reduceIte, reduceCtorEq, Int.reduceToNat, Nat.reduceMul, Nat.reduceLT, Nat.reduceEqDiff, Nat.reduceAdd, Nat.reduceLeDiff, D.known, D.cells, hpre, Int.lt_irrefl]; (try simp only [decide_eq_true_eq, decide_eq_false_iff_not, ne_eq, Classical.not_not] at h); (try (with_reducible change True at h; clear h))))
        | (with_reducible refine Dw.split_intro (fun h => ?_) (fun h => ?_) <;> simp -implicitDefEqProofs only [h, go_sem, ↓reduceIte, reduceCtorEq, Int.reduceToNat, Nat.reduceMul, Nat.reduceLT, Nat.reduceEqDiff, Nat.reduceAdd, Nat.reduceLeDiff, D.known, D.cells, hpre, Int.lt_irrefl] <;> (try simp only [decide_eq_true_eq, decide_eq_false_iff_not, ne_eq, Classical.not_not] at h); (try (with_reducible change True at h; clear h)))
        | (with_reducible refine fun _ => ?_; (try simp -implicitDefEqProofs only [go_sem, ↓reduceIte, reduceCtorEq, Int.reduceToNat, Nat.reduceMul, Nat.reduceLT, Nat.reduceEqDiff, Nat.reduceAdd, Nat.reduceLeDiff, D.known, D.cells, hpre, Int.lt_irrefl]))
        | (with_reducible exact Dw.Le.refl _)
        | (simp -implicitDefEqProofs only [go_sem, ↓reduceIte, reduceCtorEq, Int.reduceToNat, Nat.reduceMul, Nat.reduceLT, Nat.reduceEqDiff, Nat.reduceAdd, Nat.reduceLeDiff, D.known, D.cells, hpre, Int.lt_irrefl])
      all_goals first
        | (exfalso; omega)
        | (exact absurd (by assumption) (Int.lt_irrefl _))
        | (rw [hout]; simp only [List.length_append, List.length_cons, List.length_nil]; show _ ≤ (9223372036854775807 : Int); omega)
        | (rw [show out ++ [62] = t.text by rw [Ty.text_eq, hout, hpre]; simp [tag, *]; done]; exact Dw.Le.refl _)
        | trace_state
    · have hget := cellsL_at hpre
      have hmem : a ∈ t.args := by rw [hpre]; simp
      have hln' := hln a hmem
      have hp := hwk pre (a :: suf) hpre
      have hpl : pre.length < t.args.length := by rw [hpre]; simp
      repeat' first
        | (with_reducible refine Wp.gate ?_; first
          | (with_reducible refine Wp.seq fun K hK => ?_)
          | (with_reducible refine Wp.region ?_; simp -implicitDefEqProofs only [go_sem, ↓reduceIte, reduceCtorEq, Int.reduceToNat, Nat.reduceMul, Nat.reduceLT, Nat.reduceEqDiff, Nat.reduceAdd, Nat.reduceLeDiff, D.known, D.cells, cellsL_length, hget, Ty.cells_eq a, binD_int, wrap_in (n := (pre.length : Int) + 1) (by unfold inI; omega)])
          | (with_reducible refine Wp.region' ?_; first
            | (refine Wp.regionPure (by decide +kernel) mixed (by decide +kernel) (by decide +kernel) ?_; simp -implicitDefEqProofs only [go_sem, ↓reduceIte, reduceCtorEq, Int.reduceToNat, Nat.reduceMul, Nat.reduceLT, Nat.reduceEqDiff, Nat.reduceAdd, Nat.reduceLeDiff, D.known, D.cells, cellsL_length, hget, Ty.cells_eq a, binD_int, wrap_in (n := (pre.length : Int) + 1) (by unfold inI; omega)])
            | (refine Wp.regionTail' 1 (by decide +kernel) mixed (by decide +kernel) (by decide +kernel) ?_; simp -implicitDefEqProofs only [List.length_cons, List.length_nil, Nat.reduceAdd, Nat.reduceSub, go_sem, ↓reduceIte, reduceCtorEq, Int.reduceToNat, Nat.reduceMul, Nat.reduceLT, Nat.reduceEqDiff, Nat.reduceAdd, Nat.reduceLeDiff, D.known, D.cells, cellsL_length, hget, Ty.cells_eq a, binD_int, wrap_in (n := (pre.length : Int) + 1) (by unfold inI; omega)])
            | (refine Wp.regionTail' 2 (by decide +kernel) mixed (by decide +kernel) (by decide +kernel) ?_; simp -implicitDefEqProofs only [List.length_cons, List.length_nil, Nat.reduceAdd, Nat.reduceSub, go_sem, ↓reduceIte, reduceCtorEq, Int.reduceToNat, Nat.reduceMul, Nat.reduceLT, Nat.reduceEqDiff, Nat.reduceAdd, Nat.reduceLeDiff, D.known, D.cells, cellsL_length, hget, Ty.cells_eq a, binD_int, wrap_in (n := (pre.length : Int) + 1) (by unfold inI; omega)])
            | (refine Wp.regionTail' 3 (by decide +kernel) mixed (by decide +kernel) (by decide +kernel) ?_; simp -implicitDefEqProofs only [List.length_cons, List.length_nil, Nat.reduceAdd, Nat.reduceSub, go_sem, ↓reduceIte, reduceCtorEq, Int.reduceToNat, Nat.reduceMul, Nat.reduceLT, Nat.reduceEqDiff, Nat.reduceAdd, Nat.reduceLeDiff, D.known, D.cells, cellsL_length, hget, Ty.cells_eq a, binD_int, wrap_in (n := (pre.length : Int) + 1) (by unfold inI; omega)])
            | (refine Wp.regionTail' 4 (by decide +kernel) mixed (by decide +kernel) (by decide +kernel) ?_; simp -implicitDefEqProofs only [List.length_cons, List.length_nil, Nat.reduceAdd, Nat.reduceSub, go_sem, ↓reduceIte, reduceCtorEq, Int.reduceToNat, Nat.reduceMul, Nat.reduceLT, Nat.reduceEqDiff, Nat.reduceAdd, Nat.reduceLeDiff, D.known, D.cells, cellsL_length, hget, Ty.cells_eq a, binD_int, wrap_in (n := (pre.length : Int) + 1) (by unfold inI; omega)])
            | (refine Wp.regionTail' 5 (by decide +kernel) mixed (by decide +kernel) (by decide +kernel) ?_; simp -implicitDefEqProofs only [List.length_cons, List.length_nil, Nat.reduceAdd, Nat.reduceSub, go_sem, ↓reduceIte, reduceCtorEq, Int.reduceToNat, Nat.reduceMul, Nat.reduceLT, Nat.reduceEqDiff, Nat.reduceAdd, Nat.reduceLeDiff, D.known, D.cells, cellsL_length, hget, Ty.cells_eq a, binD_int, wrap_in (n := (pre.length : Int) + 1) (by unfold inI; omega)])
            | (refine Wp.regionTail' 6 (by decide +kernel) mixed (by decide +kernel) (by decide +kernel) ?_; simp -implicitDefEqProofs only [List.length_cons, List.length_nil, Nat.reduceAdd, Nat.reduceSub, go_sem, ↓reduceIte, reduceCtorEq, Int.reduceToNat, Nat.reduceMul, Nat.reduceLT, Nat.reduceEqDiff, Nat.reduceAdd, Nat.reduceLeDiff, D.known, D.cells, cellsL_length, hget, Ty.cells_eq a, binD_int, wrap_in (n := (pre.length : Int) + 1) (by unfold inI; omega)])
            | (refine Wp.regionAll mixed (by decide +kernel) (by decide +kernel) ?_; simp -implicitDefEqProofs only [go_sem, ↓reduceIte, reduceCtorEq, Int.reduceToNat, Nat.reduceMul, Nat.reduceLT, Nat.reduceEqDiff, Nat.reduceAdd, Nat.reduceLeDiff, D.known, D.cells, cellsL_length, hget, Ty.cells_eq a, binD_int, wrap_in (n := (pre.length : Int) + 1) (by unfold inI; omega)]))
          | (with_reducible refine Wp.cond' ?_; refine Wp.cond rfl (fun h => ?_) (fun h => ?_) <;> first | (cases h; done) | (simp only [decide_eq_true_eq, decide_eq_false_iff_not, Bool.not_eq_true', Bool.not_eq_false', ne_eq, Classical.not_not] at h) | skip)
          | (with_reducible refine Wp.block ?_)
          | (with_reducible refine Wp.scope ?_)
          | (with_reducible refine Wp.label ?_; (try simp only [Dw.thenS_normal, Dw.blockS_normal, Dw.noGotoS_normal]))
          | (with_reducible refine Wp.ret ?_; (try simp only [Dw.thenS_ret, Dw.blockS_ret, Dw.noGotoS_ret]); first | (with_reducible refine ret_pure ?_; simp -implicitDefEqProofs only [retD, resAll, oneOrTup, go_sem, ↓reduceIte, reduceCtorEq, Int.reduceToNat, Nat.reduceMul, Nat.reduceLT, Nat.reduceEqDiff, Nat.reduceAdd, Nat.reduceLeDiff, D.known, D.cells, cellsL_length, hget, Ty.cells_eq a, binD_int, wrap_in (n := (pre.length : Int) + 1) (by unfold inI; omega)]) | skip)
          | (with_reducible refine Wp.skip ?_; (try simp only [Dw.thenS_normal, Dw.blockS_normal, Dw.noGotoS_normal]))
          | (with_reducible refine Wp.exit ?_; simp only [Dw.thenS_exit, Dw.blockS_exit, Dw.noGotoS_exit, Dw.noGotoS_normal, if_true, Dw.thenS_normal, Dw.blockS_normal, Nat.reduceEqDiff, if_false, ↓reduceIte]))
        | (with_reducible refine And.intro ?_ ?_)
        | (with_reducible refine hK _ ?_; clear hK K)
        | (clear hK K; with_reducible refine hK _ ?_; clear hK K)
        | (clear hK K; clear hK K; with_reducible refine hK _ ?_; clear hK K)
        | (with_reducible refine opsD_callN (f := 15) ?_; simp -implicitDefEqProofs only [go_sem, ↓reduceIte, reduceCtorEq, Int.reduceToNat, Nat.reduceMul, Nat.reduceLT, Nat.reduceEqDiff, Nat.reduceAdd, Nat.reduceLeDiff, D.known, D.cells, cellsL_length, hget, Ty.cells_eq a, binD_int, wrap_in (n := (pre.length : Int) + 1) (by unfold inI; omega)])
        | (with_reducible refine stepD_callN (f := 15) ?_; simp -implicitDefEqProofs only [go_sem, ↓reduceIte, reduceCtorEq, Int.reduceToNat, Nat.reduceMul, Nat.reduceLT, Nat.reduceEqDiff, Nat.reduceAdd, Nat.reduceLeDiff, D.known, D.cells, cellsL_length, hget, Ty.cells_eq a, binD_int, wrap_in (n := (pre.length : Int) + 1) (by unfold inI; omega)])
        | (with_reducible refine callN_same ent15 (hsub a hmem) ?_)
        | (with_reducible refine opsD_mark ?_; first | (refine opsD_guardT rfl rfl (fun h => ?_) (fun h => ?_) <;> first | (cases h; done) | (simp -implicitDefEqProofs only [h, go_sem, ↓reduceIte, reduceCtorEq, Int.reduceToNat, Nat.reduceMul, Nat.reduceLT, Nat.reduceEqDiff, Nat.reduceAdd, Nat.reduceLeDiff, D.known, D.cells, cellsL_length, hget, Ty.cells_eq a, binD_int, wrap_in (n := (pre.length : Int) + 1) (by unfold inI; omega)]; (try simp only [decide_eq_true_eq, decide_eq_false_iff_not, ne_eq, Classical.not_not] at h); (try (with_reducible change True at h; clear h)))) | (refine opsD_guardF rfl rfl (fun h => ?_) (fun h => ?_) <;> first | (cases h; done) | (simp -implicitDefEqProofs only [h, go_sem, ↓reduceIte, reduceCtorEq, Int.reduceToNat, Nat.reduceMul, Nat.reduceLT, Nat.reduceEqDiff, Nat.reduceAdd, Nat.reduceLeDiff, D.known, D.cells, cellsL_length, hget, Ty.cells_eq a, binD_int, wrap_in (n := (pre.length : Int) + 1) (by unfold inI; omega)]; (try simp only [decide_eq_true_eq, decide_eq_false_iff_not, ne_eq, Classical.not_not] at h); (try (with_reducible change True at h; clear h)))) | (refine opsD_guardS rfl rfl ?_; simp -implicitDefEqProofs only [go_sem, ↓reduceIte, reduceCtorEq, Int.reduceToNat, Nat.reduceMul, Nat.reduceLT, Nat.reduceEqDiff, Nat.reduceAdd, Nat.reduceLeDiff, D.known, D.cells, cellsL_length, hget, Ty.cells_eq a, binD_int, wrap_in (n := (pre.length : Int) + 1) (by unfold inI; omega)]))
        | (with_reducible refine opsN_mark ?_; first | (refine opsN_guardT rfl rfl (fun h => ?_) (fun h => ?_) <;> first | (cases h; done) | (simp -implicitDefEqProofs only [h, go_sem, ↓reduceIte, reduceCtorEq, Int.reduceToNat, Nat.reduceMul, Nat.reduceLT, Nat.reduceEqDiff, Nat.reduceAdd, Nat.reduceLeDiff, D.known, D.cells, cellsL_length, hget, Ty.cells_eq a, binD_int, wrap_in (n := (pre.length : Int) + 1) (by unfold inI; omega)]; (try simp only [decide_eq_true_eq, decide_eq_false_iff_not, ne_eq, Classical.not_not] at h); (try (with_reducible change True at h; clear h)))) | (refine opsN_guardF rfl rfl (fun h => ?_) (fun h => ?_) <;> first | (cases h; done) | (simp -implicitDefEqProofs only [h, go_sem, ↓reduceIte, reduceCtorEq, Int.reduceToNat, Nat.reduceMul, Nat.reduceLT, Nat.reduceEqDiff, Nat.reduceAdd, Nat.reduceLeDiff, D.known, D.cells, cellsL_length, hget, Ty.cells_eq a, binD_int, wrap_in (n := (pre.length : Int) + 1) (by unfold inI; omega)]; (try simp only [decide_eq_true_eq, decide_eq_false_iff_not, ne_eq, Classical.not_not] at h); (try (with_reducible change True at h; clear h)))) | (refine opsN_guardS rfl rfl ?_; simp -implicitDefEqProofs only [go_sem, ↓reduceIte, reduceCtorEq, Int.reduceToNat, Nat.reduceMul, Nat.reduceLT, Nat.reduceEqDiff, Nat.reduceAdd, Nat.reduceLeDiff, D.known, D.cells, cellsL_length, hget, Ty.cells_eq a, binD_int, wrap_in (n := (pre.length : Int) + 1) (by unfold inI; omega)]))
        | (with_reducible refine pickN_intro (fun h => ?_) (fun h => ?_) <;> first | (cases h; done) | (simp -implicitDefEqProofs only [h, go_sem, ↓reduceIte, reduceCtorEq, Int.reduceToNat, Nat.reduceMul, Nat.reduceLT, Nat.reduceEqDiff, Nat.reduceAdd, Nat.reduceLeDiff, D.known, D.cells, cellsL_length, hget, Ty.cells_eq a, binD_int, wrap_in (n := (pre.length : Int) + 1) (by unfold inI; omega)]; (try simp only [decide_eq_true_eq, decide_eq_false_iff_not, ne_eq, Classical.not_not] at h); (try (with_reducible change True at h; clear h))))
        | (with_reducible refine Dw.split_intro (fun h => ?_) (fun h => ?_) <;> simp -implicitDefEqProofs only [h, go_sem, ↓reduceIte, reduceCtorEq, Int.reduceToNat, Nat.reduceMul, Nat.reduceLT, Nat.reduceEqDiff, Nat.reduceAdd, Nat.reduceLeDiff, D.known, D.cells, cellsL_length, hget, Ty.cells_eq a, binD_int, wrap_in (n := (pre.length : Int) + 1) (by unfold inI; omega)] <;> (try simp only [decide_eq_true_eq, decide_eq_false_iff_not, ne_eq, Classical.not_not] at h); (try (with_reducible change True at h; clear h)))
        | (with_reducible refine fun _ => ?_; (try simp -implicitDefEqProofs only [go_sem, ↓reduceIte, reduceCtorEq, Int.reduceToNat, Nat.reduceMul, Nat.reduceLT, Nat.reduceEqDiff, Nat.reduceAdd, Nat.reduceLeDiff, D.known, D.cells, cellsL_length, hget, Ty.cells_eq a, binD_int, wrap_in (n := (pre.length : Int) + 1) (by unfold inI; omega)]))
        | (with_reducible exact Dw.Le.refl _)
        | (simp -implicitDefEqProofs only [go_sem, ↓reduceIte, reduceCtorEq, Int.reduceToNat, Nat.reduceMul, Nat.reduceLT, Nat.reduceEqDiff, Nat.reduceAdd, Nat.reduceLeDiff, D.known, D.cells, cellsL_length, hget, Ty.cells_eq a, binD_int, wrap_in (n := (pre.length : Int) + 1) (by unfold inI; omega)])
      all_goals first
        | (exfalso; omega)
        | (refine ⟨suf.length, ⟨51, [(1, .rp t.cells), (3, .str (out ++ ([59] ++ a.text))), (37, .sl false 4 (Ty.cellsL t.args)), (38, .int .i64 t.args.length), (39, .int .i64 ((pre.length : Int) + 1))], []⟩, ?_, Weak.sub ?_ ?_, ⟨pre ++ [a], suf, out ++ ([59] ++ a.text), ?_, rfl, ?_, ?_⟩⟩
           focus (simp only [List.length_cons] at hn; omega)
           focus (rw [Ty.cells_eq t]; (repeat' first | exact FrSub.nil | exact StSub.nil | (refine FrSub.cons rfl ?_ ?_) | (refine StSub.cons rfl ?_) | exact Dw.Le.refl _); done)
           focus ((repeat' first | exact FrSub.nil | exact StSub.nil | (refine FrSub.cons rfl ?_ ?_) | (refine StSub.cons rfl ?_) | exact Dw.Le.refl _); done)
           focus (rw [hpre]; simp; done)
           focus (rw [hout, textL_append]; simp [Ty.textL]; done)
           focus (rw [len_snoc]; done))
        | (rw [hout]; simp only [List.length_append, List.length_cons, List.length_nil]; show _ ≤ (9223372036854775807 : Int); omega)
        | ((try simp only [List.length_append, List.length_cons, List.length_nil]); show _ ≤ (9223372036854775807 : Int); omega)
        | (simp only [List.length_cons] at hn; omega)
        | omega
        | (simp; done)
        | ((repeat' first | exact FrSub.nil | exact StSub.nil | (refine FrSub.cons rfl ?_ ?_) | (refine StSub.cons rfl ?_) | exact Dw.Le.refl _); done)
        | (rw [Ty.cells_eq t]; (repeat' first | exact FrSub.nil | exact StSub.nil | (refine FrSub.cons rfl ?_ ?_) | (refine StSub.cons rfl ?_) | exact Dw.Le.refl _); done)
        | trace_state)

theorem text_call {t : Ty} (h : t.ok) (hw : t.wt ≤ 1000000000000) : CallR Tryd.prog [] 15 [.agg t.cells] [] (.str t.text) := call15 _ t h hw (Nat.le_refl _)
end Go.Proofs.YtjbajnkbiohoeaaDoor
