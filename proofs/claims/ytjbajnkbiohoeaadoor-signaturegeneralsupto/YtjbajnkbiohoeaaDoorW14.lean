/-
  Facts on the way to the statement of this claim: contracts of the program's functions and what they reckon. No condition beyond those that each theorem bears.
-/
import Derived.Test.YtjbajnkbiohoeaaDoorM1
namespace Go.Proofs.YtjbajnkbiohoeaaDoor
open Go Go.Dw
theorem num_bound {a b : Int} (ha : inI a) (hb : inI b) : ((num a).length : Int) + ((num b).length : Int) ≤ IntKind.i64.max := by
  have := num_length ha
  have := num_length hb
  show _ ≤ (9223372036854775807 : Int)
  omega
theorem call14 (m : Nat) : ∀ n : Int, inI n → 2 * n.natAbs + (if n < 0 then 1 else 0) ≤ m → CallR Tryd.prog [] 14 [.int .i64 n] [] (.str (num n)) := by
  induction m using Nat.strongRecOn with
  | _ m ih =>
  intro n hn hm
  refine CallR.of_pure Tryd.func14 rfl (by simp [Tryd.ntmps14]) fun X B0 w0 => ?_
  simp only [Tryd.results14, Tryd.ntmps14, numF]
  have ta := td_abs n
  have tb := tm_abs n
  have tc := @tm_pos n
  have td := @tm_neg n
  have ihq : n ≤ -10 ∨ ¬ n < 10 → CallR Tryd.prog [] 14 [.int .i64 (n.tdiv 10)] [] (.str (num (n.tdiv 10))) := fun h => ih _ (by split at hm <;> split <;> omega) _ (by unfold inI at *; omega) (Nat.le_refl _)
  have ihr : n ≤ -10 → CallR Tryd.prog [] 14 [.int .i64 (-(n.tmod 10))] [] (.str (num (-(n.tmod 10)))) := fun h => ih _ (by split at hm <;> split <;> omega) _ (by unfold inI at *; omega) (Nat.le_refl _)
  have ihn : ¬ n ≤ -10 → n < 0 → CallR Tryd.prog [] 14 [.int .i64 (IntKind.i64.wrap (0 - n))] [] (.str (num (-n))) := fun h h' => by rw [wrap_neg hn h]; exact ih _ (by split at hm <;> split <;> omega) _ (by unfold inI at *; omega) (Nat.le_refl _)
  have ihm : ¬ n < 10 → CallR Tryd.prog [] 14 [.int .i64 (n.tmod 10)] [] (.str (num (n.tmod 10))) := fun h => ih _ (by split at hm <;> split <;> omega) _ (by unfold inI at *; omega) (Nat.le_refl _)
  repeat' first
    | (with_reducible refine Wp.gate ?_; first
      | (with_reducible refine Wp.seq fun K hK => ?_)
      | (with_reducible refine Wp.region ?_; simp -implicitDefEqProofs only [go_sem, ↓reduceIte, reduceCtorEq, Int.reduceToNat, Nat.reduceMul, Nat.reduceLT, Nat.reduceEqDiff, Nat.reduceAdd, Nat.reduceLeDiff, D.known, D.cells, wrap_quo hn, wrap_nrem])
      | (with_reducible refine Wp.region' ?_; first
        | (refine Wp.regionPure (by decide +kernel) mixed (by decide +kernel) (by decide +kernel) ?_; simp -implicitDefEqProofs only [go_sem, ↓reduceIte, reduceCtorEq, Int.reduceToNat, Nat.reduceMul, Nat.reduceLT, Nat.reduceEqDiff, Nat.reduceAdd, Nat.reduceLeDiff, D.known, D.cells, wrap_quo hn, wrap_nrem])
        | (refine Wp.regionTail' 1 (by decide +kernel) mixed (by decide +kernel) (by decide +kernel) ?_; simp -implicitDefEqProofs only [List.length_cons, List.length_nil, Nat.reduceAdd, Nat.reduceSub, go_sem, ↓reduceIte, reduceCtorEq, Int.reduceToNat, Nat.reduceMul, Nat.reduceLT, Nat.reduceEqDiff, Nat.reduceAdd, Nat.reduceLeDiff, D.known, D.cells, wrap_quo hn, wrap_nrem])
        | (refine Wp.regionTail' 2 (by decide +kernel) mixed (by decide +kernel) (by decide +kernel) ?_; simp -implicitDefEqProofs only [List.length_cons, List.length_nil, Nat.reduceAdd, Nat.reduceSub, go_sem, ↓reduceIte, reduceCtorEq, Int.reduceToNat, Nat.reduceMul, Nat.reduceLT, Nat.reduceEqDiff, Nat.reduceAdd, Nat.reduceLeDiff, D.known, D.cells, wrap_quo hn, wrap_nrem])
        | (refine Wp.regionTail' 3 (by decide +kernel) mixed (by decide +kernel) (by decide +kernel) ?_; simp -implicitDefEqProofs only [List.length_cons, List.length_nil, Nat.reduceAdd, Nat.reduceSub, go_sem, ↓reduceIte, reduceCtorEq, Int.reduceToNat, Nat.reduceMul, Nat.reduceLT, Nat.reduceEqDiff, Nat.reduceAdd, Nat.reduceLeDiff, D.known, D.cells, wrap_quo hn, wrap_nrem])
        | (refine Wp.regionTail' 4 (by decide +kernel) mixed (by decide +kernel) (by decide +kernel) ?_; simp -implicitDefEqProofs only [List.length_cons, List.length_nil, Nat.reduceAdd, Nat.reduceSub, go_sem, ↓reduceIte, reduceCtorEq, Int.reduceToNat, Nat.reduceMul, Nat.reduceLT, Nat.reduceEqDiff, Nat.reduceAdd, Nat.reduceLeDiff, D.known, D.cells, wrap_quo hn, wrap_nrem])
        | (refine Wp.regionTail' 5 (by decide +kernel) mixed (by decide +kernel) (by decide +kernel) ?_; simp -implicitDefEqProofs only [List.length_cons, List.length_nil, Nat.reduceAdd, Nat.reduceSub, go_sem, ↓reduceIte, reduceCtorEq, Int.reduceToNat, Nat.reduceMul, Nat.reduceLT, Nat.reduceEqDiff, Nat.reduceAdd, Nat.reduceLeDiff, D.known, D.cells, wrap_quo hn, wrap_nrem])
        | (refine Wp.regionTail' 6 (by decide +kernel) mixed (by decide +kernel) (by decide +kernel) ?_; simp -implicitDefEqProofs only [List.length_cons, List.length_nil, Nat.reduceAdd, Nat.reduceSub, go_sem, ↓reduceIte, reduceCtorEq, Int.reduceToNat, Nat.reduceMul, Nat.reduceLT, Nat.reduceEqDiff, Nat.reduceAdd, Nat.reduceLeDiff, D.known, D.cells, wrap_quo hn, wrap_nrem])
        | (refine Wp.regionAll mixed (by decide +kernel) (by decide +kernel) ?_; simp -implicitDefEqProofs only [go_sem, ↓reduceIte, reduceCtorEq, Int.reduceToNat, Nat.reduceMul, Nat.reduceLT, Nat.reduceEqDiff, Nat.reduceAdd, Nat.reduceLeDiff, D.known, D.cells, wrap_quo hn, wrap_nrem]))
      | (with_reducible refine Wp.cond' ?_; refine Wp.cond rfl (fun h => ?_) (fun h => ?_) <;> first | (cases h; done) | (simp only [decide_eq_true_eq, decide_eq_false_iff_not, Bool.not_eq_true', Bool.not_eq_false', ne_eq, Classical.not_not] at h) | skip)
      | (with_reducible refine Wp.block ?_)
      | (with_reducible refine Wp.scope ?_)
      | (with_reducible refine Wp.label ?_; (try simp only [Dw.thenS_normal, Dw.blockS_normal, Dw.noGotoS_normal]))
      | (with_reducible refine Wp.ret ?_; (try simp only [Dw.thenS_ret, Dw.blockS_ret, Dw.noGotoS_ret]); first | (with_reducible refine ret_pure ?_; simp -implicitDefEqProofs only [retD, resAll, oneOrTup, go_sem, ↓reduceIte, reduceCtorEq, Int.reduceToNat, Nat.reduceMul, Nat.reduceLT, Nat.reduceEqDiff, Nat.reduceAdd, Nat.reduceLeDiff, D.known, D.cells, wrap_quo hn, wrap_nrem]) | skip)
      | (with_reducible refine Wp.skip ?_; (try simp only [Dw.thenS_normal, Dw.blockS_normal, Dw.noGotoS_normal]))
      | (with_reducible refine Wp.exit ?_; simp only [Dw.thenS_exit, Dw.blockS_exit, Dw.noGotoS_exit, Dw.noGotoS_normal, if_true, Dw.thenS_normal, Dw.blockS_normal, Nat.reduceEqDiff, if_false, ↓reduceIte]))
    | (with_reducible refine And.intro ?_ ?_)
    | (with_reducible refine hK _ ?_; clear hK K)
    | (clear hK K; with_reducible refine hK _ ?_; clear hK K)
    | (clear hK K; clear hK K; with_reducible refine hK _ ?_; clear hK K)
    | (with_reducible refine opsD_callN (f := 14) ?_; simp -implicitDefEqProofs only [go_sem, ↓reduceIte, reduceCtorEq, Int.reduceToNat, Nat.reduceMul, Nat.reduceLT, Nat.reduceEqDiff, Nat.reduceAdd, Nat.reduceLeDiff, D.known, D.cells, wrap_quo hn, wrap_nrem])
    | (with_reducible refine stepD_callN (f := 14) ?_; simp -implicitDefEqProofs only [go_sem, ↓reduceIte, reduceCtorEq, Int.reduceToNat, Nat.reduceMul, Nat.reduceLT, Nat.reduceEqDiff, Nat.reduceAdd, Nat.reduceLeDiff, D.known, D.cells, wrap_quo hn, wrap_nrem])
    | (with_reducible refine callN_same ent14 (ihq (Or.inl (by assumption))) ?_)
    | (with_reducible refine opsD_callN (f := 14) ?_; simp -implicitDefEqProofs only [go_sem, ↓reduceIte, reduceCtorEq, Int.reduceToNat, Nat.reduceMul, Nat.reduceLT, Nat.reduceEqDiff, Nat.reduceAdd, Nat.reduceLeDiff, D.known, D.cells, wrap_quo hn, wrap_nrem])
    | (with_reducible refine stepD_callN (f := 14) ?_; simp -implicitDefEqProofs only [go_sem, ↓reduceIte, reduceCtorEq, Int.reduceToNat, Nat.reduceMul, Nat.reduceLT, Nat.reduceEqDiff, Nat.reduceAdd, Nat.reduceLeDiff, D.known, D.cells, wrap_quo hn, wrap_nrem])
    | (with_reducible refine callN_same ent14 (ihq (Or.inr (by assumption))) ?_)
    | (with_reducible refine opsD_callN (f := 14) ?_; simp -implicitDefEqProofs only [go_sem, ↓reduceIte, reduceCtorEq, Int.reduceToNat, Nat.reduceMul, Nat.reduceLT, Nat.reduceEqDiff, Nat.reduceAdd, Nat.reduceLeDiff, D.known, D.cells, wrap_quo hn, wrap_nrem])
    | (with_reducible refine stepD_callN (f := 14) ?_; simp -implicitDefEqProofs only [go_sem, ↓reduceIte, reduceCtorEq, Int.reduceToNat, Nat.reduceMul, Nat.reduceLT, Nat.reduceEqDiff, Nat.reduceAdd, Nat.reduceLeDiff, D.known, D.cells, wrap_quo hn, wrap_nrem])
    | (with_reducible refine callN_same ent14 (ihr (by assumption)) ?_)
    | (with_reducible refine opsD_callN (f := 14) ?_; simp -implicitDefEqProofs only [go_sem, ↓reduceIte, reduceCtorEq, Int.reduceToNat, Nat.reduceMul, Nat.reduceLT, Nat.reduceEqDiff, Nat.reduceAdd, Nat.reduceLeDiff, D.known, D.cells, wrap_quo hn, wrap_nrem])
    | (with_reducible refine stepD_callN (f := 14) ?_; simp -implicitDefEqProofs only [go_sem, ↓reduceIte, reduceCtorEq, Int.reduceToNat, Nat.reduceMul, Nat.reduceLT, Nat.reduceEqDiff, Nat.reduceAdd, Nat.reduceLeDiff, D.known, D.cells, wrap_quo hn, wrap_nrem])
    | (with_reducible refine callN_same ent14 (ihn (by assumption) (by assumption)) ?_)
    | (with_reducible refine opsD_callN (f := 14) ?_; simp -implicitDefEqProofs only [go_sem, ↓reduceIte, reduceCtorEq, Int.reduceToNat, Nat.reduceMul, Nat.reduceLT, Nat.reduceEqDiff, Nat.reduceAdd, Nat.reduceLeDiff, D.known, D.cells, wrap_quo hn, wrap_nrem])
    | (with_reducible refine stepD_callN (f := 14) ?_; simp -implicitDefEqProofs only [go_sem, ↓reduceIte, reduceCtorEq, Int.reduceToNat, Nat.reduceMul, Nat.reduceLT, Nat.reduceEqDiff, Nat.reduceAdd, Nat.reduceLeDiff, D.known, D.cells, wrap_quo hn, wrap_nrem])
    | (with_reducible refine callN_same ent14 (ihm (by assumption)) ?_)
    | (with_reducible refine opsD_mark ?_; first | (refine opsD_guardT rfl rfl (fun h => ?_) (fun h => ?_) <;> first | (cases h; done) | (simp -implicitDefEqProofs only [h, go_sem, ↓reduceIte, reduceCtorEq, Int.reduceToNat, Nat.reduceMul, Nat.reduceLT, Nat.reduceEqDiff, Nat.reduceAdd, Nat.reduceLeDiff, D.known, D.cells, wrap_quo hn, wrap_nrem]; (try simp only [decide_eq_true_eq, decide_eq_false_iff_not, ne_eq, Classical.not_not] at h); (try (with_reducible change True at h; clear h)))) | (refine opsD_guardF rfl rfl (fun h => ?_) (fun h => ?_) <;> first | (cases h; done) | (simp -implicitDefEqProofs only [h, go_sem, ↓reduceIte, reduceCtorEq, Int.reduceToNat, Nat.reduceMul, Nat.reduceLT, Nat.reduceEqDiff, Nat.reduceAdd, Nat.reduceLeDiff, D.known, D.cells, wrap_quo hn, wrap_nrem]; (try simp only [decide_eq_true_eq, decide_eq_false_iff_not, ne_eq, Classical.not_not] at h); (try (with_reducible change True at h; clear h)))) | (refine opsD_guardS rfl rfl ?_; simp -implicitDefEqProofs only [go_sem, ↓reduceIte, reduceCtorEq, Int.reduceToNat, Nat.reduceMul, Nat.reduceLT, Nat.reduceEqDiff, Nat.reduceAdd, Nat.reduceLeDiff, D.known, D.cells, wrap_quo hn, wrap_nrem]))
    | (with_reducible refine opsN_mark ?_; first | (refine opsN_guardT rfl rfl (fun h => ?_) (fun h => ?_) <;> first | (cases h; done) | (simp -implicitDefEqProofs only [h, go_sem, ↓reduceIte, reduceCtorEq, Int.reduceToNat, Nat.reduceMul, Nat.reduceLT, Nat.reduceEqDiff, Nat.reduceAdd, Nat.reduceLeDiff, D.known, D.cells, wrap_quo hn, wrap_nrem]; (try simp only [decide_eq_true_eq, decide_eq_false_iff_not, ne_eq, Classical.not_not] at h); (try (with_reducible change True at h; clear h)))) | (refine opsN_guardF rfl rfl (fun h => ?_) (fun h => ?_) <;> first | (cases h; done) | (simp -implicitDefEqProofs only [h, go_sem, ↓reduceIte, reduceCtorEq, Int.reduceToNat, Nat.reduceMul, Nat.reduceLT, Nat.reduceEqDiff, Nat.reduceAdd, Nat.reduceLeDiff, D.known, D.cells, wrap_quo hn, wrap_nrem]; (try simp only [decide_eq_true_eq, decide_eq_false_iff_not, ne_eq, Classical.not_not] at h); (try (with_reducible change True at h; clear h)))) | (refine opsN_guardS rfl rfl ?_; simp -implicitDefEqProofs only [go_sem, ↓reduceIte, reduceCtorEq, Int.reduceToNat, Nat.reduceMul, Nat.reduceLT, Nat.reduceEqDiff, Nat.reduceAdd, Nat.reduceLeDiff, D.known, D.cells, wrap_quo hn, wrap_nrem]))
    | (with_reducible refine pickN_intro (fun h => ?_) (fun h => ?_) <;> first | (cases h; done) | (simp -implicitDefEqProofs only [h, go_sem, ↓reduceIte, reduceCtorEq, Int.reduceToNat, Nat.reduceMul, Nat.reduceLT, Nat.reduceEqDiff, Nat.reduceAdd, Nat.reduceLeDiff, D.known, D.cells, wrap_quo hn, wrap_nrem]; (try simp only [decide_eq_true_eq, decide_eq_false_iff_not, ne_eq, Classical.not_not] at h); (try (with_reducible change True at h; clear h))))
    | (with_reducible refine Dw.split_intro (fun h => ?_) (fun h => ?_) <;> simp -implicitDefEqProofs only [h, go_sem, ↓reduceIte, reduceCtorEq, Int.reduceToNat, Nat.reduceMul, Nat.reduceLT, Nat.reduceEqDiff, Nat.reduceAdd, Nat.reduceLeDiff, D.known, D.cells, wrap_quo hn, wrap_nrem] <;> (try simp only [decide_eq_true_eq, decide_eq_false_iff_not, ne_eq, Classical.not_not] at h); (try (with_reducible change True at h; clear h)))
    | (with_reducible refine fun _ => ?_; (try simp -implicitDefEqProofs only [go_sem, ↓reduceIte, reduceCtorEq, Int.reduceToNat, Nat.reduceMul, Nat.reduceLT, Nat.reduceEqDiff, Nat.reduceAdd, Nat.reduceLeDiff, D.known, D.cells, wrap_quo hn, wrap_nrem]))
    | (with_reducible exact Dw.Le.refl _)
    | (simp -implicitDefEqProofs only [go_sem, ↓reduceIte, reduceCtorEq, Int.reduceToNat, Nat.reduceMul, Nat.reduceLT, Nat.reduceEqDiff, Nat.reduceAdd, Nat.reduceLeDiff, D.known, D.cells, wrap_quo hn, wrap_nrem])
  all_goals first
    | (decide; done)
    | (exact num_bound (by unfold inI at *; omega) (by unfold inI at *; omega))
    | (rfl)
    | (rw [wrap_add1 (by assumption) (by assumption)]; omega)
    | omega
    | (rw [wrap_add1 (by assumption) (by assumption), ← num_digit (by assumption) (by assumption)]; exact Dw.Le.refl _)
    | (rw [← num_low (by assumption)]; exact Dw.Le.refl _)
    | (rw [← num_high (by assumption)]; exact Dw.Le.refl _)
    | (exact Le_str (num_neg (by assumption) (by assumption)).symm)
    | (refine Int.le_trans ?_ (num_bound (a := 0) (b := -n) (by unfold inI; omega) (by unfold inI at *; omega)); simp [show num 0 = [48] from num_digit (by decide) (by decide)])
    | trace_state

theorem num_call {n : Int} (h : inI n) : CallR Tryd.prog [] 14 [.int .i64 n] [] (.str (num n)) := call14 _ n h (Nat.le_refl _)
end Go.Proofs.YtjbajnkbiohoeaaDoor
