/-
  Facts on the way to the statement of this claim: contracts of the program's functions and what they reckon. No condition beyond those that each theorem bears.
-/
import Derived.Test.YtjbajnkbiohoeaaDoorM2
import Derived.Test.YtjbajnkbiohoeaaDoorW11
namespace Go.Proofs.YtjbajnkbiohoeaaDoor
open Go Go.Dw
theorem unlook_new {k : Int} {t : Ty} {f : Fd} (h : fget f k = none) : unlook (.int .i64 k) (.agg [.int .i64 t.kind, .str t.name, .int .i64 t.var, .sl false 4 (Ty.cellsL t.args)]) (es f) = some (es (f ++ [(k, t)])) := by
  rw [← Ty.cells_eq]; exact unlook_es h
/-- The matcher's method, on a map under whatever key. -/
theorem call11k (a b : Ty) (f : Fd) (r g : Nat) (ha : a.wt ≤ 1000000000000) (hb : b.wt ≤ 1000000000000) (hf : okF f) {E : Env} {φ : St} {dst : Option Tmp} {κ : St → Prop} (hd : okDst φ.N dst) (hg : g ∉ E.ro)
    (hl : Dw.look g φ.st = some (.map r (es f))) (hK : κ { φ with fr := putF dst (.bool (inst a b f).1) φ.fr, st := (g, .map r (es (inst a b f).2)) :: dropK g φ.st }) :
    callE Tryd.prog E φ (.fn 11 [] []) [.rp [.mapr g r], .agg [.int .i64 a.kind, .str a.name, .int .i64 a.var, .sl false 4 (Ty.cellsL a.args)], .agg [.int .i64 b.kind, .str b.name, .int .i64 b.var, .sl false 4 (Ty.cellsL b.args)]] dst κ := by
  rw [← Ty.cells_eq a, ← Ty.cells_eq b]
  refine callE_of [(1000, g)] (InstPost r (inst a b f)) ent11 hd (ds' := [.rp [.mapr 1000 r], .agg a.cells, .agg b.cells]) ?_ (by simp) (by simp) (by simpa using hg) (by rw [show ren (swapK [(1000, g)]) φ.st = [(1000, .map r (es f))] by simp [swapK, ren, hl]]; exact CallTo.glob (call11 r _ a b f (Nat.le_refl _) ha hb hf)) ?_
  · exact .cons (.rps (.cons (.keym _ _ _) .nil)) (.cons (.refl _) (.cons (.refl _) .nil))
  · rintro d S' ⟨rfl, rfl⟩
    refine ⟨[(1000, g)], by simp, by simpa using hg, ?_⟩
    simpa [ren, Dw.look, dropAll] using hK
def Objs (b5 b7 r : Nat) (f : Fd) (p : Pr) : List (Nat × O) := [(1005, .cells b5 [.rp [.mapr 9 r]]), (1007, .cells b7 p.cells), (9, .map r (es f))]
def TestPost (S : List (Nat × O)) (x : Bool) (d : D) (S' : List (Nat × O)) : Prop := d = .bool x ∧ S' = S
set_option maxHeartbeats 8000000 in
set_option maxRecDepth 100000 in
theorem call13 {f : Fd} {p q : Pr} {b5 b7 r : Nat} (hf : okF f) (hn : nd f) (hp : p.ty.wt ≤ 1000000000000) (hq : q.ty.wt ≤ 1000000000000) :
    CallTo Tryd.prog [] 13 [.agg q.cells, .ref 1005 b5 0, .ref 1007 b7 0] (Objs b5 b7 r f p) (TestPost (Objs b5 b7 r f p) (fitP f p q)) := by
  refine CallTo.of_walk Tryd.func13 rfl (by simp [Tryd.ntmps13]) fun X B0 w0 => ?_
  simp only [Tryd.results13, Tryd.ntmps13, numF, Objs, Pr.cells_eq]
  repeat' first
    | (with_reducible refine Wp.gate ?_; first
      | (with_reducible refine Wp.seq fun K hK => ?_)
      | (with_reducible refine Wp.region ?_; simp -implicitDefEqProofs only [go_sem, ↓reduceIte, reduceCtorEq, Nat.reduceLT, Nat.reduceEqDiff, Nat.reduceAdd, Nat.reduceLeDiff, D.known, D.cells, es_length])
      | (with_reducible refine Wp.region' ?_; first
        | (refine Wp.regionPure (by decide +kernel) mixed (by decide +kernel) (by decide +kernel) ?_; simp -implicitDefEqProofs only [go_sem, ↓reduceIte, reduceCtorEq, Nat.reduceLT, Nat.reduceEqDiff, Nat.reduceAdd, Nat.reduceLeDiff, D.known, D.cells, es_length])
        | (refine Wp.regionTail' 1 (by decide +kernel) mixed (by decide +kernel) (by decide +kernel) ?_; simp -implicitDefEqProofs only [List.length_cons, List.length_nil, Nat.reduceAdd, Nat.reduceSub, go_sem, ↓reduceIte, reduceCtorEq, Nat.reduceLT, Nat.reduceEqDiff, Nat.reduceAdd, Nat.reduceLeDiff, D.known, D.cells, es_length])
        | (refine Wp.regionTail' 2 (by decide +kernel) mixed (by decide +kernel) (by decide +kernel) ?_; simp -implicitDefEqProofs only [List.length_cons, List.length_nil, Nat.reduceAdd, Nat.reduceSub, go_sem, ↓reduceIte, reduceCtorEq, Nat.reduceLT, Nat.reduceEqDiff, Nat.reduceAdd, Nat.reduceLeDiff, D.known, D.cells, es_length])
        | (refine Wp.regionTail' 3 (by decide +kernel) mixed (by decide +kernel) (by decide +kernel) ?_; simp -implicitDefEqProofs only [List.length_cons, List.length_nil, Nat.reduceAdd, Nat.reduceSub, go_sem, ↓reduceIte, reduceCtorEq, Nat.reduceLT, Nat.reduceEqDiff, Nat.reduceAdd, Nat.reduceLeDiff, D.known, D.cells, es_length])
        | (refine Wp.regionTail' 4 (by decide +kernel) mixed (by decide +kernel) (by decide +kernel) ?_; simp -implicitDefEqProofs only [List.length_cons, List.length_nil, Nat.reduceAdd, Nat.reduceSub, go_sem, ↓reduceIte, reduceCtorEq, Nat.reduceLT, Nat.reduceEqDiff, Nat.reduceAdd, Nat.reduceLeDiff, D.known, D.cells, es_length])
        | (refine Wp.regionTail' 5 (by decide +kernel) mixed (by decide +kernel) (by decide +kernel) ?_; simp -implicitDefEqProofs only [List.length_cons, List.length_nil, Nat.reduceAdd, Nat.reduceSub, go_sem, ↓reduceIte, reduceCtorEq, Nat.reduceLT, Nat.reduceEqDiff, Nat.reduceAdd, Nat.reduceLeDiff, D.known, D.cells, es_length])
        | (refine Wp.regionTail' 6 (by decide +kernel) mixed (by decide +kernel) (by decide +kernel) ?_; simp -implicitDefEqProofs only [List.length_cons, List.length_nil, Nat.reduceAdd, Nat.reduceSub, go_sem, ↓reduceIte, reduceCtorEq, Nat.reduceLT, Nat.reduceEqDiff, Nat.reduceAdd, Nat.reduceLeDiff, D.known, D.cells, es_length])
        | (refine Wp.regionAll mixed (by decide +kernel) (by decide +kernel) ?_; simp -implicitDefEqProofs only [go_sem, ↓reduceIte, reduceCtorEq, Nat.reduceLT, Nat.reduceEqDiff, Nat.reduceAdd, Nat.reduceLeDiff, D.known, D.cells, es_length]))
      | (with_reducible refine Wp.cond' ?_; refine Wp.cond rfl (fun h => ?_) (fun h => ?_) <;> first | (cases h; done) | (simp only [decide_eq_true_eq, decide_eq_false_iff_not, Bool.not_eq_true', Bool.not_eq_false', ne_eq, Classical.not_not] at h) | skip)
      | (with_reducible refine Wp.block ?_)
      | (with_reducible refine Wp.scope ?_)
      | (with_reducible refine Wp.label ?_; (try simp only [Dw.thenS_normal, Dw.blockS_normal, Dw.noGotoS_normal]))
      | (with_reducible refine Wp.ret ?_; (try simp only [Dw.thenS_ret, Dw.blockS_ret, Dw.noGotoS_ret]); first | (with_reducible refine ret_pure ?_; simp -implicitDefEqProofs only [retD, resAll, oneOrTup, go_sem, ↓reduceIte, reduceCtorEq, Nat.reduceLT, Nat.reduceEqDiff, Nat.reduceAdd, Nat.reduceLeDiff, D.known, D.cells, es_length]) | skip)
      | (with_reducible refine Wp.skip ?_; (try simp only [Dw.thenS_normal, Dw.blockS_normal, Dw.noGotoS_normal]))
      | (with_reducible refine Wp.exit ?_; simp only [Dw.thenS_exit, Dw.blockS_exit, Dw.noGotoS_exit, Dw.noGotoS_normal, if_true, Dw.thenS_normal, Dw.blockS_normal, Nat.reduceEqDiff, if_false, ↓reduceIte]))
    | (with_reducible refine And.intro ?_ ?_)
    | (with_reducible refine hK _ ?_; clear hK K)
    | (clear hK K; with_reducible refine hK _ ?_; clear hK K)
    | (clear hK K; clear hK K; with_reducible refine hK _ ?_; clear hK K)
    | (with_reducible refine opsD_mark ?_; first | (refine opsD_guardT rfl rfl (fun h => ?_) (fun h => ?_) <;> first | (cases h; done) | (simp -implicitDefEqProofs only [h, go_sem, ↓reduceIte, reduceCtorEq, Nat.reduceLT, Nat.reduceEqDiff, Nat.reduceAdd, Nat.reduceLeDiff, D.known, D.cells, es_length]; (try simp only [decide_eq_true_eq, decide_eq_false_iff_not, ne_eq, Classical.not_not] at h); (try (with_reducible change True at h; clear h)))) | (refine opsD_guardF rfl rfl (fun h => ?_) (fun h => ?_) <;> first | (cases h; done) | (simp -implicitDefEqProofs only [h, go_sem, ↓reduceIte, reduceCtorEq, Nat.reduceLT, Nat.reduceEqDiff, Nat.reduceAdd, Nat.reduceLeDiff, D.known, D.cells, es_length]; (try simp only [decide_eq_true_eq, decide_eq_false_iff_not, ne_eq, Classical.not_not] at h); (try (with_reducible change True at h; clear h)))) | (refine opsD_guardS rfl rfl ?_; simp -implicitDefEqProofs only [go_sem, ↓reduceIte, reduceCtorEq, Nat.reduceLT, Nat.reduceEqDiff, Nat.reduceAdd, Nat.reduceLeDiff, D.known, D.cells, es_length]))
    | (with_reducible refine opsN_mark ?_; first | (refine opsN_guardT rfl rfl (fun h => ?_) (fun h => ?_) <;> first | (cases h; done) | (simp -implicitDefEqProofs only [h, go_sem, ↓reduceIte, reduceCtorEq, Nat.reduceLT, Nat.reduceEqDiff, Nat.reduceAdd, Nat.reduceLeDiff, D.known, D.cells, es_length]; (try simp only [decide_eq_true_eq, decide_eq_false_iff_not, ne_eq, Classical.not_not] at h); (try (with_reducible change True at h; clear h)))) | (refine opsN_guardF rfl rfl (fun h => ?_) (fun h => ?_) <;> first | (cases h; done) | (simp -implicitDefEqProofs only [h, go_sem, ↓reduceIte, reduceCtorEq, Nat.reduceLT, Nat.reduceEqDiff, Nat.reduceAdd, Nat.reduceLeDiff, D.known, D.cells, es_length]; (try simp only [decide_eq_true_eq, decide_eq_false_iff_not, ne_eq, Classical.not_not] at h); (try (with_reducible change True at h; clear h)))) | (refine opsN_guardS rfl rfl ?_; simp -implicitDefEqProofs only [go_sem, ↓reduceIte, reduceCtorEq, Nat.reduceLT, Nat.reduceEqDiff, Nat.reduceAdd, Nat.reduceLeDiff, D.known, D.cells, es_length]))
    | (with_reducible refine pickN_intro (fun h => ?_) (fun h => ?_) <;> first | (cases h; done) | (simp -implicitDefEqProofs only [h, go_sem, ↓reduceIte, reduceCtorEq, Nat.reduceLT, Nat.reduceEqDiff, Nat.reduceAdd, Nat.reduceLeDiff, D.known, D.cells, es_length]; (try simp only [decide_eq_true_eq, decide_eq_false_iff_not, ne_eq, Classical.not_not] at h); (try (with_reducible change True at h; clear h))))
    | (with_reducible refine Dw.split_intro (fun h => ?_) (fun h => ?_) <;> simp -implicitDefEqProofs only [h, go_sem, ↓reduceIte, reduceCtorEq, Nat.reduceLT, Nat.reduceEqDiff, Nat.reduceAdd, Nat.reduceLeDiff, D.known, D.cells, es_length] <;> (try simp only [decide_eq_true_eq, decide_eq_false_iff_not, ne_eq, Classical.not_not] at h); (try (with_reducible change True at h; clear h)))
    | (with_reducible refine fun _ => ?_; (try simp -implicitDefEqProofs only [go_sem, ↓reduceIte, reduceCtorEq, Nat.reduceLT, Nat.reduceEqDiff, Nat.reduceAdd, Nat.reduceLeDiff, D.known, D.cells, es_length]))
    | (with_reducible exact Dw.Le.refl _)
    | (simp -implicitDefEqProofs only [go_sem, ↓reduceIte, reduceCtorEq, Nat.reduceLT, Nat.reduceEqDiff, Nat.reduceAdd, Nat.reduceLeDiff, D.known, D.cells, es_length])
  rename_i r8 ri
  refine Wp.loop (fun n φ => ∃ seen : List Nat, seen.Nodup ∧ (∀ i ∈ seen, i < f.length) ∧ nd (pick f seen) ∧ n = f.length - seen.length ∧ φ = ⟨40, [(1, .ref 1005 b5 0), (2, .ref 1007 b7 0), (3, .rp [.str q.cls, .int .i64 q.ty.kind, .str q.ty.name, .int .i64 q.ty.var, .sl false 4 (Ty.cellsL q.ty.args)]), (5, .rp [.mapr 8 r8]), (15, .it 15 ri)],
      [(1005, .cells b5 [.rp [.mapr 9 r]]), (1007, .cells b7 [.str p.cls, .int .i64 p.ty.kind, .str p.ty.name, .int .i64 p.ty.var, .sl false 4 (Ty.cellsL p.ty.args)]), (9, .map r (es f)), (8, .map r8 (es (pick f seen))), (15, .mit ri 9 r f.length seen)]⟩)
    (Weak.sub (fr' := [(1, .ref 1005 b5 0), (2, .ref 1007 b7 0), (3, .rp [.str q.cls, .int .i64 q.ty.kind, .str q.ty.name, .int .i64 q.ty.var, .sl false 4 (Ty.cellsL q.ty.args)]), (5, .rp [.mapr 8 r8]), (15, .it 15 ri)])
      (st' := [(1005, .cells b5 [.rp [.mapr 9 r]]), (1007, .cells b7 [.str p.cls, .int .i64 p.ty.kind, .str p.ty.name, .int .i64 p.ty.var, .sl false 4 (Ty.cellsL p.ty.args)]), (9, .map r (es f)), (8, .map r8 (es (pick f []))), (15, .mit ri 9 r f.length [])]) (by (repeat' first | exact FrSub.nil | exact StSub.nil | (refine FrSub.cons rfl ?_ ?_) | (refine StSub.cons rfl ?_) | exact Dw.Le.refl _)) (by (repeat' first | exact FrSub.nil | exact StSub.nil | (refine FrSub.cons rfl ?_ ?_) | (refine StSub.cons rfl ?_) | exact Dw.Le.refl _))) ⟨[], by simp, by simp, by simp [pick, nd], rfl, rfl⟩ ?_
  rintro n φ ⟨seen, hsn, hsl, hpn, hm, rfl⟩
  repeat' first
    | (with_reducible refine Wp.gate ?_; first
      | (with_reducible refine Wp.seq fun K hK => ?_)
      | (with_reducible refine Wp.region ?_; simp -implicitDefEqProofs only [go_sem, ↓reduceIte, reduceCtorEq, Nat.reduceLT, Nat.reduceEqDiff, Nat.reduceAdd, Nat.reduceLeDiff, D.known, D.cells, es_length, Ty.cells_eq, TestPost, Objs, Pr.cells_eq])
      | (with_reducible refine Wp.region' ?_; first
        | (refine Wp.regionPure (by decide +kernel) mixed (by decide +kernel) (by decide +kernel) ?_; simp -implicitDefEqProofs only [go_sem, ↓reduceIte, reduceCtorEq, Nat.reduceLT, Nat.reduceEqDiff, Nat.reduceAdd, Nat.reduceLeDiff, D.known, D.cells, es_length, Ty.cells_eq, TestPost, Objs, Pr.cells_eq])
        | (refine Wp.regionTail' 1 (by decide +kernel) mixed (by decide +kernel) (by decide +kernel) ?_; simp -implicitDefEqProofs only [List.length_cons, List.length_nil, Nat.reduceAdd, Nat.reduceSub, go_sem, ↓reduceIte, reduceCtorEq, Nat.reduceLT, Nat.reduceEqDiff, Nat.reduceAdd, Nat.reduceLeDiff, D.known, D.cells, es_length, Ty.cells_eq, TestPost, Objs, Pr.cells_eq])
        | (refine Wp.regionTail' 2 (by decide +kernel) mixed (by decide +kernel) (by decide +kernel) ?_; simp -implicitDefEqProofs only [List.length_cons, List.length_nil, Nat.reduceAdd, Nat.reduceSub, go_sem, ↓reduceIte, reduceCtorEq, Nat.reduceLT, Nat.reduceEqDiff, Nat.reduceAdd, Nat.reduceLeDiff, D.known, D.cells, es_length, Ty.cells_eq, TestPost, Objs, Pr.cells_eq])
        | (refine Wp.regionTail' 3 (by decide +kernel) mixed (by decide +kernel) (by decide +kernel) ?_; simp -implicitDefEqProofs only [List.length_cons, List.length_nil, Nat.reduceAdd, Nat.reduceSub, go_sem, ↓reduceIte, reduceCtorEq, Nat.reduceLT, Nat.reduceEqDiff, Nat.reduceAdd, Nat.reduceLeDiff, D.known, D.cells, es_length, Ty.cells_eq, TestPost, Objs, Pr.cells_eq])
        | (refine Wp.regionTail' 4 (by decide +kernel) mixed (by decide +kernel) (by decide +kernel) ?_; simp -implicitDefEqProofs only [List.length_cons, List.length_nil, Nat.reduceAdd, Nat.reduceSub, go_sem, ↓reduceIte, reduceCtorEq, Nat.reduceLT, Nat.reduceEqDiff, Nat.reduceAdd, Nat.reduceLeDiff, D.known, D.cells, es_length, Ty.cells_eq, TestPost, Objs, Pr.cells_eq])
        | (refine Wp.regionTail' 5 (by decide +kernel) mixed (by decide +kernel) (by decide +kernel) ?_; simp -implicitDefEqProofs only [List.length_cons, List.length_nil, Nat.reduceAdd, Nat.reduceSub, go_sem, ↓reduceIte, reduceCtorEq, Nat.reduceLT, Nat.reduceEqDiff, Nat.reduceAdd, Nat.reduceLeDiff, D.known, D.cells, es_length, Ty.cells_eq, TestPost, Objs, Pr.cells_eq])
        | (refine Wp.regionTail' 6 (by decide +kernel) mixed (by decide +kernel) (by decide +kernel) ?_; simp -implicitDefEqProofs only [List.length_cons, List.length_nil, Nat.reduceAdd, Nat.reduceSub, go_sem, ↓reduceIte, reduceCtorEq, Nat.reduceLT, Nat.reduceEqDiff, Nat.reduceAdd, Nat.reduceLeDiff, D.known, D.cells, es_length, Ty.cells_eq, TestPost, Objs, Pr.cells_eq])
        | (refine Wp.regionAll mixed (by decide +kernel) (by decide +kernel) ?_; simp -implicitDefEqProofs only [go_sem, ↓reduceIte, reduceCtorEq, Nat.reduceLT, Nat.reduceEqDiff, Nat.reduceAdd, Nat.reduceLeDiff, D.known, D.cells, es_length, Ty.cells_eq, TestPost, Objs, Pr.cells_eq]))
      | (with_reducible refine Wp.cond' ?_; refine Wp.cond rfl (fun h => ?_) (fun h => ?_) <;> first | (cases h; done) | (simp only [decide_eq_true_eq, decide_eq_false_iff_not, Bool.not_eq_true', Bool.not_eq_false', ne_eq, Classical.not_not] at h) | skip)
      | (with_reducible refine Wp.block ?_)
      | (with_reducible refine Wp.scope ?_)
      | (with_reducible refine Wp.label ?_; (try simp only [Dw.thenS_normal, Dw.blockS_normal, Dw.noGotoS_normal]))
      | (with_reducible refine Wp.ret ?_; (try simp only [Dw.thenS_ret, Dw.blockS_ret, Dw.noGotoS_ret]); first | (with_reducible refine ret_pure ?_; simp -implicitDefEqProofs only [retD, resAll, oneOrTup, go_sem, ↓reduceIte, reduceCtorEq, Nat.reduceLT, Nat.reduceEqDiff, Nat.reduceAdd, Nat.reduceLeDiff, D.known, D.cells, es_length, Ty.cells_eq, TestPost, Objs, Pr.cells_eq]) | (with_reducible refine ret_post [1005, 1007, 9] ?_; simp -implicitDefEqProofs only [retD, resAll, oneOrTup, go_sem, ↓reduceIte, reduceCtorEq, Nat.reduceLT, Nat.reduceEqDiff, Nat.reduceAdd, Nat.reduceLeDiff, D.known, D.cells, es_length, Ty.cells_eq, TestPost, Objs, Pr.cells_eq]) | skip)
      | (with_reducible refine Wp.skip ?_; (try simp only [Dw.thenS_normal, Dw.blockS_normal, Dw.noGotoS_normal]))
      | (with_reducible refine Wp.exit ?_; simp only [Dw.thenS_exit, Dw.blockS_exit, Dw.noGotoS_exit, Dw.noGotoS_normal, if_true, Dw.thenS_normal, Dw.blockS_normal, Nat.reduceEqDiff, if_false, ↓reduceIte]))
    | (with_reducible refine And.intro ?_ ?_)
    | (with_reducible refine hK _ ?_; clear hK K)
    | (clear hK K; with_reducible refine hK _ ?_; clear hK K)
    | (clear hK K; clear hK K; with_reducible refine hK _ ?_; clear hK K)
    | ((refine fun i p hi hs => ?_; obtain ⟨k, t, hfi, rfl⟩ := es_get hi; simp -implicitDefEqProofs only [go_sem, ↓reduceIte, reduceCtorEq, Nat.reduceLT, Nat.reduceEqDiff, Nat.reduceAdd, Nat.reduceLeDiff]))
    | ((refine entryM_last (by assumption) ?_; simp -implicitDefEqProofs only [Ty.cells_eq, go_sem, ↓reduceIte, reduceCtorEq, Nat.reduceLT, Nat.reduceEqDiff, Nat.reduceAdd, Nat.reduceLeDiff]))
    | ((with_reducible refine stepD_callE (f := 11) ?_; simp -implicitDefEqProofs only [go_sem, ↓reduceIte, reduceCtorEq, Nat.reduceLT, Nat.reduceEqDiff, Nat.reduceAdd, Nat.reduceLeDiff]))
    | ((refine call11k p.ty q.ty (pick f seen) _ 8 hp hq (pick_ok hf seen) (by simp [Dw.okDst]) (by simp) rfl ?_; simp -implicitDefEqProofs only [go_sem, ↓reduceIte, reduceCtorEq, Nat.reduceLT, Nat.reduceEqDiff, Nat.reduceAdd, Nat.reduceLeDiff]))
    | (with_reducible refine opsD_mark ?_; first | (refine opsD_guardT rfl rfl (fun h => ?_) (fun h => ?_) <;> first | (cases h; done) | (simp -implicitDefEqProofs only [h, go_sem, ↓reduceIte, reduceCtorEq, Nat.reduceLT, Nat.reduceEqDiff, Nat.reduceAdd, Nat.reduceLeDiff, D.known, D.cells, es_length, Ty.cells_eq, TestPost, Objs, Pr.cells_eq]; (try simp only [decide_eq_true_eq, decide_eq_false_iff_not, ne_eq, Classical.not_not] at h); (try (with_reducible change True at h; clear h)))) | (refine opsD_guardF rfl rfl (fun h => ?_) (fun h => ?_) <;> first | (cases h; done) | (simp -implicitDefEqProofs only [h, go_sem, ↓reduceIte, reduceCtorEq, Nat.reduceLT, Nat.reduceEqDiff, Nat.reduceAdd, Nat.reduceLeDiff, D.known, D.cells, es_length, Ty.cells_eq, TestPost, Objs, Pr.cells_eq]; (try simp only [decide_eq_true_eq, decide_eq_false_iff_not, ne_eq, Classical.not_not] at h); (try (with_reducible change True at h; clear h)))) | (refine opsD_guardS rfl rfl ?_; simp -implicitDefEqProofs only [go_sem, ↓reduceIte, reduceCtorEq, Nat.reduceLT, Nat.reduceEqDiff, Nat.reduceAdd, Nat.reduceLeDiff, D.known, D.cells, es_length, Ty.cells_eq, TestPost, Objs, Pr.cells_eq]))
    | (with_reducible refine opsN_mark ?_; first | (refine opsN_guardT rfl rfl (fun h => ?_) (fun h => ?_) <;> first | (cases h; done) | (simp -implicitDefEqProofs only [h, go_sem, ↓reduceIte, reduceCtorEq, Nat.reduceLT, Nat.reduceEqDiff, Nat.reduceAdd, Nat.reduceLeDiff, D.known, D.cells, es_length, Ty.cells_eq, TestPost, Objs, Pr.cells_eq]; (try simp only [decide_eq_true_eq, decide_eq_false_iff_not, ne_eq, Classical.not_not] at h); (try (with_reducible change True at h; clear h)))) | (refine opsN_guardF rfl rfl (fun h => ?_) (fun h => ?_) <;> first | (cases h; done) | (simp -implicitDefEqProofs only [h, go_sem, ↓reduceIte, reduceCtorEq, Nat.reduceLT, Nat.reduceEqDiff, Nat.reduceAdd, Nat.reduceLeDiff, D.known, D.cells, es_length, Ty.cells_eq, TestPost, Objs, Pr.cells_eq]; (try simp only [decide_eq_true_eq, decide_eq_false_iff_not, ne_eq, Classical.not_not] at h); (try (with_reducible change True at h; clear h)))) | (refine opsN_guardS rfl rfl ?_; simp -implicitDefEqProofs only [go_sem, ↓reduceIte, reduceCtorEq, Nat.reduceLT, Nat.reduceEqDiff, Nat.reduceAdd, Nat.reduceLeDiff, D.known, D.cells, es_length, Ty.cells_eq, TestPost, Objs, Pr.cells_eq]))
    | (with_reducible refine pickN_intro (fun h => ?_) (fun h => ?_) <;> first | (cases h; done) | (simp -implicitDefEqProofs only [h, go_sem, ↓reduceIte, reduceCtorEq, Nat.reduceLT, Nat.reduceEqDiff, Nat.reduceAdd, Nat.reduceLeDiff, D.known, D.cells, es_length, Ty.cells_eq, TestPost, Objs, Pr.cells_eq]; (try simp only [decide_eq_true_eq, decide_eq_false_iff_not, ne_eq, Classical.not_not] at h); (try (with_reducible change True at h; clear h))))
    | (with_reducible refine Dw.split_intro (fun h => ?_) (fun h => ?_) <;> simp -implicitDefEqProofs only [h, go_sem, ↓reduceIte, reduceCtorEq, Nat.reduceLT, Nat.reduceEqDiff, Nat.reduceAdd, Nat.reduceLeDiff, D.known, D.cells, es_length, Ty.cells_eq, TestPost, Objs, Pr.cells_eq] <;> (try simp only [decide_eq_true_eq, decide_eq_false_iff_not, ne_eq, Classical.not_not] at h); (try (with_reducible change True at h; clear h)))
    | (with_reducible refine fun _ => ?_; (try simp -implicitDefEqProofs only [go_sem, ↓reduceIte, reduceCtorEq, Nat.reduceLT, Nat.reduceEqDiff, Nat.reduceAdd, Nat.reduceLeDiff, D.known, D.cells, es_length, Ty.cells_eq, TestPost, Objs, Pr.cells_eq]))
    | (with_reducible exact Dw.Le.refl _)
    | (simp -implicitDefEqProofs only [go_sem, ↓reduceIte, reduceCtorEq, Nat.reduceLT, Nat.reduceEqDiff, Nat.reduceAdd, Nat.reduceLeDiff, D.known, D.cells, es_length, Ty.cells_eq, TestPost, Objs, Pr.cells_eq])
  · (have hnone := pick_none hn hfi hs
     refine withO_of (unlook_new hnone) ?_
     try simp -implicitDefEqProofs only [go_sem, ↓reduceIte, reduceCtorEq, Nat.reduceLT, Nat.reduceEqDiff, Nat.reduceAdd, Nat.reduceLeDiff]
     have hlt : i < f.length := (List.getElem?_eq_some_iff.1 hfi).1
     have hsn' : (seen ++ [i]).Nodup := by (rw [List.nodup_append]; exact ⟨hsn, by simp, fun a ha b hb => by (simp at hb; subst hb; rintro rfl; exact hs ha)⟩)
     have hsl' : ∀ j ∈ seen ++ [i], j < f.length := fun j hj => by (rcases List.mem_append.1 hj with hj | hj; exact hsl j hj; simp at hj; omega)
     have hlen := seen_le f.length (seen ++ [i]) hsn' hsl'
     rw [← pick_snoc hfi]
     refine ⟨f.length - (seen ++ [i]).length, ⟨40, [(1, .ref 1005 b5 0), (2, .ref 1007 b7 0), (3, .rp [.str q.cls, .int .i64 q.ty.kind, .str q.ty.name, .int .i64 q.ty.var, .sl false 4 (Ty.cellsL q.ty.args)]), (5, .rp [.mapr 8 r8]), (15, .it 15 ri)],
      [(1005, .cells b5 [.rp [.mapr 9 r]]), (1007, .cells b7 [.str p.cls, .int .i64 p.ty.kind, .str p.ty.name, .int .i64 p.ty.var, .sl false 4 (Ty.cellsL p.ty.args)]), (9, .map r (es f)), (8, .map r8 (es (pick f (seen ++ [i])))), (15, .mit ri 9 r f.length (seen ++ [i]))]⟩, ?_, Weak.sub ?_ ?_, ⟨seen ++ [i], hsn', hsl', ?_, rfl, rfl⟩⟩
     focus (simp only [List.length_append, List.length_cons, List.length_nil] at hlen ⊢; omega)
     focus ((repeat' first | exact FrSub.nil | exact StSub.nil | (refine FrSub.cons rfl ?_ ?_) | (refine StSub.cons rfl ?_) | exact Dw.Le.refl _); done)
     focus ((repeat' first | exact FrSub.nil | exact StSub.nil | (refine FrSub.cons rfl ?_ ?_) | (refine StSub.cons rfl ?_) | exact Dw.Le.refl _); done)
     focus (rw [pick_snoc hfi]; exact nd_append hpn hnone))
  · (rename_i hall _
     rw [fitP, decide_eq_true h, Bool.true_and, (inst_congr p.ty q.ty _ f (pick_all hn hpn hall)).1])
  · (rw [fitP, decide_eq_false h, Bool.false_and])
end Go.Proofs.YtjbajnkbiohoeaaDoor
