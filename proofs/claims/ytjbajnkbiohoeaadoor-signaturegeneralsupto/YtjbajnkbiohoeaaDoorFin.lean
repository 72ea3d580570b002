/-
  The second form's card of SignatureGenerals is proved: General reports what the reference reports for valid schemes, where what is read is of bulk at most 1048576.
  Conditions: those of the given row and card alone.
-/
import Derived.Test.YtjbajnkbiohoeaaDoorCards
import Derived.Test.YtjbajnkbiohoeaaDoorTie
import Derived.Test.YtjbajnkbiohoeaaDoorMr
import Derived.Test.YtjbajnkbiohoeaaDoorW3
import Derived.WalkKit
import Derived.ProofKit
import Derived.OpenShut
import Derived.Deep.DeepHandedRow
import Derived.Lib.LaidTab
namespace Go.Proofs.YtjbajnkbiohoeaaDoor.fin
open Go Go.Dw Go.ChangeShapes Go.WideShapes Go.ChangeAt Go.RowKit

theorem own : ownKnob Tryd.prog.godebug = none := by kernel_rfl
theorem laidOut : laidOutB Tryd.prog = true := by kernel_rfl
theorem gTab : Tryd.prog.globalNamed "provenance/signature.arity" = some 0 := by kernel_rfl
theorem gTabType : (Tryd.prog.globals[0]?).map (·.type) = some 51 := by kernel_rfl
theorem cells51 : Tryd.prog.cellsOf 51 = 6 := by kernel_rfl
theorem cells3 : Tryd.prog.cellsOf 3 = 1 := by kernel_rfl

theorem table {W : World} (h : laidMetH Tryd.prog Rows.signatureGeneralsUptoRow.laid W) : Lib.TabIs Tryd.prog W "provenance/signature.arity" .i64 [0, -1, 3, 1, 0, 2] :=
  Lib.tabIs_of_head (rest := []) gTab gTabType Tryd.underlying51 Tryd.underlying3 cells3 cells51 h

theorem mx_non (b : Nat) : ¬ Mx Non [] b := by
  rintro (h | ⟨g, o, h, _⟩)
  · exact h
  · simp [Dw.look] at h
theorem glob {W : World} (h : laidMetH Tryd.prog Rows.signatureGeneralsUptoRow.laid W) : Glob GA W (Mx Non []) := by
  intro g d hg
  simp only [GA, Dw.look] at hg
  split at hg
  · rename_i h0
    cases hg
    subst h0
    have hc : ∀ i, i < 6 → W.cell? ⟨0, i, none⟩ = some (.int .i64 ([0, -1, 3, 1, 0, 2].getD i 0)) := fun i hi => (table h).cell gTab i hi
    refine R.rp_mk ?_ (mx_non _) ⟨[.int .i64 0, .int .i64 (-1), .int .i64 3, .int .i64 1, .int .i64 0, .int .i64 2], .cons (.int _ _) (.cons (.int _ _) (.cons (.int _ _) (.cons (.int _ _) (.cons (.int _ _) (.cons (.int _ _) .nil))))), fun j v hv => ?_⟩
    · have h0 := hc 0 (by decide)
      rcases Nat.lt_or_ge 0 W.heap.size with hlt | hge
      · exact hlt
      · have hn : W.heap[0]? = none := Array.getElem?_eq_none hge
        simp [World.cell?, hn] at h0
    · rw [add_lit, Nat.zero_add]
      have hj : j < 6 := (List.getElem?_eq_some_iff.1 hv).1
      rw [hc j hj]
      have : j = 0 ∨ j = 1 ∨ j = 2 ∨ j = 3 ∨ j = 4 ∨ j = 5 := by omega
      rcases this with rfl | rfl | rfl | rfl | rfl | rfl <;> (simp at hv; rw [← hv]; rfl)
  · cases hg

/-- An argument of the scheme's type, as deep data. -/
theorem argument {H : Type} {enc : TypeId × Value → H} {W : World} {v : Value} {d : DataW H} {ps : List MemPlace} (h : DataW.Trod enc Tryd.prog W 0 (fun _ => true) true 27 v d ps) (hb : Rows.uptoBulk d ≤ 1000000000) :
    ∃ s : Sc, R W (Mx Non []) v (.agg s.cells) ∧ s.ok := by
  obtain ⟨fuel, hf⟩ := h
  obtain ⟨s, h1, h2⟩ := read_sc fuel _ _ hf hb
  refine ⟨s, ?_, h2⟩
  have hl := h1.1
  rw [Sc.cells_eq] at hl
  have hv : ∃ cs, v = .agg cs := by
    cases v <;> first | exact ⟨_, rfl⟩ | (simp [Value.cells] at hl)
  obtain ⟨cs, rfl⟩ := hv
  exact R.agg_iff.2 ⟨h1.1, fun i u e hu he => (h1.2 i u e hu he).less fun b hb => absurd hb (mx_non b)⟩

section
variable {H : Type} {enc : TypeId × Value → H} {P : Program}
/-- The row's last step where only what is new has turned. -/
theorem post_of_below {f : Func} {s : ChangeSpec} {apart fresh handsOn again : Bool} {W W' : World} {args : Array Value} {v : Value} {ds gs : List (DataW H)} {before pa pv : List MemPlace}
    (hW : DataW.Whole enc P f.params.toList s.vars apart W args.toList ds gs before)
    (hres : ∀ (b : Nat) (sp : Nat → Bool) (hd : Bool), DataW.TrodAll enc P W' b sp hd f.resultTypes.toList (v.resultList f.resultTypes.size) (s.fn H (ds ++ gs)).results [])
    (hargs : ∀ sp : Nat → Bool, (∀ p ∈ before, sp p.block = true) → DataW.TrodAll enc P W' 0 sp true f.params.toList args.toList (s.fn H (ds ++ gs)).args pa)
    (hvars : ∀ sp : Nat → Bool, (∀ p ∈ before, sp p.block = true) → DataW.TrodVars enc P W' sp s.vars (s.fn H (ds ++ gs)).vars pv)
    (hps : before = pa ++ pv) (hb : Below W.heap.size W W')
    (hok : ∀ (j : Nat) (t : TypeId) (r : Value), f.resultTypes[j]? = some t → (v.resultList f.resultTypes.size)[j]? = some r → Value.okWide P W' .any 0 t r) :
    s.post enc P f apart fresh handsOn again W args v W' := by
  have hlt : ∀ p ∈ before, p.block < W.heap.size := fun p hp => hW.lt p hp
  have hold : ∀ p ∈ before, (fun b => decide (b < W.heap.size)) p.block = true := fun p hp => by simpa using hlt p hp
  refine ⟨ds, gs, before, [], pa, pv, hW, hres _ _ _, hargs _ hold, hvars _ hold, World.keptBut_mono (fun p hp => ⟨hp, ?_⟩) (hb.frame (· ∈ before)), fun _ => ?_⟩
  · rw [hps, List.mem_append] at hp
    exact Or.inr hp
  · obtain ⟨_, _, _, _, _, hz, hn⟩ := hW
    refine ⟨hok, _, _, ([] ++ pa) ++ pv, ⟨[] ++ pa, pv, trodAll_append (hargs _ (fun _ _ => rfl)) (hres _ _ _), hvars _ (fun _ _ => rfl), rfl, ?_, ?_⟩, ?_⟩
    · intro b off hp
      have hin : MemPlace.cell b off ∈ before := by rw [hps]; simpa using hp
      rw [hb.frozen (hlt _ hin)]
      exact hz b off hin
    · intro ha
      have := hn ha
      rw [hps] at this
      simpa using this
    · intro p hp _
      rw [hps]
      simpa using hp
end

theorem contract (H : Type) (enc : TypeId × Value → H) (W : World) (args : Array Value) (ds gs : List (DataW H)) (before : List MemPlace)
    (hW : DataW.Whole enc Tryd.prog Tryd.f3.params.toList Rows.signatureGeneralsSpec.vars false W args.toList ds gs before) (hk : Rows.uptoSmall H (ds ++ gs) = true) (hL : laidMetH Tryd.prog Rows.signatureGeneralsUptoRow.laid W) :
    Calls Tryd.prog 3 args W fun e W' => ∃ v, e = .returned v ∧ Rows.signatureGeneralsSpec.post enc Tryd.prog Tryd.f3 false true false false W args v W' := by
  have hW' := hW
  obtain ⟨p, q, hA0, hV, rfl, hfz, hnd⟩ := hW
  have hA : DataW.TrodAll enc Tryd.prog W 0 (fun _ => true) true Tryd.f3.params.toList args.toList ds p := hA0
  rw [Tryd.params3] at hA
  obtain ⟨v0, vs0, d0, ds0, p0, q0, hargs, rfl, rfl, h0, r0⟩ := trodAll_cons hA
  obtain ⟨v1, vs1, d1, ds1, p1, q1, hargs1, rfl, rfl, h1, r1⟩ := trodAll_cons r0
  obtain ⟨rfl, rfl, rfl⟩ := trodAll_nil r1
  obtain ⟨rfl, rfl⟩ := trodVars_none hV
  subst hargs1
  obtain rfl : args = #[v0, v1] := by cases args; simp_all
  have hbulk : Rows.uptoBulk d0 ≤ 1000000000 ∧ Rows.uptoBulk d1 ≤ 1000000000 := by
    have h := of_decide_eq_true hk
    simp only [List.cons_append, List.nil_append, List.append_nil, Rows.uptoBulkAll] at h
    omega
  obtain ⟨s0, hR0, hok0⟩ := argument h0 hbulk.1
  obtain ⟨s1, hR1, hok1⟩ := argument h1 hbulk.2
  have hlt : ∀ x ∈ (p0 ++ (p1 ++ [])) ++ [], x.block < W.heap.size := fun x hx => hW'.lt x hx
  have hst : Stor W Non [] := ⟨fun g o h => by simp [Dw.look] at h, fun g g' o o' b h => by simp [Dw.look] at h, fun b hb => hb.elim, fun g o b h => by simp [Dw.look] at h⟩
  refine (call3 hok0 hok1 Non #[v0, v1] W hst (glob hL) (.cons hR0 (.cons hR1 .nil))).mono ?_
  rintro e W' ⟨v, d, S', rfl, ⟨rfl, rfl⟩, hext, _, _, hr⟩
  cases hr
  have hbelow : Below W.heap.size W W' := (hext.mono (B' := Non) fun i _ hi => mx_non i hi).below
  refine ⟨_, rfl, post_of_below (pa := p0 ++ (p1 ++ [])) (pv := []) hW' (fun _ _ _ => trodAll_cons_mk (shut_bool Tryd.underlying4 _) trodAll_mk0) (fun sp hsp => ?_) (fun _ _ => rfl) rfl hbelow (ok_one (by kernel_rfl) rfl (okWide_bool_mk Tryd.underlying4 _))⟩
  rw [Tryd.params3]
  exact trodAll_cons_mk (WideElems.Trod_stays laidOut (by kernel_rfl) (of_decide_eq_true (by kernel_rfl)) h0 (fun x hx => hbelow.same (hlt x (by simp [hx]))) (fun x hx => hsp x (by simp [hx])))
    (trodAll_cons_mk (WideElems.Trod_stays laidOut (by kernel_rfl) (of_decide_eq_true (by kernel_rfl)) h1 (fun x hx => hbelow.same (hlt x (by simp [hx]))) (fun x hx => hsp x (by simp [hx]))) trodAll_mk0)

/-- A scheme of nothing. -/
def sc0 : Value := .agg #[.int .i64 0, .slice none 0 0, .int .i64 0, .string ⟨#[]⟩, .int .i64 0, .slice none 0 0]
noncomputable def laidWorld (os : Os) : World :=
  { World.holding Tryd.prog os ⟨#[], #[], []⟩ with heap := (World.holding Tryd.prog os ⟨#[], #[], []⟩).heap.modify 0 fun
      | .cells _ t frozen => .cells #[.int .i64 0, .int .i64 (-1), .int .i64 3, .int .i64 1, .int .i64 0, .int .i64 2] t frozen
      | o => o }
theorem laid_met (os : Os) : laidMet Tryd.prog Rows.signatureGeneralsUptoRow.laid ((laidWorld os).forCall (fun _ _ => 0) ⟨#[], #[sc0, sc0], []⟩).memory :=
  laidMet_of_run' 8 (by kernel_rfl) (by kernel_rfl)
def dat0 {H : Type} : DataW H := .agg [.lit (.int .i64 0), .nil, .agg [.lit (.int .i64 0), .lit (.string []), .lit (.int .i64 0), .nil]]
theorem reads (os : Os) {H : Type} (enc : TypeId × Value → H) : ∃ places, DataW.whole enc Tryd.prog ((laidWorld os).forCall (fun _ _ => 0) ⟨#[], #[sc0, sc0], []⟩).memory Tryd.f3.params.toList Rows.signatureGeneralsSpec.vars false #[sc0, sc0].toList 8 = some ([dat0, dat0], [], places) :=
  ⟨[], by kernel_rfl⟩

set_option maxRecDepth 100000 in
theorem liftedUpto (os : Os) (started : os.Started) (H : Type) (enc : TypeId × Value → H) (F : Stop.Interp) :
    ReturnsInHanded {} Tryd.checked os 3 .any ((Rows.OpenSpec.upto Rows.signatureGeneralsSpec).preRow enc Tryd.prog Tryd.f3 Rows.signatureGeneralsUptoRow.domain false Rows.signatureGeneralsUptoRow.laid) (((Rows.OpenSpec.upto Rows.signatureGeneralsSpec).at F).post enc Tryd.prog Tryd.f3 false true false false) := by
  obtain ⟨places, hx⟩ := reads os enc
  refine returnsInHanded_of_row (C := Tryd.checked) (s := Rows.OpenSpec.upto Rows.signatureGeneralsSpec) own started (by kernel_rfl) Tryd.func3
    (witness_row_at (enc := enc) (C := Tryd.checked) false (laidWorld os) #[sc0, sc0] rfl (by kernel_rfl) (by kernel_rfl) (by kernel_rfl)
      (OpenSpec.preRow_of_cond 8 hx (by kernel_rfl) (fun k hk => by cases hk; kernel_rfl) (by kernel_rfl) (laid_met os))) ?_
  intro W base args ds gs before hval hW _ hcond _ hL _ _
  exact contract H enc W args ds gs before hW (hcond _ rfl) hL

theorem saidUpto : Rows.SignatureGeneralsUptoSaid :=
  OpenClaim.holds_of_cond 3 Tryd.f3 rfl rfl rfl rfl rfl rfl rfl ⟨rfl, rfl, rfl, rfl, rfl⟩ rfl rfl rfl rfl rfl (by kernel_rfl) Tryd.func3 (by kernel_rfl)
    (of_decide_eq_true (by kernel_rfl)) (by unfold Func.isWrapper; first | (rw [if_pos (by decide +kernel)]; kernel_rfl) | (rw [if_neg (by decide +kernel)]; exact ⟨rfl, rfl⟩))
    (fun os started H enc _ F => by rw [OpenClaim.pre_eq_preRow]; exact liftedUpto os started H enc F)

theorem plain (f : FuncId) (fn : Func) (hf : Tryd.pinned.checked.prog.funcNamed "provenance/provenancelaw2.SignatureGenerals" = some f) (hfn : Tryd.pinned.checked.prog.funcs[f]? = some fn) :
    false = Tryd.pinned.checked.prog.looks [] ∧ ∀ (j : Nat) t, fn.params[j]? = some t → Tryd.pinned.checked.prog.wantsStandIn t = false := by
  obtain rfl : f = 3 := Option.some.inj ((show Tryd.prog.funcNamed "provenance/provenancelaw2.SignatureGenerals" = some 3 by kernel_rfl).symm.trans hf) |>.symm
  obtain rfl : fn = Tryd.f3 := (Option.some.inj (Tryd.func3.symm.trans hfn)).symm
  refine ⟨by kernel_rfl, fun j t ht => ?_⟩
  rw [Tryd.params3] at ht
  obtain rfl : t = 27 := by simpa using Array.mem_of_getElem? ht
  exact (show Tryd.prog.wantsStandIn 27 = false by kernel_rfl)
end Go.Proofs.YtjbajnkbiohoeaaDoor.fin
namespace Go.Proofs.YtjbajnkbiohoeaaDoor
open Go fin
theorem signature_generals : Rows.SignatureGeneralsUptoCardSaid :=
  Claim7.holds_tied_plain_at .later [] _ _ _ _ saidUpto (fun _ h => by cases h) (by kernel_rfl) (fun _ h => by cases h) signatureGeneralsUpto_row_tie rfl ⟨rfl, rfl⟩ (by kernel_rfl) rfl plain (by kernel_rfl)
end Go.Proofs.YtjbajnkbiohoeaaDoor
