/-
  Facts on the way to the statement of this claim: contracts of the program's functions and what they reckon. No condition beyond those that each theorem bears.
-/
import Derived.Test.YtjbajnkbiohoeaaDoorDw7
import Derived.OpenShut
import Derived.Test.YtjbajnkbiohoeaaDoorM2
import Derived.Test.YtjbajnkbiohoeaaDoorRows
namespace Go.Proofs.YtjbajnkbiohoeaaDoor
open Go Go.Dw
theorem c3 : Tryd.prog.cellsOf 3 = 1 := by kernel_rfl
theorem c9 : Tryd.prog.cellsOf 9 = 1 := by kernel_rfl
theorem c22 : Tryd.prog.cellsOf 22 = 1 := by kernel_rfl
theorem c23 : Tryd.prog.cellsOf 23 = 1 := by kernel_rfl
theorem c25 : Tryd.prog.cellsOf 25 = 4 := by kernel_rfl
theorem c27 : Tryd.prog.cellsOf 27 = 6 := by kernel_rfl
theorem c37 : Tryd.prog.cellsOf 37 = 5 := by kernel_rfl
section
variable {H : Type} {enc : TypeId × Value → H} {w : World} {base : Nat} {spare : Nat → Bool} {held : Bool}
theorem one_le (d : DataW H) : 1 ≤ Rows.uptoBulk d := by
  cases d with
  | lit l => cases l <;> simp [Rows.uptoBulk]
  | _ => simp [Rows.uptoBulk]
theorem bulk_int (k : IntKind) (n : Int) : Rows.uptoBulk (DataW.lit (H := H) (.int k n)) = 1 := by simp [Rows.uptoBulk]
theorem bulk_str (l : List UInt8) : Rows.uptoBulk (DataW.lit (H := H) (.string l)) = l.length + 1 := by simp [Rows.uptoBulk]
theorem len_le : ∀ l : List (DataW H), l.length ≤ Rows.uptoBulkAll l
  | [] => by simp [Rows.uptoBulkAll]
  | x :: r => by have := one_le x; have := len_le r; simp only [Rows.uptoBulkAll, List.length_cons]; omega
def GoodT (t : Ty) (d : DataW H) : Prop := t.wt + 1 ≤ 200 * Rows.uptoBulk d ∧ (Rows.uptoBulk d ≤ 1000000000 → t.ok)
theorem good_list : ∀ (zs : List Ty) (els : List (DataW H)), zs.length = els.length → (∀ (i : Nat) (a : Ty) (d : DataW H), zs[i]? = some a → els[i]? = some d → GoodT a d) →
    Ty.wtL zs ≤ 200 * Rows.uptoBulkAll els ∧ (Rows.uptoBulkAll els ≤ 1000000000 → Ty.okL zs)
  | [], [], _, _ => ⟨by simp [Ty.wtL], fun _ => by simp [Ty.okL]⟩
  | a :: zs, d :: els, hl, h => by
    obtain ⟨h1, h2⟩ := h 0 a d rfl rfl
    obtain ⟨h3, h4⟩ := good_list zs els (by simpa using hl) (fun i a d ha hd => h (i + 1) a d (by simpa using ha) (by simpa using hd))
    have := one_le d
    simp only [Ty.wtL, Rows.uptoBulkAll, Ty.okL]
    exact ⟨by omega, fun hb => ⟨h2 (by omega), h4 (by omega)⟩⟩
  | [], _ :: _, hl, _ => by simp at hl
  | _ :: _, [], hl, _ => by simp at hl
theorem inI_wf {n : Int} (h : (Lit.int .i64 n).wf = true) : inI n := by
  have := Go.bounds_i64 h
  unfold inI; omega
theorem four {α : Type} {l : List α} (h : l.length = 4) : ∃ a b c d, l = [a, b, c, d] := by
  match l, h with
  | [a, b, c, d], _ => exact ⟨a, b, c, d, rfl⟩
theorem two {α : Type} {l : List α} (h : l.length = 2) : ∃ a b, l = [a, b] := by
  match l, h with
  | [a, b], _ => exact ⟨a, b, rfl⟩
theorem three {α : Type} {l : List α} (h : l.length = 3) : ∃ a b c, l = [a, b, c] := by
  match l, h with
  | [a, b, c], _ => exact ⟨a, b, c, rfl⟩
theorem read_ty : ∀ (fuel : Nat) (cs : List Value) (x : DataW H × List MemPlace), DataW.trod enc Tryd.prog w base spare held fuel 25 cs = some x →
    ∃ t : Ty, Rl w Non cs t.cells ∧ t.cells.length = 4 ∧ GoodT t x.1 := by
  intro fuel
  induction fuel with
  | zero => intro cs x h; simp [DataW.trod] at h
  | succ fuel ih =>
    intro cs x h
    obtain ⟨xs, m, hm, hx, hcs, hxl, hf⟩ := read_struct Tryd.underlying25 h
    rw [c25] at hcs
    obtain ⟨v0, v1, v2, v3, rfl⟩ := four hcs
    obtain ⟨y0, y1, y2, y3, rfl⟩ := four (show xs.length = 4 by rw [hxl]; rfl)
    obtain rfl : fuel = m := by omega
    obtain ⟨_, e0, t0⟩ := hf 0 0 3 1 fld25_0 c3
    obtain ⟨_, e1, t1⟩ := hf 1 1 9 1 fld25_1 c9
    obtain ⟨_, e2, t2⟩ := hf 2 2 3 1 fld25_2 c3
    obtain ⟨_, e3, t3⟩ := hf 3 3 23 1 fld25_3 c23
    cases e0; cases e1; cases e2; cases e3
    obtain ⟨k, hk, hk1, hk2⟩ := read_int Tryd.underlying3 t0
    obtain ⟨s, hs, hs1, _⟩ := read_str Tryd.underlying9 t1
    obtain ⟨v, hv, hv1, hv2⟩ := read_int Tryd.underlying3 t2
    obtain ⟨zs, ha, ha2⟩ := read_slice (Ty.cells) GoodT Tryd.underlying23 c25 (by decide) (fun m' cs' x' hm' h' => by
      have : DataW.trod enc Tryd.prog w base spare held fuel 25 cs' = some x' := DataW.trod_le (by omega) h'
      exact ih cs' x' this) t3
    simp only [List.drop_zero, List.drop_succ_cons, List.take_succ_cons, List.take_zero, List.cons.injEq, and_true] at hk hs hv ha
    subst hk hs hv
    refine ⟨.mk k s.data.toList v zs, ?_, ?_, ?_⟩
    · rw [Ty.cells_eq, Ty.cellsL_eq]
      exact .cons (.int _ _) (.cons (.str _ _ rfl) (.cons (.int _ _) ha))
    · rw [Ty.cells_eq]; rfl
    · rw [hx]
      simp only [List.map_cons, List.map_nil, hk1, hs1, hv1, GoodT, Rows.uptoBulk, Rows.uptoBulkAll, Ty.wt, Ty.ok]
      rcases ha2 with ⟨hn, rfl⟩ | ⟨els, rest, hn, hl, hg⟩
      · rw [hn]
        simp only [Rows.uptoBulk, Ty.wtL, Ty.okL]
        exact ⟨by omega, fun hb => ⟨inI_wf hk2, inI_wf hv2, by omega, trivial⟩⟩
      · rw [hn]
        obtain ⟨g1, g2⟩ := good_list zs els hl hg
        simp only [Rows.uptoBulk]
        exact ⟨by omega, fun hb => ⟨inI_wf hk2, inI_wf hv2, by omega, g2 (by omega)⟩⟩
def GoodP (p : Pr) (d : DataW H) : Prop := p.ty.wt + 1 ≤ 200 * Rows.uptoBulk d ∧ (Rows.uptoBulk d ≤ 1000000000 → p.ok)
theorem read_pr (fuel : Nat) (cs : List Value) (x : DataW H × List MemPlace) (h : DataW.trod enc Tryd.prog w base spare held fuel 37 cs = some x) :
    ∃ p : Pr, Rl w Non cs p.cells ∧ p.cells.length = 5 ∧ GoodP p x.1 := by
  obtain ⟨xs, m, hm, hx, hcs, hxl, hf⟩ := read_struct Tryd.underlying37 h
  rw [c37] at hcs
  obtain ⟨y0, y1, rfl⟩ := two (show xs.length = 2 by rw [hxl]; rfl)
  obtain ⟨_, e0, t0⟩ := hf 0 0 9 1 fld37_0 c9
  obtain ⟨_, e1, t1⟩ := hf 1 1 25 4 fld37_1 c25
  cases e0; cases e1
  obtain ⟨s, hs, hs1, _⟩ := read_str Tryd.underlying9 t0
  obtain ⟨t, ht, ht1, ht2, ht3⟩ := read_ty _ _ _ t1
  have hsplit : cs = .string s :: (cs.drop 1).take 4 := by
    match cs, hcs with
    | [v0, v1, v2, v3, v4], _ => simp at hs; simp [hs]
  refine ⟨⟨s.data.toList, t⟩, ?_, ?_, ?_⟩
  · rw [hsplit]; exact .cons (.str _ _ rfl) ht
  · simp [Pr.cells, ht1]
  · rw [hx]
    simp only [List.map_cons, List.map_nil, hs1, GoodP, Rows.uptoBulk, Rows.uptoBulkAll, Pr.ok]
    exact ⟨by omega, fun hb => ⟨ht3 (by omega), by omega, by omega⟩⟩
theorem good_preds : ∀ (zs : List Pr) (els : List (DataW H)), zs.length = els.length → (∀ (i : Nat) (a : Pr) (d : DataW H), zs[i]? = some a → els[i]? = some d → GoodP a d) →
    Rows.uptoBulkAll els ≤ 1000000000 → ∀ p ∈ zs, p.ok
  | [], _, _, _, _, p, hp => by cases hp
  | a :: zs, d :: els, hl, h, hb, p, hp => by
    simp only [Rows.uptoBulkAll] at hb
    rcases List.mem_cons.1 hp with rfl | hp
    · exact (h 0 p d rfl rfl).2 (by omega)
    · exact good_preds zs els (by simpa using hl) (fun i a d ha hd => h (i + 1) a d (by simpa using ha) (by simpa using hd)) (by omega) p hp
  | _ :: _, [], hl, _, _, _, _ => by simp at hl
theorem read_sc (fuel : Nat) (cs : List Value) (x : DataW H × List MemPlace) (h : DataW.trod enc Tryd.prog w base spare held fuel 27 cs = some x) (hb : Rows.uptoBulk x.1 ≤ 1000000000) :
    ∃ s : Sc, Rl w Non cs s.cells ∧ s.ok := by
  obtain ⟨xs, m, hm, hx, hcs, hxl, hf⟩ := read_struct Tryd.underlying27 h
  rw [c27] at hcs
  obtain ⟨y0, y1, y2, rfl⟩ := three (show xs.length = 3 by rw [hxl]; rfl)
  obtain ⟨_, e0, t0⟩ := hf 0 0 3 1 fld27_0 c3
  obtain ⟨_, e1, t1⟩ := hf 1 1 22 1 fld27_1 c22
  obtain ⟨_, e2, t2⟩ := hf 2 2 25 4 fld27_2 c25
  cases e0; cases e1; cases e2
  obtain ⟨v, hv, hv1, _⟩ := read_int Tryd.underlying3 t0
  obtain ⟨zs, hz, hz2⟩ := read_slice (Pr.cells) GoodP Tryd.underlying22 c37 (by decide) (fun m' cs' x' _ h' => read_pr m' cs' x' h') t1
  obtain ⟨t, ht, _, ht2, ht3⟩ := read_ty _ _ _ t2
  have hsplit : cs = .int .i64 v :: ((cs.drop 1).take 1 ++ (cs.drop 2).take 4) := by
    match cs, hcs with
    | [v0, v1, v2, v3, v4, v5], _ => simp at hv; simp [hv]
  rw [hx] at hb
  simp only [List.map_cons, List.map_nil, hv1, Rows.uptoBulk, Rows.uptoBulkAll] at hb
  refine ⟨⟨v, zs, t⟩, ?_, ht3 (by omega), by show t.wt ≤ _; omega, ?_⟩
  · rw [hsplit]; exact .cons (.int _ _) (hz.append ht)
  · rcases hz2 with ⟨_, rfl⟩ | ⟨els, rest, hn, hl, hg⟩
    · exact ⟨by simp, by simp⟩
    · rw [hn] at hb
      simp only [Rows.uptoBulk] at hb
      have := len_le els
      exact ⟨by show zs.length ≤ _; omega, good_preds zs els hl hg (by omega)⟩
end
end Go.Proofs.YtjbajnkbiohoeaaDoor
