/-
  The fourth part of a program logic over deep data: the operations that leave the store alone, one lemma each.
  It speaks of any program; no condition.
  The fifth part of a program logic over deep data: what each operation that leaves the store alone makes of deep data (stepN), and that it is so in every world.
  It speaks of any program; no condition.
  The sixth part of a program logic over deep data: struct literals, slice literals, appends to slices that nobody else may append to.
  It speaks of any program; no condition.
  The seventh part of a program logic over deep data: slice literals and appends to slices that nobody else may append to.
  It speaks of any program; no condition.
-/
import Derived.Test.YtjbajnkbiohoeaaDoorDw1
namespace Go.Dw
open Go Go.RowKit

/-- What an operation that leaves all old memory alone comes to. -/
def NeuRes (P : Program) (w : World) (M : Nat → Prop) (d : D) : Result Next → Prop
  | .ok (.value v) w' => Ext Non w w' ∧ R w' M v d
  | .ok (.enter f args) w' => Ext Non w w' ∧ Calls P f args w' fun e w'' => ∃ v, e = .returned v ∧ Ext Non w w'' ∧ R w'' M v d
  | _ => False

section
variable {P : Program} {w : World} {M : Nat → Prop}

theorem neu_value {v : Value} {d : D} (h : R w M v d) : NeuRes P w M d (.ok (.value v) w) := ⟨Ext.refl _ _, h⟩
theorem neu_value' {w' : World} {v : Value} {d : D} (he : Ext Non w w') (h : R w' M v d) : NeuRes P w M d (.ok (.value v) w') := ⟨he, h⟩

theorem fldOf_some {t : TypeId} {i off : Nat} {ty : TypeId} {n : Nat} (h : fldOf P t i = some (off, ty, n)) :
    ∃ fs f inf, P.underlying t = some (.struct fs) ∧ fs[i]? = some f ∧ f.offset = off ∧ f.type = ty ∧ P.info? ty = some inf ∧ inf.size = n := by
  unfold fldOf at h
  split at h
  · rename_i fs hu
    cases hf : fs[i]? with
    | none => simp [hf] at h
    | some f =>
      cases hi : P.info? f.type with
      | none => simp [hf, hi] at h
      | some inf =>
        simp [hf, hi] at h
        obtain ⟨h1, h2, h3⟩ := h
        exact ⟨fs, f, inf, hu, hf, h1, h2, h2 ▸ hi, h3⟩
  · cases h
theorem elOf_some {t : TypeId} {e : TypeId} {n : Nat} (h : elOf P t = some (e, n)) : ∃ inf, P.underlying t = some (.slice e) ∧ P.info? e = some inf ∧ inf.size = n := by
  unfold elOf at h
  split at h
  · rename_i e' hu
    cases hi : P.info? e' with
    | none => simp [hi] at h
    | some inf =>
      simp [hi] at h
      obtain ⟨rfl, h3⟩ := h
      exact ⟨inf, hu, hi, h3⟩
  · cases h
theorem arOf_some {t : TypeId} {k : Nat} {e : TypeId} {n : Nat} (h : arOf P t = some (k, e, n)) : ∃ inf, P.underlying t = some (.array k e) ∧ P.info? e = some inf ∧ inf.size = n := by
  unfold arOf at h
  split at h
  · rename_i k' e' hu
    cases hi : P.info? e' with
    | none => simp [hi] at h
    | some inf =>
      simp [hi] at h
      obtain ⟨rfl, rfl, h3⟩ := h
      exact ⟨inf, hu, hi, h3⟩
  · cases h

theorem run_fieldAt {t : TypeId} {i off : Nat} {ty : TypeId} {n : Nat} (h : fldOf P t i = some (off, ty, n)) (hn : 0 < n) (ad : Addr) :
    (Instr.fieldAt t (.pointer (some ad)) i).run P w = .ok (.pointer (some (ad.add off))) w := by
  obtain ⟨fs, f, inf, hu, hf, h1, h2, h3, h4⟩ := fldOf_some h
  have hs : (sizeOf f.type).run P w = .ok n w := by simp [sizeOf, typeInfo, h2, h3, h4]
  have hn0 : n ≠ 0 := by omega
  simp [Instr.fieldAt, run_underlying hu, hf, Instr.sureAddr, fieldPlace, hs, hn0, h1]

theorem run_indexAt_slice {t e : TypeId} {n : Nat} (h : elOf P t = some (e, n)) (ad : Addr) (len cap : Nat) (k : IntKind) (i : Int) (h0 : 0 ≤ i) (h1 : i < len) :
    (Instr.indexAt t (.slice (some ad) len cap) (.int k i)).run P w = .ok (.pointer (some (ad.add (i.toNat * n)))) w := by
  obtain ⟨inf, hu, hi, hs⟩ := elOf_some h
  simp [Instr.indexAt, asIntOf, run_underlying hu, h0, h1, sizeOf, typeInfo, hi, hs]
theorem run_indexAt_array {t e : TypeId} {m n : Nat} (h : arOf P t = some (m, e, n)) (ad : Addr) (k : IntKind) (i : Int) (h0 : 0 ≤ i) (h1 : i < m) :
    (Instr.indexAt t (.pointer (some ad)) (.int k i)).run P w = .ok (.pointer (some (ad.add (i.toNat * n)))) w := by
  obtain ⟨inf, hu, hi, hs⟩ := arOf_some h
  simp [Instr.indexAt, asIntOf, run_underlying hu, h0, h1, Instr.sureAddr, sizeOf, typeInfo, hi, hs]

theorem run_part {t : TypeId} {a : Bool} {n b : Nat} (hl : layOf P t = some (a, n, b)) {cs : Array Value} {ds : List D} (h : Rl w M cs.toList ds) {off : Nat} {K : D → Prop} (hK : loadD a n (ds.drop off) K) :
    ∃ v d, (part t cs off).run P w = .ok v w ∧ R w M v d ∧ K d := by
  cases a with
  | true =>
    obtain ⟨hn, hK⟩ := hK
    refine ⟨.agg (cs.extract off (off + n)), .agg ((ds.drop off).take n), ?_, R.agg_iff.2 ?_, hK⟩
    · simp only [part, Sem.run_bind, run_isAgg_lay hl, Result.andThen_ok, if_true, run_sizeOf_lay hl, Sem.run_pure]
    · have := (h.drop off).take n
      simpa [List.extract_eq_take_drop] using this
  | false =>
    cases hd : ds.drop off with
    | nil => rw [hd] at hK; exact hK.elim
    | cons c r =>
      rw [hd] at hK
      have hlt : off < cs.size := by
        have h1 := h.1
        have h2 : off < ds.length := by
          rcases Nat.lt_or_ge off ds.length with h | h
          · exact h
          · rw [List.drop_eq_nil_of_le h] at hd; cases hd
        simp at h1; omega
      have hc : ds[off]? = some c := by
        have : (ds.drop off)[0]? = some c := by rw [hd]; rfl
        simpa using this
      refine ⟨cs[off], c, ?_, h.2 off _ c (by simp [hlt]) hc, hK⟩
      simp [part, run_isAgg_lay hl, hlt]

theorem toList_data (s : ByteArray) : s.toList = s.data.toList := by
  have h : ∀ (n i : Nat) (r : List UInt8), s.size - i = n → ByteArray.toList.loop s i r = r.reverse ++ s.data.toList.drop i := by
    intro n
    induction n with
    | zero =>
      intro i r hn
      unfold ByteArray.toList.loop
      rw [if_neg (by omega), List.drop_eq_nil_of_le (by simp; change s.size ≤ i; omega), List.append_nil]
    | succ n ih =>
      intro i r hn
      unfold ByteArray.toList.loop
      rw [if_pos (by omega), ih (i + 1) _ (by omega)]
      have hi : i < s.data.toList.length := by simp; change i < s.size; omega
      rw [List.drop_eq_getElem_cons hi]
      simp
      have hi' : i < s.size := by omega
      simp [ByteArray.get!, getElem!_pos, hi']
  have := h s.size 0 [] (by omega)
  simpa [ByteArray.toList] using this

theorem data_inj {s t : ByteArray} (h : s.data.toList = t.data.toList) : s = t := by
  obtain ⟨⟨a⟩⟩ := s
  obtain ⟨⟨b⟩⟩ := t
  simp at h
  subst h
  rfl
theorem beq_data (s t : ByteArray) : (s == t) = (s.data.toList == t.data.toList) := by
  have h0 : (s == t) = (s.data == t.data) := rfl
  rw [h0]
  by_cases h : s.data = t.data
  · rw [h]; simp
  · have : ¬ s.data.toList = t.data.toList := fun e => h (Array.toList_inj.1 e)
    rw [beq_eq_false_iff_ne.2 h, beq_eq_false_iff_ne.2 this]

end
end Go.Dw

namespace Go.Dw
open Go Go.RowKit

/-- A call that leaves all old memory as it is and gives d. -/
def CallR (P : Program) (G : List (Nat × D)) (f : FuncId) (ds : List D) (S : List (Nat × O)) (d : D) : Prop :=
  ∀ (X : Nat → Prop) (vs : Array Value) (w : World), Stor w X S → Glob G w (Mx X S) → Rl w (Mx X S) vs.toList ds →
    Calls P f vs w fun e w' => ∃ v, e = .returned v ∧ Ext Non w w' ∧ R w' (Mx X S) v d

def withO {α : Type} (o : Option α) (K : α → Prop) : Prop := match o with | some d => K d | none => False
theorem withO_some {α : Type} (d : α) (K : α → Prop) : withO (some d) K = K d := rfl
def split (t : Bool) (A B : Prop) : Prop := (t = true → A) ∧ (t = false → B)
theorem split_true (A B : Prop) : split true A B = A := by simp [split]
theorem split_false (A B : Prop) : split false A B = B := by simp [split]

def intBin (op : BinOp) (k : IntKind) (a b : Int) (K : D → Prop) : Prop :=
  match op with
  | .add => K (.int k (k.wrap (a + b)))
  | .sub => K (.int k (k.wrap (a - b)))
  | .mul => K (.int k (k.wrap (a * b)))
  | .quo => b ≠ 0 ∧ K (.int k (k.wrap (a.tdiv b)))
  | .rem => b ≠ 0 ∧ K (.int k (a.tmod b))
  | .eql => K (.bool (decide (a = b)))
  | .neq => K (.bool (decide (a ≠ b)))
  | .lss => K (.bool (decide (a < b)))
  | .leq => K (.bool (decide (a ≤ b)))
  | .gtr => K (.bool (decide (a > b)))
  | .geq => K (.bool (decide (a ≥ b)))
  | _ => False
def strBin (op : BinOp) (a b : List UInt8) (K : D → Prop) : Prop :=
  match op with
  | .add => (a.length + b.length : Int) ≤ IntKind.i64.max ∧ K (.str (a ++ b))
  | .eql => K (.bool (decide (a = b)))
  | .neq => K (.bool (decide (a ≠ b)))
  | .lss => K (.bool (Op.bytesLess a b))
  | .leq => K (.bool (Op.bytesLess a b || decide (a = b)))
  | .gtr => K (.bool (!(Op.bytesLess a b || decide (a = b))))
  | .geq => K (.bool (!Op.bytesLess a b))
  | _ => False
/-- Equality with nil and of bools: the answer of ==. -/
def eqD (P : Program) (t : TypeId) (x y : D) (K : Bool → Prop) : Prop :=
  match P.underlying t, x, y with
  | some .bool, .bool a, .bool b => K (a == b)
  | some (.slice _), .nil, .nil => K true
  | some (.slice _), .sl _ _ es, .nil => 0 < es.length ∧ K false
  | some (.slice _), .own _ A _ _, .nil => K A.isNone
  | some (.pointer _), .pnil, .pnil => K true
  | some (.pointer _), .rp _, .pnil => K false
  | some (.pointer _), .ref _ _ _, .pnil => K false
  | some (.map _ _), .mnil, .mnil => K true
  | some (.map _ _), .mapr _ _, .mnil => K false
  | some (.func _ _ _), .fnil, .fnil => K true
  | some (.func _ _ _), .fn _ _ _, .fnil => K false
  | _, _, _ => False
def binD (P : Program) (op : BinOp) (t : TypeId) (x y : D) (K : D → Prop) : Prop :=
  match x, y with
  | .int k a, .int k' b => k = k' ∧ intBin op k a b K
  | .str a, .str b => strBin op a b K
  | x, y => match op with
    | .eql => eqD P t x y fun b => K (.bool b)
    | .neq => eqD P t x y fun b => K (.bool (!b))
    | _ => False

section
variable {P : Program} {w : World} {M : Nat → Prop}

theorem beqD {α : Type} [DecidableEq α] (a b : α) : (a == b) = decide (a = b) := rfl
theorem sound_int {op : BinOp} {k : IntKind} {a b : Int} {K : D → Prop} (t : TypeId) (h : intBin op k a b K) :
    ∃ v d, (binOp op t (.int k a) (.int k b)).run P w = .ok v w ∧ R w M v d ∧ K d ∧ ∀ K', intBin op k a b K' → K' d := by
  cases op <;> simp only [intBin] at h
  case add => exact ⟨_, _, by simp [binOp, Op.intArith], .int _ _, h, fun K' h' => h'⟩
  case sub => exact ⟨_, _, by simp [binOp, Op.intArith], .int _ _, h, fun K' h' => h'⟩
  case mul => exact ⟨_, _, by simp [binOp, Op.intArith], .int _ _, h, fun K' h' => h'⟩
  case quo => exact ⟨_, _, by simp [binOp, Op.intDiv, h.1], .int _ _, h.2, fun K' h' => h'.2⟩
  case rem => exact ⟨_, _, by simp [binOp, Op.intDiv, h.1], .int _ _, h.2, fun K' h' => h'.2⟩
  case eql => exact ⟨.bool (a == b), _, by simp [binOp, Op.intCmp], .bool _, h, fun K' h' => h'⟩
  case neq => exact ⟨.bool (decide (a ≠ b)), _, by simp [binOp, Op.intCmp, bne, beqD], .bool _, h, fun K' h' => h'⟩
  case lss => exact ⟨.bool (decide (a < b)), _, by simp [binOp, Op.intCmp], .bool _, h, fun K' h' => h'⟩
  case leq => exact ⟨.bool (decide (a ≤ b)), _, by simp [binOp, Op.intCmp], .bool _, h, fun K' h' => h'⟩
  case gtr => exact ⟨.bool (decide (a > b)), _, by simp [binOp, Op.intCmp], .bool _, h, fun K' h' => h'⟩
  case geq => exact ⟨.bool (decide (a ≥ b)), _, by simp [binOp, Op.intCmp], .bool _, h, fun K' h' => h'⟩

theorem size_len (s : ByteArray) : s.size = s.data.toList.length := rfl

theorem beqL (a b : List UInt8) : (a == b) = decide (a = b) := by
  by_cases h : a = b
  · subst h; simp
  · rw [beq_eq_false_iff_ne.2 h, decide_eq_false h]
theorem i64max : IntKind.i64.max = 9223372036854775807 := rfl
theorem sound_str {op : BinOp} {s u : ByteArray} {K : D → Prop} (t : TypeId) (h : strBin op s.data.toList u.data.toList K) :
    ∃ v d, (binOp op t (.string s) (.string u)).run P w = .ok v w ∧ R w M v d ∧ K d := by
  have e1 : ∀ a b : List UInt8, (a == b) = decide (a = b) := fun a b => beqL a b
  cases op <;> simp only [strBin] at h
  case add =>
    refine ⟨.string (s ++ u), _, ?_, .str _ _ (by simp), h.2⟩
    have h1 := h.1
    rw [← size_len, ← size_len] at h1
    rw [i64max] at h1
    have h2 : ¬ ((9223372036854775807 : Int) < (s.size : Int) + (u.size : Int)) := by omega
    simp [binOp, Op.stringOp, h2]
  case eql => exact ⟨.bool (decide (s.data.toList = u.data.toList)), _, by simp [binOp, Op.stringOp, toList_data, e1], .bool _, h⟩
  case neq => exact ⟨.bool (decide (s.data.toList ≠ u.data.toList)), _, by simp [binOp, Op.stringOp, toList_data, e1], .bool _, h⟩
  case lss => exact ⟨.bool (Op.bytesLess s.data.toList u.data.toList), _, by simp [binOp, Op.stringOp, toList_data], .bool _, h⟩
  case leq => exact ⟨.bool (Op.bytesLess s.data.toList u.data.toList || decide (s.data.toList = u.data.toList)), _, by simp [binOp, Op.stringOp, toList_data, e1], .bool _, h⟩
  case gtr => exact ⟨.bool (!(Op.bytesLess s.data.toList u.data.toList || decide (s.data.toList = u.data.toList))), _, by simp [binOp, Op.stringOp, toList_data, e1], .bool _, h⟩
  case geq => exact ⟨.bool (!Op.bytesLess s.data.toList u.data.toList), _, by simp [binOp, Op.stringOp, toList_data], .bool _, h⟩

theorem equal_run {t : TypeId} {x y : Value} {b : Bool} (h : ∀ d, (Op.equalIn (d + 1) t x y).run P w = .ok b w) : (Op.equal t x y).run P w = .ok b w := h 9999

theorem sound_eq {t : TypeId} {x y : Value} {dx dy : D} (hx : R w M x dx) (hy : R w M y dy) {K : Bool → Prop} (h : eqD P t dx dy K) :
    ∃ b, (Op.equal t x y).run P w = .ok b w ∧ K b ∧ (binOp .eql t x y = do pure (.bool (← Op.equal t x y))) ∧ (binOp .neq t x y = do pure (.bool (!(← Op.equal t x y)))) ∧
      (match x, y with | .nilIface, .nilIface => False | .agg _, .agg _ => False | _, _ => True) := by
  unfold eqD at h
  split at h
  all_goals first | exact h.elim | skip
  case h_1 hu => cases hx; cases hy; exact ⟨_, equal_run fun d => by simp [Op.equalIn, run_underlying hu], h, rfl, rfl, trivial⟩
  case h_2 hu => cases hx; cases hy; exact ⟨_, equal_run fun d => by simp [Op.equalIn, run_underlying hu], h, rfl, rfl, trivial⟩
  case h_3 hu =>
    cases hy
    obtain ⟨A, cap, rfl, _, _, _, _, ad, hA, _⟩ := hx.sl_elem
    obtain ⟨rfl, _⟩ := hA h.1
    exact ⟨_, equal_run fun d => by simp [Op.equalIn, run_underlying hu], h.2, rfl, rfl, trivial⟩
  case h_4 hu =>
    cases hx; cases hy
    rename_i A _ _
    cases A
    · exact ⟨_, equal_run fun d => by simp [Op.equalIn, run_underlying hu], h, rfl, rfl, trivial⟩
    · exact ⟨_, equal_run fun d => by simp [Op.equalIn, run_underlying hu], h, rfl, rfl, trivial⟩
  case h_5 hu => cases hx; cases hy; exact ⟨_, equal_run fun d => by simp [Op.equalIn, run_underlying hu], h, rfl, rfl, trivial⟩
  case h_6 hu => cases hx; cases hy; exact ⟨_, equal_run fun d => by simp [Op.equalIn, run_underlying hu], h, rfl, rfl, trivial⟩
  case h_7 hu => cases hx; cases hy; exact ⟨_, equal_run fun d => by simp [Op.equalIn, run_underlying hu], h, rfl, rfl, trivial⟩
  case h_8 hu => cases hx; cases hy; exact ⟨_, equal_run fun d => by simp [Op.equalIn, run_underlying hu], h, rfl, rfl, trivial⟩
  case h_9 hu => cases hx; cases hy; exact ⟨_, equal_run fun d => by simp [Op.equalIn, run_underlying hu], h, rfl, rfl, trivial⟩
  case h_10 hu => cases hx; cases hy; exact ⟨_, equal_run fun d => by simp [Op.equalIn, run_underlying hu], h, rfl, rfl, trivial⟩
  case h_11 hu => cases hx; cases hy; exact ⟨_, equal_run fun d => by simp [Op.equalIn, run_underlying hu], h, rfl, rfl, trivial⟩

theorem sound_bin {op : BinOp} {t : TypeId} {x y : Value} {dx dy : D} (hx : R w M x dx) (hy : R w M y dy) {K : D → Prop} (h : binD P op t dx dy K) (ox oy : Operand) :
    ∃ v d, (do eqGuard op t ox oy x y; binOp op t x y : Sem Value).run P w = .ok v w ∧ R w M v d ∧ K d := by
  unfold binD at h
  split at h
  · obtain ⟨rfl, h⟩ := h
    cases hx; cases hy
    obtain ⟨v, d, h1, h2, h3, _⟩ := sound_int (P := P) (w := w) (M := M) t h
    refine ⟨v, d, ?_, h2, h3⟩
    cases op <;> simp [eqGuard, h1]
  · cases hx with
    | str s _ hs =>
      cases hy with
      | str u _ hu =>
        subst hs; subst hu
        obtain ⟨v, d, h1, h2, h3⟩ := sound_str (P := P) (w := w) (M := M) t h
        refine ⟨v, d, ?_, h2, h3⟩
        cases op <;> simp [eqGuard, h1]
  · split at h
    · obtain ⟨b, h1, h2, h3, _, h4⟩ := sound_eq hx hy h
      refine ⟨_, _, ?_, .bool b, h2⟩
      have h5 : (binOp .eql t x y).run P w = .ok (.bool b) w := by rw [h3]; simp [h1]
      cases x <;> cases y <;> first | exact h4.elim | simp [eqGuard, h5]
    · obtain ⟨b, h1, h2, _, h3, h4⟩ := sound_eq hx hy h
      refine ⟨_, _, ?_, .bool (!b), h2⟩
      have h5 : (binOp .neq t x y).run P w = .ok (.bool (!b)) w := by rw [h3]; simp [h1]
      cases x <;> cases y <;> first | exact h4.elim | simp [eqGuard, h5]
    · exact h.elim
end
end Go.Dw

namespace Go.Dw
open Go Go.RowKit

/-- A type's zero value as cells. -/
def zeroOf (P : Program) (t : TypeId) : Option (List D) := ((P.info? t).bind (·.zero)).map fun z => z.cells.toList.map ofCell

/-- Parts put into cells, as 'place' says where. -/
def fillD (place : Nat → Option (Nat × Nat)) : List (Nat × D) → List D → (List D → Prop) → Prop
  | [], cs, K => K cs
  | (i, d) :: r, cs, K => withO (place i) fun p => d.known = true ∧ d.cells.length = p.2 ∧ p.1 + p.2 ≤ cs.length ∧ fillD place r (cs.take p.1 ++ d.cells ++ cs.drop (p.1 + p.2)) K

theorem foldl_set (off : Nat) : ∀ (vs : List Value) (k : Nat) (cur : Array Value), off + k + vs.length ≤ cur.size →
    ((vs.zipIdx k).foldl (fun (cs : Array Value) (p : Value × Nat) => cs.setIfInBounds (off + p.2) p.1) cur).toList = cur.toList.take (off + k) ++ vs ++ cur.toList.drop (off + k + vs.length)
  | [], k, cur, _ => by simp
  | v :: vs, k, cur, h => by
    simp only [List.zipIdx_cons, List.foldl_cons]
    rw [foldl_set off vs (k + 1) _ (by simp at h ⊢; omega)]
    simp only [Array.toList_setIfInBounds]
    have hlt : off + k < cur.toList.length := by simp at h ⊢; omega
    rw [show off + (k + 1) = off + k + 1 by omega, List.take_add_one, List.take_set_of_le (Nat.le_refl _)]
    simp only [List.length_cons]
    rw [List.drop_set_of_lt (by omega)]
    have hg : (cur.toList.set (off + k) v)[off + k]? = some v := by rw [List.getElem?_set_self hlt]
    rw [hg]
    simp [Nat.add_assoc, Nat.add_comm, Nat.add_left_comm]

section
variable {P : Program} {w : World} {M : Nat → Prop}

theorem fill_sound {place : Nat → Option (Nat × Nat)} : ∀ (ps : List (Nat × Value)) (qs : List (Nat × D)) (cur : Array Value) (cs : List D) {K : List D → Prop},
    ps.length = qs.length → (∀ (i : Nat) (p : Nat × Value) (q : Nat × D), ps[i]? = some p → qs[i]? = some q → p.1 = q.1 ∧ R w M p.2 q.2) → Rl w M cur.toList cs → fillD place qs cs K →
    ∃ out ds, Instr.fill place cur ps = some out ∧ Rl w M out.toList ds ∧ K ds
  | [], [], cur, cs, K, _, _, hr, h => ⟨cur, cs, rfl, hr, h⟩
  | [], _ :: _, _, _, _, hl, _, _, _ => by simp at hl
  | _ :: _, [], _, _, _, hl, _, _, _ => by simp at hl
  | (i, v) :: ps, (j, d) :: qs, cur, cs, K, hl, hp, hr, h => by
    obtain ⟨h1, h2⟩ := hp 0 (i, v) (j, d) rfl rfl
    simp only at h1 h2
    subst h1
    simp only [fillD] at h
    cases hpl : place i with
    | none => rw [hpl] at h; exact h.elim
    | some p =>
      obtain ⟨off, size⟩ := p
      rw [hpl] at h
      obtain ⟨hk, hs, hle, h⟩ := h
      simp only at hs hle h
      have hc := h2.cells hk
      have hvs : v.cells.size = size := by have := hc.1; simp at this; omega
      have hcs : cur.size = cs.length := by have := hr.1; simpa using this
      have hfold := foldl_set off v.cells.toList 0 cur (by simp; omega)
      simp only [Nat.add_zero] at hfold
      simp only [Instr.fill, hpl, hvs]
      rw [if_neg (by simp; omega)]
      have hz : v.cells.zipIdx.foldl (fun (cs : Array Value) (x : Value × Nat) => match x with | (c, j) => cs.setIfInBounds (off + j) c) cur =
          (v.cells.toList.zipIdx.foldl (fun (cs : Array Value) (p : Value × Nat) => cs.setIfInBounds (off + p.2) p.1) cur) := by
        rw [← Array.foldl_toList, Array.toList_zipIdx]
      refine fill_sound ps qs _ _ (by simpa using hl) (fun k p q hp' hq' => hp (k + 1) p q (by simpa using hp') (by simpa using hq')) ?_ h
      rw [hz, hfold, ← hs]
      have := hr.splice hc off
      rwa [hc.1] at this ⊢

/-- build: a struct. -/
theorem run_build_struct {t : TypeId} {zs : List D} (hz : zeroOf P t = some zs) (hs : ∃ fs, P.underlying t = some (.struct fs)) (hfld : ∀ fs, P.underlying t = some (.struct fs) → fs.all (fun f => (P.info? f.type).isSome) = true)
    (ps : Array (Nat × Value)) (qs : List (Nat × D)) (hl : ps.size = qs.length)
    (hp : ∀ (i : Nat) (p : Nat × Value) (q : Nat × D), ps[i]? = some p → qs[i]? = some q → p.1 = q.1 ∧ R w M p.2 q.2) {K : List D → Prop}
    (h : fillD (fun i => (fldOf P t i).map fun x => (x.1, x.2.2)) qs zs K) :
    ∃ v ds, (Instr.build t ps).run P w = .ok v w ∧ R w M v (.agg ds) ∧ K ds := by
  obtain ⟨fs, hu⟩ := hs
  have hall := hfld fs hu
  unfold zeroOf at hz
  cases hi : P.info? t with
  | none => simp [hi] at hz
  | some inf =>
    cases hzz : inf.zero with
    | none => simp [hi, hzz] at hz
    | some z =>
      simp [hi, hzz] at hz
      have hzr : (zeroValue t).run P w = .ok z w := by simp [zeroValue, typeInfo, hi, hzz]
      -- the places
      have hmap : ∀ (l : List Field), (∀ f ∈ l, (P.info? f.type).isSome = true) →
          (l.mapM fun f => do pure (f.offset, ← sizeOf f.type) : Sem (List (Nat × Nat))).run P w = .ok (l.map fun f => (f.offset, ((P.info? f.type).map (·.size)).getD 0)) w := by
        intro l
        induction l with
        | nil => intro _; simp
        | cons f l ih =>
          intro hf
          have h1 := ih (fun g hg => hf g (List.mem_cons_of_mem _ hg))
          have h2 := hf f List.mem_cons_self
          cases hfi : P.info? f.type with
          | none => simp [hfi] at h2
          | some finf =>
            have hsz : (sizeOf f.type).run P w = .ok finf.size w := by simp [sizeOf, typeInfo, hfi]
            simp only [List.mapM_cons, Sem.run_bind, hsz, Result.andThen_ok, Sem.run_pure, h1, List.map_cons, hfi, Option.map_some, Option.getD_some]
      have hmapA : (fs.mapM fun f => do pure (f.offset, ← sizeOf f.type) : Sem (Array (Nat × Nat))).run P w = .ok (fs.toList.map fun f => (f.offset, ((P.info? f.type).map (·.size)).getD 0)).toArray w := by
        rw [Array.mapM_eq_mapM_toList]
        have := hmap fs.toList (fun f hf => by
          have := (Array.all_eq_true_iff_forall_mem.1 hall) f (by simpa using hf)
          exact this)
        simp only [Sem.run_map, this, Result.andThen_ok]
      have hzl : Rl w M z.cells.toList zs := by
        rw [← hz]
        refine ⟨by simp, fun i v d hv hd => ?_⟩
        rw [List.getElem?_map, hv] at hd
        simp at hd
        subst hd
        exact R_ofCell v
      have hplace : (fun i => (fldOf P t i).map fun x => (x.1, x.2.2)) = fun i => ((fs.toList.map fun f => (f.offset, ((P.info? f.type).map (·.size)).getD 0)).toArray)[i]? := by
        funext i
        simp only [fldOf, hu]
        cases hf : fs[i]? with
        | none => simp [hf]
        | some f =>
          have : (P.info? f.type).isSome = true := (Array.all_eq_true_iff_forall_mem.1 hall) f (Array.mem_of_getElem? hf)
          cases hfi : P.info? f.type with
          | none => simp [hfi] at this
          | some finf => simp [hf, hfi]
      rw [hplace] at h
      obtain ⟨out, ds, h1, h2, h3⟩ := fill_sound ps.toList qs z.cells zs (by simpa using hl) (fun i p q hpp hqq => hp i p q (by simpa using hpp) hqq) hzl h
      refine ⟨.agg out, ds, ?_, R.agg_iff.2 h2, h3⟩
      simp only [Instr.build, Sem.run_bind, hzr, Result.andThen_ok, run_underlying hu, hmapA, h1, Sem.run_pure]

theorem run_build_array {t e : TypeId} {n k : Nat} {zs : List D} (hz : zeroOf P t = some zs) (ha : arOf P t = some (n, e, k))
    (ps : Array (Nat × Value)) (qs : List (Nat × D)) (hl : ps.size = qs.length)
    (hp : ∀ (i : Nat) (p : Nat × Value) (q : Nat × D), ps[i]? = some p → qs[i]? = some q → p.1 = q.1 ∧ R w M p.2 q.2) {K : List D → Prop}
    (h : fillD (fun i => some (i * k, k)) qs zs K) :
    ∃ v ds, (Instr.build t ps).run P w = .ok v w ∧ R w M v (.agg ds) ∧ K ds := by
  obtain ⟨einf, hu, hei, hes⟩ := arOf_some ha
  unfold zeroOf at hz
  cases hi : P.info? t with
  | none => simp [hi] at hz
  | some inf =>
    cases hzz : inf.zero with
    | none => simp [hi, hzz] at hz
    | some z =>
      simp [hi, hzz] at hz
      have hzr : (zeroValue t).run P w = .ok z w := by simp [zeroValue, typeInfo, hi, hzz]
      have hsz : (sizeOf e).run P w = .ok k w := by simp [sizeOf, typeInfo, hei, hes]
      have hzl : Rl w M z.cells.toList zs := by
        rw [← hz]
        refine ⟨by simp, fun i v d hv hd => ?_⟩
        rw [List.getElem?_map, hv] at hd
        simp at hd
        subst hd
        exact R_ofCell v
      obtain ⟨out, ds, h1, h2, h3⟩ := fill_sound ps.toList qs z.cells zs (by simpa using hl) (fun i p q hpp hqq => hp i p q (by simpa using hpp) hqq) hzl h
      refine ⟨.agg out, ds, ?_, R.agg_iff.2 h2, h3⟩
      simp only [Instr.build, Sem.run_bind, hzr, Result.andThen_ok, run_underlying hu, hsz, h1, Sem.run_pure]

end
end Go.Dw

namespace Go.Dw
open Go Go.RowKit

theorem flat_len {α : Type} {k : Nat} : ∀ {es : List (List α)}, (∀ e ∈ es, e.length = k) → es.flatten.length = es.length * k
  | [], _ => by simp
  | e :: es, h => by
    have h1 := flat_len (es := es) (fun x hx => h x (List.mem_cons_of_mem _ hx))
    have h2 := h e List.mem_cons_self
    simp [List.flatten_cons, h1, h2, Nat.add_mul, Nat.add_comm]
theorem flat_get {α : Type} {k : Nat} : ∀ {es : List (List α)} {i : Nat} {e : List α}, (∀ e ∈ es, e.length = k) → es[i]? = some e → (es.flatten.drop (i * k)).take k = e
  | [], i, e, _, h => by simp at h
  | x :: es, 0, e, hs, h => by
    simp at h
    subst h
    have h2 := hs x List.mem_cons_self
    simp [List.flatten_cons, ← h2]
  | x :: es, i + 1, e, hs, h => by
    have h2 := hs x List.mem_cons_self
    have h1 := flat_get (es := es) (i := i) (e := e) (fun y hy => hs y (List.mem_cons_of_mem _ hy)) (by simpa using h)
    rw [List.flatten_cons, List.drop_append, List.drop_eq_nil_of_le (by rw [h2, Nat.add_mul]; omega), List.nil_append, show (i + 1) * k - x.length = i * k by rw [h2, Nat.add_mul]; omega]
    exact h1

/-- Room for so many elements of so many bytes. -/
def Room (n bytes : Nat) : Prop := n ≤ 140737488355328 ∧ n * bytes ≤ 140737488355328

theorem fillD_row {k : Nat} : ∀ (ds : List D) (i0 : Nat) (cs : List D) {K : List D → Prop}, (∀ d ∈ ds, d.known = true ∧ d.cells.length = k) → (i0 + ds.length) * k ≤ cs.length →
    K (cs.take (i0 * k) ++ (ds.map D.cells).flatten ++ cs.drop ((i0 + ds.length) * k)) → fillD (fun i => some (i * k, k)) ((ds.zipIdx i0).map fun p => (p.2, p.1)) cs K
  | [], i0, cs, K, _, _, h => by simpa [fillD] using h
  | d :: ds, i0, cs, K, hd, hl, h => by
    obtain ⟨h1, h2⟩ := hd d List.mem_cons_self
    have hl' : (i0 + 1 + ds.length) * k ≤ cs.length := by
      rw [show i0 + 1 + ds.length = i0 + (d :: ds).length by simp; omega]; exact hl
    have hl'' : (i0 + 1) * k ≤ cs.length := Nat.le_trans (Nat.mul_le_mul_right _ (by omega)) hl'
    have hl0 : i0 * k ≤ cs.length := Nat.le_trans (Nat.mul_le_mul_right _ (by omega)) hl''
    rw [Nat.add_mul, Nat.one_mul] at hl''
    simp only [List.zipIdx_cons, List.map_cons, fillD, withO]
    refine ⟨h1, h2, hl'', ?_⟩
    have hlen : (cs.take (i0 * k) ++ d.cells ++ cs.drop (i0 * k + k)).length = cs.length := by
      simp [h2, List.length_take, Nat.min_eq_left hl0]; omega
    refine fillD_row ds (i0 + 1) _ (fun x hx => hd x (List.mem_cons_of_mem _ hx)) (by rw [hlen]; exact hl') ?_
    have e1 : (cs.take (i0 * k) ++ d.cells ++ cs.drop (i0 * k + k)).take ((i0 + 1) * k) = cs.take (i0 * k) ++ d.cells := by
      rw [List.take_append_of_le_length (by simp [h2, Nat.min_eq_left hl0, Nat.add_mul])]
      rw [List.take_of_length_le (by simp [h2, Nat.min_eq_left hl0, Nat.add_mul])]
    have e2 : (cs.take (i0 * k) ++ d.cells ++ cs.drop (i0 * k + k)).drop ((i0 + 1 + ds.length) * k) = cs.drop ((i0 + (d :: ds).length) * k) := by
      rw [List.drop_append, List.drop_eq_nil_of_le (by simp [h2, Nat.min_eq_left hl0, Nat.add_mul]), List.nil_append, List.drop_drop]
      congr 1
      simp [h2, Nat.min_eq_left hl0, Nat.add_mul]; omega
    rw [e1, e2]
    simpa [List.append_assoc] using h

section
variable {P : Program} {w : World} {M : Nat → Prop}

theorem CellsAt.elems {ad : Addr} {k : Nat} {es : List (List D)} {r : List D} (hs : ∀ e ∈ es, e.length = k) (h : CellsAt w M ad (es.flatten ++ r)) : ∀ (i : Nat) (e : List D), es[i]? = some e → CellsAt w M (ad.add (i * k)) e := by
  intro i e he
  have h1 := (h.drop (i * k)).take k
  have hlen := flat_len hs
  have hi := (List.getElem?_eq_some_iff.1 he).1
  have h3 : i * k + k ≤ es.flatten.length := by rw [hlen, ← Nat.succ_mul]; exact Nat.mul_le_mul_right _ hi
  rw [List.drop_append_of_le_length (by omega), List.take_append_of_le_length (by rw [List.length_drop]; omega), flat_get hs he] at h1
  exact h1

/-- A slice over a new block. -/
theorem R.sl_new {vs : List Value} {k cap : Nat} {es : List (List D)} {r : List D} (hr : Rl w M vs (es.flatten ++ r)) (hs : ∀ e ∈ es, e.length = k) (hcap : es.length ≤ cap) {full : Bool} (hfull : full = true → cap = es.length)
    (hmax : es.length ≤ maxLen) (t : TypeId) (hM : ∀ b, M b → b < w.heap.size) : R (w.alloc (.cells vs.toArray t)) M (.slice (some ⟨w.heap.size, 0, none⟩) es.length cap) (.sl full k es) := by
  have hc := CellsAt.new hr t M (fun _ _ h => h)
  exact R.sl_mk rfl hcap hfull hmax hs (fun _ => ⟨rfl, by simp, fun h => by have := hM _ h; simp at this⟩) (hc.elems hs)

theorem run_buildSlice {t e : TypeId} {k : Nat} (he : elOf P t = some (e, k)) {zs : List D} (hz : zeroOf P e = some zs) (ps : Array (Nat × Value)) (ds : List D)
    (hlen : ps.size = ds.length) (hsmall : ds.length * k ≤ 16777216) (hmax : ds.length ≤ maxLen) (hidx : ps.toList.map (·.1) = List.range ds.length) (hds : ∀ d ∈ ds, d.known = true ∧ d.cells.length = k)
    (hp : ∀ (i : Nat) (p : Nat × Value) (d : D), ps[i]? = some p → ds[i]? = some d → R w M p.2 d) (hM : ∀ b, M b → b < w.heap.size) :
    ∃ v w', (Instr.buildSlice t ds.length ps).run P w = .ok v w' ∧ Ext Non w w' ∧ R w' M v (.sl true k (ds.map D.cells)) := by
  obtain ⟨inf, hu, hi, hks⟩ := elOf_some he
  unfold zeroOf at hz
  simp only [hi, Option.bind_some] at hz
  cases hzz : inf.zero with
  | none => simp [hzz] at hz
  | some z =>
    simp [hzz] at hz
    have hzr : (zeroValue e).run P w = .ok z w := by simp [zeroValue, typeInfo, hi, hzz]
    have hsz : (sizeOf e).run P w = .ok k w := by simp [sizeOf, typeInfo, hi, hks]
    have hsm : ¬ (ds.length * k > 2 ^ 24) := by simp; omega
    -- the zero cells
    obtain ⟨zero, hzero, hlz⟩ : ∃ zero : Array Value, ((if ds.length * k = 0 then pure #[] else do pure (← zeroValue e).cells) : Sem (Array Value)).run P w = .ok zero w ∧ (ds.length * k ≠ 0 → zero = z.cells) := by
      by_cases h0 : ds.length * k = 0
      · exact ⟨#[], by simp [h0], fun h => absurd h0 h⟩
      · exact ⟨z.cells, by simp [h0, hzr], fun _ => rfl⟩
    obtain ⟨cur, hcur⟩ : ∃ cur, cur = (Array.range (ds.length * k)).map (zero[· % zero.size]!) := ⟨_, rfl⟩
    have hcl : cur.size = ds.length * k := by rw [hcur]; simp
    have hany : Rl w M cur.toList (List.replicate (ds.length * k) .any) := by
      refine ⟨by simp [hcl], fun i v d _ hd => ?_⟩
      have := List.getElem?_eq_some_iff.1 hd
      obtain ⟨_, h⟩ := this
      simp at h
      subst h
      exact .any v
    have hfd : fillD (fun i => some (i * k, k)) ((ds.zipIdx 0).map fun p => (p.2, p.1)) (List.replicate (ds.length * k) .any) (fun out => out = (ds.map D.cells).flatten) := by
      refine fillD_row ds 0 _ hds (by simp) ?_
      simp
    obtain ⟨out, os, h1, h2, h3⟩ := fill_sound (w := w) (M := M) ps.toList ((ds.zipIdx 0).map fun p => (p.2, p.1)) cur _ (by simp [hlen]) (fun i p q hpp hqq => by
      rw [List.getElem?_map] at hqq
      cases hz' : (ds.zipIdx 0)[i]? with
      | none => simp [hz'] at hqq
      | some x =>
        simp [hz'] at hqq
        subst hqq
        have hx := hz'
        rw [List.getElem?_zipIdx] at hx
        cases hdi : ds[i]? with
        | none => simp [hdi] at hx
        | some d =>
          simp [hdi] at hx
          subst hx
          simp only
          refine ⟨?_, hp i p d (by simpa using hpp) hdi⟩
          have : (ps.toList.map (·.1))[i]? = some p.1 := by rw [List.getElem?_map, hpp]; rfl
          rw [hidx] at this
          have h5 := List.getElem?_eq_some_iff.1 this
          obtain ⟨_, h6⟩ := h5
          simpa using h6.symm) hany hfd
    subst h3
    have hdl : ∀ e ∈ ds.map D.cells, e.length = k := by
      intro e he
      simp at he
      obtain ⟨d, hd, rfl⟩ := he
      exact (hds d hd).2
    have hres := R.sl_new (full := true) (cap := ds.length) (es := ds.map D.cells) (r := []) (by simpa using h2) hdl (by simp) (by simp) (by simpa using hmax) e hM
    refine ⟨_, _, ?_, Ext.alloc w (.cells out.toList.toArray e), by simpa using hres⟩
    simp only [Instr.buildSlice, Sem.run_bind, run_underlying hu, Result.andThen_ok, hsz, Sem.run_ite]
    rw [if_neg hsm]
    have hfin : ∀ zc : Array Value, zc = zero → (match Instr.fill (fun i => some (i * k, k)) (Array.map (fun x => zc[x % zc.size]!) (Array.range (ds.length * k))) ps.toList with
          | some cells => do
            let a ← newRow e cells
            pure (Value.slice (some a) ds.length ds.length)
          | _ => stuck "buildSlice: a part of the wrong size" : Sem Value).run P w = .ok (.slice (some ⟨w.heap.size, 0, none⟩) ds.length ds.length) (w.alloc (.cells out.toList.toArray e)) := by
      intro zc hzc
      subst hzc
      rw [← hcur, h1]
      simp [newRow]
    by_cases h0 : ds.length * k = 0
    · rw [if_pos h0]
      rw [if_pos h0] at hzero
      simp only [Sem.run_pure, Result.ok.injEq] at hzero
      simp only [Sem.run_pure, Result.andThen_ok]
      exact hfin _ hzero.1
    · rw [if_neg h0]
      simp only [hzr, Sem.run_pure, Result.andThen_ok]
      exact hfin _ (hlz h0).symm

theorem run_append_full {t ty e : TypeId} {k : Nat} (he : elOf P t = some (e, k)) {a : Bool} {bytes : Nat} (hl : layOf P e = some (a, k, bytes)) {zs : List D} (hz : zeroOf P e = some zs)
    {s x : Value} {es es' : List (List D)} {f' : Bool} (hs : R w M s (.sl true k es)) (hx : R w M x (.sl f' k es')) (hroom : Room (es.length + es'.length) bytes) (hM : ∀ b, M b → b < w.heap.size) :
    ∃ v w', (Builtin.append_ #[t, t] ty #[s, x]).run P w = .ok v w' ∧ Ext Non w w' ∧ R w' M v (.sl false k (es ++ es')) := by
  obtain ⟨inf, hu, hi, hks⟩ := elOf_some he
  have hby : inf.bytes = bytes := by
    unfold layOf at hl
    cases hue : P.underlying e with
    | none => simp [hue] at hl
    | some d => simp [hue, hi] at hl; exact hl.2.2
  unfold zeroOf at hz
  simp only [hi, Option.bind_some] at hz
  cases hzz : inf.zero with
  | none => simp [hzz] at hz
  | some z =>
  obtain ⟨A, cap, rfl, hcap, hfull, hmax, hsz, ad, hA, hcell⟩ := hs.sl_elem
  obtain ⟨A', cap', rfl, hcap', _, hmax', hsz', ad', hA', hcell'⟩ := hx.sl_elem
  have hcapn : cap = es.length := hfull rfl
  subst hcapn
  have hne : ∀ y ∈ es ++ es', y.length = k := by
    intro y hy
    rcases List.mem_append.1 hy with h | h
    · exact hsz y h
    · exact hsz' y h
  have hm : (es ++ es').length ≤ maxLen := by have := hroom.1; simp [maxLen]; omega
  rcases Nat.eq_zero_or_pos es'.length with h0 | hpos
  · have hnil : es' = [] := List.eq_nil_of_length_eq_zero h0
    subst hnil
    refine ⟨.slice A es.length es.length, w, ?_, Ext.refl _ _, by simpa using (Le.sl k es).sound hs⟩
    have hfc : (Builtin.firstCells k 0 (.slice A' 0 cap')).run P w = .ok #[] w := by
      cases A' <;> simp [Builtin.firstCells, loadCells, loadCellsFrom]
    cases A <;> simp [Builtin.append_, run_underlying hu, sizeOf, typeInfo, hi, hks, Builtin.lenOf, hfc, storeCells]
  · obtain ⟨rfl, hb', hn'⟩ := hA' hpos
    -- the cells of both
    have flatten_cells : ∀ (l : List (List D)) (adr : Addr), (∀ y ∈ l, y.length = k) → (∀ (i : Nat) (y : List D), l[i]? = some y → CellsAt w M (adr.add (i * k)) y) → CellsAt w M adr l.flatten := by
      intro l
      induction l with
      | nil => intro adr _ _; exact ⟨[], .nil, fun j v h => by simp at h⟩
      | cons y l ih =>
        intro adr hy hc
        obtain ⟨vs, h1, h2⟩ := hc 0 y rfl
        obtain ⟨us, h3, h4⟩ := ih (adr.add k) (fun z hz => hy z (List.mem_cons_of_mem _ hz)) (fun i z hz => by
          have := hc (i + 1) z (by simpa using hz)
          rwa [Nat.add_mul, Nat.one_mul, Nat.add_comm, ← add_add] at this)
        refine ⟨vs ++ us, by simpa using h1.append h3, fun j v hv => ?_⟩
        have hvl : vs.length = k := h1.1.trans (hy y List.mem_cons_self)
        rcases Nat.lt_or_ge j vs.length with hj | hj
        · rw [List.getElem?_append_left hj] at hv
          simpa [Addr.add] using h2 j v hv
        · rw [List.getElem?_append_right hj] at hv
          have := h4 _ v hv
          rw [add_add] at this
          rwa [show k + (j - vs.length) = j by omega] at this
    obtain ⟨news, hn1, hn2⟩ := flatten_cells es' ad' hsz' hcell'
    obtain ⟨olds, ho1, ho2⟩ := flatten_cells es ad hsz hcell
    have hnl : news.length = es'.length * inf.size := by rw [hn1.1, flat_len hsz', hks]
    have hol : olds.length = es.length * inf.size := by rw [ho1.1, flat_len hsz, hks]
    have hr1 := hroom.1
    have hr2 := hroom.2
    rw [← hby] at hr2
    rcases hAA : A with _ | a0
    · have hen : es = [] := by
        rcases Nat.eq_zero_or_pos es.length with h | h
        · exact List.eq_nil_of_length_eq_zero h
        · have := (hA h).1; rw [hAA] at this; cases this
      subst hen
      have hrun := run_append_nil (P := P) w t ty e inf z hu hi hzz ad' es'.length cap' news hnl hn2 hpos (by omega) (by simp at hr2; omega)
      have hcg := grownCap_ge w es'.length 0 e
      have hres := R.sl_new (w := w.drew) (full := false) (cap := grownCap w es'.length 0 e) (es := es') (r := List.replicate (Builtin.zeroCells z.cells (grownCap w es'.length 0 e - es'.length)).size .any)
        (vs := news ++ (Builtin.zeroCells z.cells (grownCap w es'.length 0 e - es'.length)).toList)
        ((hn1.mono (Ext.drew w) (fun _ _ h => h.elim) (fun _ _ h => h)).append ⟨by simp, fun i v d _ hd => by
          obtain ⟨_, h⟩ := List.getElem?_eq_some_iff.1 hd
          simp at h; subst h; exact .any v⟩) hsz' hcg (by simp) hmax' e hM
      refine ⟨_, _, hrun, (Ext.drew w).trans (Ext.alloc w.drew _), ?_⟩
      have e1 : (news ++ (Builtin.zeroCells z.cells (grownCap w es'.length 0 e - es'.length)).toList).toArray = news.toArray ++ Builtin.zeroCells z.cells (grownCap w es'.length 0 e - es'.length) := by simp
      rw [e1] at hres
      simpa using hres
    · have hol2 : ∀ j v, olds[j]? = some v → w.cell? (a0.add j) = some v := by
        intro j v hv
        rcases Nat.eq_zero_or_pos es.length with h | h
        · have : olds = [] := List.eq_nil_of_length_eq_zero (by rw [hol, h]; simp)
          subst this; simp at hv
        · have := (hA h).1
          rw [hAA] at this
          cases this
          exact ho2 j v hv
      have hrun := run_append_grow (P := P) w t ty e inf z hu hi hzz a0 es.length es.length olds hol hol2 ad' es'.length cap' news hnl hn2 (by omega) (by omega) (growslice_fits (by omega) hr2)
      have hcg := grownCap_ge w (es.length + es'.length) es.length e
      have hres := R.sl_new (w := w.drew) (full := false) (cap := grownCap w (es.length + es'.length) es.length e) (es := es ++ es')
        (r := List.replicate (Builtin.zeroCells z.cells (grownCap w (es.length + es'.length) es.length e - (es.length + es'.length))).size .any)
        (vs := olds ++ news ++ (Builtin.zeroCells z.cells (grownCap w (es.length + es'.length) es.length e - (es.length + es'.length))).toList)
        (by
          rw [List.flatten_append]
          refine (((ho1.append hn1).mono (Ext.drew w) (fun _ _ h => h.elim) (fun _ _ h => h)).append ⟨by simp, fun i v d _ hd => ?_⟩)
          obtain ⟨_, h⟩ := List.getElem?_eq_some_iff.1 hd
          simp at h; subst h; exact .any v) hne (by simpa using hcg) (by simp) hm e hM
      refine ⟨_, _, hrun, (Ext.drew w).trans (Ext.alloc w.drew _), ?_⟩
      have e1 : (olds ++ news ++ (Builtin.zeroCells z.cells (grownCap w (es.length + es'.length) es.length e - (es.length + es'.length))).toList).toArray =
        olds.toArray ++ news.toArray ++ Builtin.zeroCells z.cells (grownCap w (es.length + es'.length) es.length e - (es.length + es'.length)) := by simp
      rw [e1, List.length_append] at hres
      exact hres
end

end Go.Dw
