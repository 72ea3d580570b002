/-
  Facts on the way to the statement of this claim: contracts of the program's functions and what they reckon. No condition beyond those that each theorem bears.
-/
import Derived.Test.YtjbajnkbiohoeaaDoorAt
namespace Go.Proofs.YtjbajnkbiohoeaaDoor
open Go Go.Dw

theorem Le_bool {x y : Bool} (h : x = y) : Dw.Le (.bool x) (.bool y) := h ▸ Dw.Le.refl _
theorem Le_int {x y : Int} (h : x = y) : Dw.Le (.int .i64 x) (.int .i64 y) := h ▸ Dw.Le.refl _
theorem Le_str {x y : List UInt8} (h : x = y) : Dw.Le (.str x) (.str y) := h ▸ Dw.Le.refl _
theorem len_snoc {α : Type} (l : List α) (a : α) : ((l ++ [a]).length : Int) = (l.length : Int) + 1 := by simp
/-- The decimal digits of a natural number. -/
def dec (n : Nat) : List UInt8 := if h : n < 10 then [UInt8.ofNat (48 + n)] else dec (n / 10) ++ [UInt8.ofNat (48 + n % 10)]
def num (n : Int) : List UInt8 := if n < 0 then 45 :: dec n.natAbs else dec n.natAbs
def inI (n : Int) : Prop := -9223372036854775808 ≤ n ∧ n ≤ 9223372036854775807

theorem dec_small {n : Nat} (h : n < 10) : dec n = [UInt8.ofNat (48 + n)] := by rw [dec]; simp [h]
theorem dec_big {n : Nat} (h : ¬ n < 10) : dec n = dec (n / 10) ++ dec (n % 10) := by rw [dec]; simp [h, dec_small (Nat.mod_lt n (by decide : 0 < 10))]
theorem dec_length : ∀ (k n : Nat), n < 10 ^ (k + 1) → (dec n).length ≤ k + 1
  | 0, n, h => by rw [dec_small (by simpa using h)]; simp
  | k + 1, n, h => by
    by_cases hn : n < 10
    · rw [dec_small hn]; simp
    · rw [dec_big hn, List.length_append, dec_small (Nat.mod_lt n (by decide))]
      have h1 : n / 10 < 10 ^ (k + 1) := Nat.div_lt_of_lt_mul (by rw [Nat.pow_succ, Nat.mul_comm] at h; exact h)
      have := dec_length k (n / 10) h1
      simp; omega
theorem num_length {n : Int} (h : inI n) : (num n).length ≤ 20 := by
  unfold inI at h
  have h1 : (dec n.natAbs).length ≤ 18 + 1 := dec_length 18 n.natAbs (by omega)
  unfold num
  split <;> simp <;> omega
/-- How the program reckons it. -/
theorem num_low {n : Int} (h : n ≤ -10) : num n = num (n.tdiv 10) ++ num (-(n.tmod 10)) := by
  have e : n = -(n.natAbs : Int) := by omega
  have h1 : n.tdiv 10 = -((n.natAbs / 10 : Nat) : Int) := by rw [e, Int.neg_tdiv]; simp [Int.tdiv]
  have h2 : n.tmod 10 = -((n.natAbs % 10 : Nat) : Int) := by rw [e, Int.neg_tmod]; simp [Int.tmod]
  rw [h1, h2]
  unfold num
  rw [if_pos (by omega), if_pos (by omega), if_neg (by omega), dec_big (by omega)]
  simp only [List.cons_append, Int.natAbs_neg, Int.natAbs_natCast, Int.neg_neg]
theorem num_neg {n : Int} (h : ¬ n ≤ -10) (h' : n < 0) : num n = [45] ++ num (-n) := by
  unfold num
  rw [if_pos h', if_neg (by omega), Int.natAbs_neg]; rfl
theorem num_digit {n : Int} (h : ¬ n < 0) (h' : n < 10) : num n = ([48, 49, 50, 51, 52, 53, 54, 55, 56, 57].take (n + 1).toNat).drop n.toNat := by
  have : n = 0 ∨ n = 1 ∨ n = 2 ∨ n = 3 ∨ n = 4 ∨ n = 5 ∨ n = 6 ∨ n = 7 ∨ n = 8 ∨ n = 9 := by omega
  rcases this with rfl | rfl | rfl | rfl | rfl | rfl | rfl | rfl | rfl | rfl <;> (unfold num; rw [dec_small (by decide)]; rfl)
theorem num_high {n : Int} (h : ¬ n < 10) : num n = num (n.tdiv 10) ++ num (n.tmod 10) := by
  have e : n = (n.natAbs : Int) := by omega
  have h1 : n.tdiv 10 = ((n.natAbs / 10 : Nat) : Int) := by rw [show n.tdiv 10 = (n.natAbs : Int).tdiv 10 by rw [← e]]; rfl
  have h2 : n.tmod 10 = ((n.natAbs % 10 : Nat) : Int) := by rw [show n.tmod 10 = (n.natAbs : Int).tmod 10 by rw [← e]]; rfl
  rw [h1, h2]
  unfold num
  rw [if_neg (by omega), if_neg (by omega), if_neg (by omega), dec_big (by omega)]
  simp only [Int.natAbs_natCast]
theorem wrap_in {n : Int} (h : inI n) : IntKind.i64.wrap n = n := by
  unfold inI at h
  rw [IntKind.wrap_i64]
  omega
theorem td_abs (n : Int) : (n.tdiv 10).natAbs = n.natAbs / 10 := by
  rcases Int.lt_or_le n 0 with h | h
  · rw [show n = -(n.natAbs : Int) by omega, Int.neg_tdiv, show (n.natAbs : Int).tdiv 10 = ((n.natAbs / 10 : Nat) : Int) from rfl]; omega
  · rw [show n.tdiv 10 = (n.natAbs : Int).tdiv 10 by rw [← show n = (n.natAbs : Int) by omega], show (n.natAbs : Int).tdiv 10 = ((n.natAbs / 10 : Nat) : Int) from rfl]; omega
theorem tm_abs (n : Int) : (n.tmod 10).natAbs = n.natAbs % 10 := by
  rcases Int.lt_or_le n 0 with h | h
  · rw [show n = -(n.natAbs : Int) by omega, Int.neg_tmod, show (n.natAbs : Int).tmod 10 = ((n.natAbs % 10 : Nat) : Int) from rfl]; omega
  · rw [show n.tmod 10 = (n.natAbs : Int).tmod 10 by rw [← show n = (n.natAbs : Int) by omega], show (n.natAbs : Int).tmod 10 = ((n.natAbs % 10 : Nat) : Int) from rfl]; omega
theorem tm_pos {n : Int} (h : 0 ≤ n) : 0 ≤ n.tmod 10 := Int.tmod_nonneg 10 h
theorem tm_neg {n : Int} (h : n ≤ 0) : 0 ≤ -(n.tmod 10) := by
  have := Int.tmod_nonneg 10 (show 0 ≤ -n by omega)
  rw [Int.neg_tmod] at this
  exact this
theorem wrap_add1 {n : Int} (h : ¬ n < 0) (h' : n < 10) : IntKind.i64.wrap (n + 1) = n + 1 := wrap_in (by unfold inI; omega)
theorem wrap_quo {n : Int} (h : inI n) : IntKind.i64.wrap (n.tdiv 10) = n.tdiv 10 := wrap_in (by have := td_abs n; unfold inI at *; omega)
theorem wrap_neg {n : Int} (h : inI n) (h' : ¬ n ≤ -10) : IntKind.i64.wrap (0 - n) = -n := by
  rw [Int.zero_sub]; exact wrap_in (by unfold inI at *; omega)
theorem wrap_nrem {n : Int} : IntKind.i64.wrap (0 - n.tmod 10) = -(n.tmod 10) := by
  rw [Int.zero_sub]; exact wrap_in (by have := tm_abs n; unfold inI; omega)
end Go.Proofs.YtjbajnkbiohoeaaDoor

namespace Go.Proofs.YtjbajnkbiohoeaaDoor
open Go Go.Dw
inductive Ty where
  | mk (kind : Int) (name : List UInt8) (var : Int) (args : List Ty)
def Ty.kind : Ty → Int | .mk k _ _ _ => k
def Ty.name : Ty → List UInt8 | .mk _ k _ _ => k
def Ty.var : Ty → Int | .mk _ _ k _ => k
def Ty.args : Ty → List Ty | .mk _ _ _ k => k
mutual
def Ty.cells : Ty → List D
  | .mk k n v l => [.int .i64 k, .str n, .int .i64 v, .sl false 4 (Ty.cellsL l)]
def Ty.cellsL : List Ty → List (List D)
  | [] => []
  | t :: r => t.cells :: Ty.cellsL r
end
theorem Ty.cells_eq (t : Ty) : t.cells = [.int .i64 t.kind, .str t.name, .int .i64 t.var, .sl false 4 (Ty.cellsL t.args)] := by cases t; rfl
theorem Ty.cellsL_eq : ∀ ts : List Ty, Ty.cellsL ts = ts.map Ty.cells
  | [] => rfl
  | t :: r => by simp [Ty.cellsL, Ty.cellsL_eq r]
theorem cellsL_length (ts : List Ty) : (Ty.cellsL ts).length = ts.length := by rw [Ty.cellsL_eq, List.length_map]
theorem cellsL_at {ts pre suf : List Ty} {a : Ty} (h : ts = pre ++ a :: suf) : (Ty.cellsL ts).getD (Int.toNat (pre.length : Int)) [] = a.cells := by
  rw [Ty.cellsL_eq, h]
  simp

/-- What a type's text is made of: how much it weighs. -/
def tag (k : Int) : Bool := k == 1 || k == 5
mutual
def Ty.text : Ty → List UInt8
  | .mk k n v l => num k ++ [60] ++ (if k = 0 then num v else []) ++ (if tag k then num n.length ++ [58] ++ n else []) ++ Ty.textL l ++ [62]
def Ty.textL : List Ty → List UInt8
  | [] => []
  | t :: r => [59] ++ t.text ++ Ty.textL r
end
theorem Ty.text_eq (t : Ty) : t.text = num t.kind ++ [60] ++ (if t.kind = 0 then num t.var else []) ++ (if tag t.kind then num t.name.length ++ [58] ++ t.name else []) ++ Ty.textL t.args ++ [62] := by cases t; simp only [Ty.text, Ty.kind, Ty.var, Ty.name, Ty.args]; rfl
theorem textL_append : ∀ a b : List Ty, Ty.textL (a ++ b) = Ty.textL a ++ Ty.textL b
  | [], b => rfl
  | t :: r, b => by simp [Ty.textL, textL_append r b]
mutual
def Ty.wt : Ty → Nat
  | .mk _ n _ l => 100 + n.length + Ty.wtL l
def Ty.wtL : List Ty → Nat
  | [] => 0
  | t :: r => 1 + t.wt + Ty.wtL r
end
theorem Ty.wt_eq (t : Ty) : t.wt = 100 + t.name.length + Ty.wtL t.args := by cases t; simp only [Ty.wt, Ty.name, Ty.args]
theorem wtL_append : ∀ a b : List Ty, Ty.wtL (a ++ b) = Ty.wtL a + Ty.wtL b
  | [], b => by simp [Ty.wtL]
  | t :: r, b => by simp [Ty.wtL, wtL_append r b]; omega
theorem length_wtL : ∀ l : List Ty, l.length ≤ Ty.wtL l
  | [] => by simp
  | t :: r => by have := length_wtL r; simp [Ty.wtL]; omega
-- Numbers in range, and of bounded weight.
mutual
def Ty.ok : Ty → Prop
  | .mk k n v l => inI k ∧ inI v ∧ n.length ≤ 1000000000 ∧ Ty.okL l
def Ty.okL : List Ty → Prop
  | [] => True
  | t :: r => t.ok ∧ Ty.okL r
end
theorem Ty.ok_eq (t : Ty) : t.ok ↔ inI t.kind ∧ inI t.var ∧ t.name.length ≤ 1000000000 ∧ Ty.okL t.args := by cases t; simp only [Ty.ok, Ty.kind, Ty.var, Ty.name, Ty.args]
theorem okL_append : ∀ a b : List Ty, Ty.okL (a ++ b) ↔ Ty.okL a ∧ Ty.okL b
  | [], b => by simp [Ty.okL]
  | t :: r, b => by simp [Ty.okL, okL_append r b, and_assoc]
theorem okL_mem : ∀ {l : List Ty}, Ty.okL l → ∀ t ∈ l, t.ok
  | t :: r, h, x, hx => by
    rcases List.mem_cons.1 hx with rfl | hx
    · exact h.1
    · exact okL_mem h.2 x hx
theorem wtL_mem : ∀ {l : List Ty} {t : Ty}, t ∈ l → t.wt < Ty.wtL l
  | t :: r, x, hx => by
    rcases List.mem_cons.1 hx with rfl | hx
    · simp [Ty.wtL]; omega
    · have := wtL_mem hx; simp [Ty.wtL]; omega
theorem wt_arg {t a : Ty} (h : a ∈ t.args) : a.wt < t.wt := by
  have := wtL_mem h
  rw [t.wt_eq]; omega
theorem ok_arg {t a : Ty} (ht : t.ok) (h : a ∈ t.args) : a.ok := okL_mem (t.ok_eq.1 ht).2.2.2 a h
theorem inI_len {n : List UInt8} (h : n.length ≤ 1000000000) : inI n.length := by unfold inI; omega
mutual
theorem text_length : ∀ t : Ty, t.ok → t.text.length ≤ t.wt
  | .mk k n v l, h => by
    simp only [Ty.ok] at h
    have h1 := num_length h.1
    have h2 := num_length h.2.1
    have h3 := num_length (inI_len h.2.2.1)
    have h4 := textL_length l h.2.2.2
    simp only [Ty.text, Ty.wt, List.length_append, List.length_cons, List.length_nil]
    split <;> split <;> simp only [List.length_append, List.length_cons, List.length_nil] <;> omega
theorem textL_length : ∀ l : List Ty, Ty.okL l → (Ty.textL l).length ≤ Ty.wtL l
  | [], _ => by simp [Ty.textL]
  | t :: r, h => by
    have h1 := text_length t h.1
    have h2 := textL_length r h.2
    simp only [Ty.textL, Ty.wtL, List.length_append, List.length_cons, List.length_nil]
    omega
end
end Go.Proofs.YtjbajnkbiohoeaaDoor

namespace Go.Proofs.YtjbajnkbiohoeaaDoor
open Go Go.Dw
-- Equality of types, as the program reckons it.
mutual
def same : Ty → Ty → Bool
  | .mk k n v l, .mk k' n' v' l' => decide (k = k') && (decide (k ≠ 0) || decide (v = v')) && (decide (k ≠ 1) && decide (k ≠ 5) || decide (n = n')) && sameL l l'
def sameL : List Ty → List Ty → Bool
  | [], [] => true
  | a :: r, b :: s => same a b && sameL r s
  | _, _ => false
end
theorem same_eq (a b : Ty) : same a b = (decide (a.kind = b.kind) && (decide (a.kind ≠ 0) || decide (a.var = b.var)) && (decide (a.kind ≠ 1) && decide (a.kind ≠ 5) || decide (a.name = b.name)) && sameL a.args b.args) := by
  cases a; cases b; simp only [same, Ty.kind, Ty.var, Ty.name, Ty.args]; rfl
theorem sameL_length : ∀ {l s : List Ty}, sameL l s = true → l.length = s.length
  | [], [], _ => rfl
  | a :: r, b :: s, h => by
    simp only [sameL, Bool.and_eq_true] at h
    simp [sameL_length h.2]
  | [], b :: s, h => by simp [sameL] at h
  | a :: r, [], h => by simp [sameL] at h
theorem sameL_append : ∀ {p q : List Ty} (r s : List Ty), p.length = q.length → sameL (p ++ r) (q ++ s) = (sameL p q && sameL r s)
  | [], [], r, s, _ => by simp [sameL]
  | a :: p, b :: q, r, s, h => by simp [sameL, sameL_append r s (show p.length = q.length by simpa using h), Bool.and_assoc]
  | [], b :: q, _, _, h => by simp at h
  | a :: p, [], _, _, h => by simp at h
theorem sameL_ne {l s : List Ty} (h : l.length ≠ s.length) : sameL l s = false := by
  cases hb : sameL l s with
  | false => rfl
  | true => exact absurd (sameL_length hb) h
end Go.Proofs.YtjbajnkbiohoeaaDoor

namespace Go.Proofs.YtjbajnkbiohoeaaDoor
open Go Go.Dw
def arityOf (k : Int) : Int := if k = 0 then 0 else if k = 1 then -1 else if k = 2 then 3 else if k = 3 then 1 else if k = 4 then 0 else 2
def arityD : List D := [.int .i64 0, .int .i64 (-1), .int .i64 3, .int .i64 1, .int .i64 0, .int .i64 2]
def isFar (s : List UInt8) : Bool := decide (s = []) || decide ((s.length : Int) > 200)
def badForm (k : Int) (len : Nat) : Bool := decide (k < 0) || decide (k > 5) || (decide (arityOf k ≥ 0) && decide ((len : Int) ≠ arityOf k)) || decide ((len : Int) > 8)
mutual
def err : Ty → Int → Int → Int
  | .mk k n v l, vars, deep =>
    if deep > 30 then 2 else if badForm k l.length then 3 else if k = 0 ∧ (v < 0 ∨ v ≥ vars) then 4 else if (k = 1 ∨ k = 5) ∧ isFar n then 3 else errL l vars (deep + 1)
def errL : List Ty → Int → Int → Int
  | [], _, _ => 0
  | a :: r, vars, deep => if err a vars deep ≠ 0 then err a vars deep else errL r vars deep
end
theorem err_eq (t : Ty) (vars deep : Int) : err t vars deep =
    if deep > 30 then 2 else if badForm t.kind t.args.length then 3 else if t.kind = 0 ∧ (t.var < 0 ∨ t.var ≥ vars) then 4 else if (t.kind = 1 ∨ t.kind = 5) ∧ isFar t.name then 3 else errL t.args vars (deep + 1) := by
  cases t; simp only [err, Ty.kind, Ty.var, Ty.name, Ty.args]; rfl
theorem loadArity {k : Int} {K : D → Prop} (h0 : 0 ≤ k) (h5 : k ≤ 5) (h : K (.int .i64 (arityOf k))) : loadD false 1 (List.drop (k.toNat * 1) arityD) K := by
  have : k = 0 ∨ k = 1 ∨ k = 2 ∨ k = 3 ∨ k = 4 ∨ k = 5 := by omega
  rcases this with rfl | rfl | rfl | rfl | rfl | rfl <;> exact h
theorem indexArity {k : Int} {K : D → Prop} (S : List (Nat × O)) (h0 : 0 ≤ k) (h5 : k ≤ 5) (h : K (.rp (List.drop (k.toNat * 1) arityD))) : indexAddrN Tryd.prog S 51 (.rp arityD) (.int .i64 k) K := by
  simp only [indexAddrN, ar51, withO_some]
  exact ⟨h0, by show k < 6; omega, h⟩
end Go.Proofs.YtjbajnkbiohoeaaDoor

namespace Go.Proofs.YtjbajnkbiohoeaaDoor
open Go Go.Dw
abbrev Fd := List (Int × Ty)
def es (f : Fd) : List (D × D) := f.map fun p => (.int .i64 p.1, .agg p.2.cells)
def fget : Fd → Int → Option Ty
  | [], _ => none
  | (k, t) :: r, v => if v = k then some t else fget r v
theorem findD_es (v : Int) : ∀ f : Fd, findD (.int .i64 v) (es f) = some ((fget f v).map fun t => .agg t.cells)
  | [] => rfl
  | (k, t) :: r => by
    have ih := findD_es v r
    simp only [es, List.map_cons, findD, keyEq, if_true, fget]
    by_cases h : v = k
    · simp [h]
    · simp only [h, decide_false, if_false]; exact ih
theorem unlook_es {v : Int} {b : Ty} : ∀ {f : Fd}, fget f v = none → unlook (.int .i64 v) (.agg b.cells) (es f) = some (es (f ++ [(v, b)]))
  | [], _ => rfl
  | (k, t) :: r, h => by
    simp only [fget] at h
    split at h
    · cases h
    · rename_i hk
      have ih := unlook_es (b := b) h
      simp only [es, List.map_cons, unlook, keyEq, if_true, hk, decide_false, List.cons_append] at ih ⊢
      rw [ih]; rfl
mutual
def inst : Ty → Ty → Fd → Bool × Fd
  | .mk k n v l, b, f =>
    if k = 0 then (match fget f v with | some t => (same t b, f) | none => (true, f ++ [(v, b)]))
    else if decide (k ≠ b.kind) || ((decide (k = 1) || decide (k = 5)) && decide (n ≠ b.name)) then (false, f)
    else if l.length ≠ b.args.length then (false, f) else instL l b.args f
def instL : List Ty → List Ty → Fd → Bool × Fd
  | a :: r, b :: s, f => if (inst a b f).1 then instL r s (inst a b f).2 else (false, (inst a b f).2)
  | _, _, f => (true, f)
end
def instA (l s : List Ty) (f : Fd) : Bool × Fd := if l.length ≠ s.length then (false, f) else instL l s f
theorem inst_eq (a b : Ty) (f : Fd) : inst a b f = (if a.kind = 0 then (match fget f a.var with | some t => (same t b, f) | none => (true, f ++ [(a.var, b)]))
    else if decide (a.kind ≠ b.kind) || ((decide (a.kind = 1) || decide (a.kind = 5)) && decide (a.name ≠ b.name)) then (false, f)
    else instA a.args b.args f) := by
  cases a; simp only [inst, Ty.kind, Ty.var, Ty.name, Ty.args, instA]; rfl
theorem inst_f1 {a b : Ty} {f : Fd} (h0 : ¬ a.kind = 0) (h : ¬ a.kind = b.kind) : inst a b f = (false, f) := by rw [inst_eq]; simp [h0, h]
theorem inst_f2 {a b : Ty} {f : Fd} (h0 : ¬ a.kind = 0) (h1 : a.kind = 1) (h : ¬ a.name = b.name) : inst a b f = (false, f) := by rw [inst_eq]; simp [h1, h]
theorem inst_f5 {a b : Ty} {f : Fd} (h0 : ¬ a.kind = 0) (h1 : a.kind = 5) (h : ¬ a.name = b.name) : inst a b f = (false, f) := by rw [inst_eq]; simp [h1, h]
theorem inst_g1 {a b : Ty} {f : Fd} (h0 : ¬ a.kind = 0) (hk : a.kind = b.kind) (h : a.name = b.name) : inst a b f = instA a.args b.args f := by rw [inst_eq]; rw [hk] at h0; simp [h0, h, hk]
theorem inst_g2 {a b : Ty} {f : Fd} (h0 : ¬ a.kind = 0) (hk : a.kind = b.kind) (h1 : ¬ a.kind = 1) (h5 : ¬ a.kind = 5) : inst a b f = instA a.args b.args f := by rw [inst_eq]; rw [hk] at h0 h1 h5; simp [h0, h1, h5, hk]
def okF (f : Fd) : Prop := ∀ p ∈ f, p.2.wt ≤ 1000000000000
theorem okF_get {v : Int} {t : Ty} : ∀ {f : Fd}, okF f → fget f v = some t → t.wt ≤ 1000000000000
  | (k, u) :: r, h, hg => by
    simp only [fget] at hg
    split at hg
    · cases hg; exact h _ List.mem_cons_self
    · exact okF_get (fun p hp => h p (List.mem_cons_of_mem _ hp)) hg
mutual
theorem inst_ok : ∀ (a b : Ty) (f : Fd), okF f → b.wt ≤ 1000000000000 → okF (inst a b f).2
  | .mk k n v l, b, f, hf, hb => by
    unfold inst
    split
    · split
      · exact hf
      · intro p hp
        rcases List.mem_append.1 hp with hp | hp
        · exact hf p hp
        · rw [List.mem_singleton.1 hp]; exact hb
    · split
      · exact hf
      · split
        · exact hf
        · exact instL_ok l b.args f hf (fun c hc => Nat.le_trans (Nat.le_of_lt (wt_arg hc)) hb)
theorem instL_ok : ∀ (l s : List Ty) (f : Fd), okF f → (∀ b ∈ s, b.wt ≤ 1000000000000) → okF (instL l s f).2
  | [], s, f, hf, hs => by unfold instL; exact hf
  | a :: l, [], f, hf, hs => by unfold instL; exact hf
  | a :: l, b :: s, f, hf, hs => by
    simp only [instL]
    have h1 := inst_ok a b f hf (hs b List.mem_cons_self)
    split
    · exact instL_ok l s _ h1 (fun c hc => hs c (List.mem_cons_of_mem _ hc))
    · exact h1
end
end Go.Proofs.YtjbajnkbiohoeaaDoor
