/-
  The eighth part of a program logic over deep data: stepN, what an operation that leaves the store alone makes of deep data; and that it holds in every world (stepN_sound).
  It speaks of any program; no condition.
  The ninth part of a program logic over deep data: stepN, what an operation that leaves the store alone makes of deep data; and that it holds in every world (stepN_sound).
  It speaks of any program; no condition.
  The tenth part of a program logic over deep data: each operation of stepN, in every world.
  It speaks of any program; no condition.
  The eleventh part of a program logic over deep data: slices, appends, calls and look-ups, and stepN_sound: what stepN says holds in every world.
  It speaks of any program; no condition.
  The twelfth part of a program logic over deep data: stepN_sound: what stepN says holds in every world.
  It speaks of any program; no condition.
-/
import Derived.Test.YtjbajnkbiohoeaaDoorDw2
namespace Go.Dw
open Go Go.RowKit

/-! ### Each answer is one answer -/

theorem loadD_det {a : Bool} {n : Nat} {cs : List D} {K : D → Prop} (h : loadD a n cs K) : ∃ d, K d ∧ loadD a n cs (· = d) := by
  cases a with
  | true => exact ⟨_, h.2, h.1, rfl⟩
  | false => cases cs with
    | nil => exact h.elim
    | cons c cs => exact ⟨c, h, rfl⟩
theorem intBin_det {op : BinOp} {k : IntKind} {a b : Int} {K : D → Prop} (h : intBin op k a b K) : ∃ d, K d ∧ intBin op k a b (· = d) := by
  cases op <;> simp only [intBin] at h ⊢ <;> first | exact h.elim | exact ⟨_, h, rfl⟩ | exact ⟨_, h.2, h.1, rfl⟩
theorem strBin_det {op : BinOp} {a b : List UInt8} {K : D → Prop} (h : strBin op a b K) : ∃ d, K d ∧ strBin op a b (· = d) := by
  cases op <;> simp only [strBin] at h ⊢ <;> first | exact h.elim | exact ⟨_, h, rfl⟩ | exact ⟨_, h.2, h.1, rfl⟩
theorem eqD_det {P : Program} {t : TypeId} {x y : D} {K : Bool → Prop} (h : eqD P t x y K) : ∃ b, K b ∧ eqD P t x y (· = b) := by
  unfold eqD at h ⊢
  split at h <;> first | exact h.elim | exact ⟨_, h, rfl⟩ | exact ⟨_, h.2, h.1, rfl⟩
theorem eqD_mono {P : Program} {t : TypeId} {x y : D} {K K' : Bool → Prop} (hk : ∀ b, K b → K' b) (h : eqD P t x y K) : eqD P t x y K' := by
  unfold eqD at h ⊢
  split at h <;> first | exact h.elim | exact hk _ h | exact ⟨h.1, hk _ h.2⟩
theorem binD_det {P : Program} {op : BinOp} {t : TypeId} {x y : D} {K : D → Prop} (h : binD P op t x y K) : ∃ d, K d ∧ binD P op t x y (· = d) := by
  unfold binD at h ⊢
  split at h
  · obtain ⟨d, h1, h2⟩ := intBin_det h.2
    exact ⟨d, h1, h.1, h2⟩
  · exact strBin_det h
  · split at h
    · obtain ⟨b, h1, h2⟩ := eqD_det h
      exact ⟨_, h1, eqD_mono (fun c hc => by subst hc; rfl) h2⟩
    · obtain ⟨b, h1, h2⟩ := eqD_det h
      exact ⟨_, h1, eqD_mono (fun c hc => by subst hc; rfl) h2⟩
    · exact h.elim
theorem fillD_det {place : Nat → Option (Nat × Nat)} : ∀ (qs : List (Nat × D)) (cs : List D) {K : List D → Prop}, fillD place qs cs K → ∃ ds, K ds ∧ fillD place qs cs (· = ds)
  | [], cs, K, h => ⟨cs, h, rfl⟩
  | (i, d) :: r, cs, K, h => by
    simp only [fillD] at h ⊢
    cases hp : place i with
    | none => rw [hp] at h; exact h.elim
    | some p =>
      rw [hp] at h
      obtain ⟨h1, h2, h3, h4⟩ := h
      obtain ⟨ds, h5, h6⟩ := fillD_det r _ h4
      exact ⟨ds, h5, h1, h2, h3, h6⟩


/-! ### The operations -/

def flat1 : D → Bool
  | .int _ _ | .bool _ | .str _ => true
  | _ => false
def D.flat : D → Bool
  | .tup ds => ds.all flat1
  | .agg ds => ds.all flat1
  | d => flat1 d
theorem R_flat1 {w w' : World} {M M' : Nat → Prop} {v : Value} {d : D} (hf : flat1 d = true) (h : R w M v d) : R w' M' v d := by
  cases h <;> simp [flat1] at hf
  · exact .int _ _
  · exact .bool _
  · exact .str _ _ ‹_›
theorem R_flat {w w' : World} {M M' : Nat → Prop} {v : Value} {d : D} (hf : d.flat = true) (h : R w M v d) : R w' M' v d := by
  cases d with
  | tup ds =>
    simp only [D.flat, List.all_eq_true] at hf
    cases h with
    | tup cs ds hl h => exact .tup _ _ hl (fun i v d hv hd => R_flat1 (hf d (List.mem_of_getElem? hd)) (h i v d hv hd))
  | agg ds =>
    simp only [D.flat, List.all_eq_true] at hf
    cases h with
    | agg cs ds hl h => exact .agg _ _ hl (fun i v d hv hd => R_flat1 (hf d (List.mem_of_getElem? hd)) (h i v d hv hd))
  | int k n => exact R_flat1 rfl h
  | bool b => exact R_flat1 rfl h
  | str s => exact R_flat1 rfl h
  | _ => simp [D.flat, flat1] at hf

/-- The part of a store with the keys ks. -/
def sub (S : List (Nat × O)) : List Nat → List (Nat × O)
  | [] => []
  | k :: ks => match look k S with
    | some o => (k, o) :: sub S ks
    | none => sub S ks
theorem look_sub {S : List (Nat × O)} {g : Nat} : ∀ {ks : List Nat} {o : O}, look g (sub S ks) = some o ↔ g ∈ ks ∧ look g S = some o
  | [], o => by simp [sub, look]
  | k :: ks, o => by
    have ih := look_sub (S := S) (g := g) (ks := ks) (o := o)
    simp only [sub]
    cases hk : look k S with
    | none =>
      simp only [ih, List.mem_cons]
      constructor
      · rintro ⟨h1, h2⟩; exact ⟨.inr h1, h2⟩
      · rintro ⟨h1 | h1, h2⟩
        · subst h1; rw [hk] at h2; cases h2
        · exact ⟨h1, h2⟩
    | some o' =>
      simp only [look]
      by_cases hg : k = g
      · subst hg
        simp [hk]
      · rw [if_neg hg, ih]
        simp [Ne.symm hg]

/-- Arguments handed over: weakened; slices that the caller goes on appending to are lent. -/
inductive Lent (S : List (Nat × O)) (bw : List Nat) : List D → List D → Prop
  | nil : Lent S bw [] []
  | cons {d e : D} {ds es : List D} (h : Le d e) (k : Lent S bw ds es) : Lent S bw (d :: ds) (e :: es)
  | own {g : Nat} {A : Option Addr} {n cap : Nat} {e : TypeId} {size : Nat} {es : List (List D)} {ds fs : List D} (hg : g ∈ bw) (hl : look g S = some (.row A n cap e size es)) (k : Lent S bw ds fs) :
      Lent S bw (.own g A n cap :: ds) (.sl false size es :: fs)
theorem Lent.of_le {S : List (Nat × O)} {bw : List Nat} {ds es : List D} (h : LeL ds es) : Lent S bw ds es := by
  induction h with
  | nil => exact .nil
  | cons h _ ih => exact .cons h ih

/-- The blocks that a callee can't reach. -/
def Rest (X : Nat → Prop) (S : List (Nat × O)) (ks bw : List Nat) (b : Nat) : Prop := X b ∨ ∃ g o, look g S = some o ∧ o.blk = some b ∧ g ∉ ks ∧ g ∉ bw

theorem Mx_rest {X : Nat → Prop} {S : List (Nat × O)} {ks bw : List Nat} {b : Nat} (h : Mx (Rest X S ks bw) (sub S ks) b) : Mx X S b := by
  rcases h with (h | ⟨g, o, h1, h2, _⟩) | ⟨g, o, h1, h2⟩
  · exact .inl h
  · exact .inr ⟨g, o, h1, h2⟩
  · exact .inr ⟨g, o, (look_sub.1 h1).2, h2⟩
theorem Mx_rest_nil {X : Nat → Prop} {S : List (Nat × O)} {ks : List Nat} {b : Nat} (h : Mx X S b) : Mx (Rest X S ks []) (sub S ks) b := by
  rcases h with h | ⟨g, o, h1, h2⟩
  · exact .inl (.inl h)
  · by_cases hk : g ∈ ks
    · exact .inr ⟨g, o, look_sub.2 ⟨hk, h1⟩, h2⟩
    · exact .inl (.inr ⟨g, o, h1, h2, hk, by simp⟩)

theorem Stor.sub {w : World} {X : Nat → Prop} {S : List (Nat × O)} (h : Stor w X S) (ks bw : List Nat) : Stor w (Rest X S ks bw) (sub S ks) where
  obj := fun g o hg => (h.obj g o (look_sub.1 hg).2).mono (Ext.refl Non w) (fun _ _ hf => hf.elim) (fun _ _ hn hm => hn (Mx_rest hm)) (fun _ _ hf => hf)
  one := fun g g' o o' b h1 h2 => h.one g g' o o' b (look_sub.1 h1).2 (look_sub.1 h2).2
  x := fun b hb => by
    rcases hb with hb | ⟨g, o, h1, h2, _⟩
    · exact h.x b hb
    · exact (h.obj g o h1).lt b h2
  sep := fun g o b hg hb hx => by
    obtain ⟨hk, hl⟩ := look_sub.1 hg
    rcases hx with hx | ⟨g', o', h1, h2, h3, _⟩
    · exact h.sep g o b hl hb hx
    · have := h.one g g' o o' b hl h1 hb h2
      subst this
      exact h3 hk

/-- What an own row holds, as cells. -/
theorem ObjR.row_cells {w : World} {M : Nat → Prop} {A : Option Addr} {n cap : Nat} {e : TypeId} {size : Nat} {es : List (List D)} (h : ObjR w M (.row A n cap e size es)) :
    n = es.length ∧ (∀ x ∈ es, x.length = size) ∧ es.length ≤ cap ∧ cap ≤ maxLen ∧ ((A = none ∧ es = [] ∧ cap = 0) ∨ ∃ b, A = some ⟨b, 0, none⟩ ∧ b < w.heap.size ∧ CellsAt w M ⟨b, 0, none⟩ es.flatten) := by
  obtain ⟨rfl, hsz, xs, hown, hr⟩ := h
  rcases hown.2 with ⟨hv, h0⟩ | ⟨g, cap', cur, hv, _, hg, hle, hm, hcs, htake⟩
  · injection hv with h1 h2 h3
    have : es = [] := List.eq_nil_of_length_eq_zero h0
    subst this
    exact ⟨rfl, hsz, by simp, by omega, .inl ⟨h1, rfl, h3⟩⟩
  · injection hv with h1 h2 h3
    subst h3
    refine ⟨rfl, hsz, hle, hm, .inr ⟨g, h1, (Array.getElem?_eq_some_iff.1 hg).1, xs, hr, ?_⟩⟩
    exact hown.cells (g := g) (by rw [h1]; rfl)

theorem Lent.sound {S : List (Nat × O)} {ks bw : List Nat} {ds es : List D} (h : Lent S bw ds es) (hkb : ∀ k ∈ ks, k ∉ bw) {w : World} {X : Nat → Prop} (hS : Stor w X S) :
    ∀ {vs : List Value}, Rl w (Mx X S) vs ds → Rl w (Mx (Rest X S ks bw) (Go.Dw.sub S ks)) vs es := by
  induction h with
  | nil => intro vs hr; exact ⟨hr.1, fun i v d _ hd => by simp at hd⟩
  | cons h _ ih =>
    intro vs hr
    cases vs with
    | nil => simp [Rl] at hr
    | cons v vs => exact .cons (h.sound (hr.head.less fun b hb => Mx_rest hb)) (ih hr.tail)
  | @own g A n cap e size es ds fs hg hl _ ih =>
    intro vs hr
    cases vs with
    | nil => simp [Rl] at hr
    | cons v vs =>
      refine .cons ?_ (ih hr.tail)
      have hv := hr.head
      cases hv
      obtain ⟨rfl, hsz, hle, hm, hA⟩ := (hS.obj _ _ hl).row_cells
      rcases hA with ⟨rfl, rfl, rfl⟩ | ⟨b, rfl, hb, hc⟩
      · exact R.sl_mk (ad := default) rfl (by simp) (by simp) (by simp) (by simp) (by simp) (by simp)
      · have hnot : ¬ Mx (Rest X S ks bw) (Go.Dw.sub S ks) b := by
          rintro ((hx | ⟨g', o', h1, h2, _, h4⟩) | ⟨g', o', h1, h2⟩)
          · exact hS.sep _ _ b hl rfl hx
          · have := hS.one g g' _ o' b hl h1 rfl h2
            subst this
            exact h4 hg
          · obtain ⟨h3, h4⟩ := look_sub.1 h1
            have := hS.one g g' _ o' b hl h4 rfl h2
            subst this
            exact hkb _ h3 hg
        refine R.sl_mk (ad := ⟨b, 0, none⟩) rfl hle (by simp) (by omega) hsz (fun _ => ⟨rfl, hb, hnot⟩) ?_
        have hc' : CellsAt w (Mx (Rest X S ks bw) (Go.Dw.sub S ks)) ⟨b, 0, none⟩ (es.flatten ++ []) := by
          obtain ⟨vs, h1, h2⟩ := hc
          exact ⟨vs, by simpa using h1.mono (Ext.refl Non w) (fun _ _ hf => hf.elim) (fun _ _ hn hm => hn (Mx_rest hm)), h2⟩
        exact hc'.elems hsz

end Go.Dw

namespace Go.Dw
open Go Go.RowKit

/-- The cells behind a pointer. -/
def behind (S : List (Nat × O)) (d : D) (K : List D → Prop) : Prop :=
  match d with
  | .rp cs => K cs
  | .ref g b off =>
    match look g S with
    | some (.cells b' cs) => b' = b ∧ K (cs.drop off)
    | some (.row (some ad) _ _ _ _ es) => ad.block = b ∧ K (es.flatten.drop off)
    | _ => False
  | _ => False
def loadN (P : Program) (S : List (Nat × O)) (t : TypeId) (d : D) (K : D → Prop) : Prop :=
  withO (layOf P t) fun l => behind S d fun cs => loadD l.1 l.2.1 cs K
def fieldAddrN (P : Program) (t : TypeId) (d : D) (i : Nat) (K : D → Prop) : Prop :=
  withO (fldOf P t i) fun f => 0 < f.2.2 ∧ match d with
    | .rp cs => K (.rp (cs.drop f.1))
    | .ref g b off => K (.ref g b (off + f.1))
    | _ => False
def fieldN (P : Program) (t : TypeId) (d : D) (i : Nat) (K : D → Prop) : Prop :=
  withO (fldOf P t i) fun f => withO (layOf P f.2.1) fun l => match d with
    | .agg cs => loadD l.1 l.2.1 (cs.drop f.1) K
    | _ => False
def indexAddrN (P : Program) (S : List (Nat × O)) (t : TypeId) (d i : D) (K : D → Prop) : Prop :=
  match d, i with
  | .sl _ k es, .int _ n => withO (elOf P t) fun e => e.2 = k ∧ 0 ≤ n ∧ n < es.length ∧ K (.rp (es.getD n.toNat []))
  | .own g A m cap, .int _ n => withO (elOf P t) fun e => 0 ≤ n ∧ n < m ∧ match look g S with
      | some (.row A' m' cap' _ k _) => A' = A ∧ m' = m ∧ cap' = cap ∧ k = e.2 ∧ K (.ref g (A.getD default).block (n.toNat * k))
      | _ => False
  | .rp cs, .int _ n => withO (arOf P t) fun e => 0 ≤ n ∧ n < e.1 ∧ K (.rp (cs.drop (n.toNat * e.2.2)))
  | .ref g b off, .int _ n => withO (arOf P t) fun e => 0 ≤ n ∧ n < e.1 ∧ K (.ref g b (off + n.toNat * e.2.2))
  | _, _ => False
def indexN (P : Program) (t : TypeId) (d i : D) (K : D → Prop) : Prop :=
  match d, i with
  | .str l, .int _ n => P.underlying t = some .string ∧ 0 ≤ n ∧ n < l.length ∧ K (.int .u8 (l.getD n.toNat 0).toNat)
  | .agg cs, .int _ n => withO (arOf P t) fun e => withO (layOf P e.2.1) fun l => l.2.1 = e.2.2 ∧ 0 ≤ n ∧ n < e.1 ∧ loadD l.1 l.2.1 (cs.drop (n.toNat * e.2.2)) K
  | _, _ => False
/-- A bound of a slice expression. -/
def boundD (o : Option D) (dflt : Nat) (K : Int → Prop) : Prop :=
  match o with
  | none => K dflt
  | some (.int _ n) => K n
  | _ => False
def sliceN (P : Program) (t : TypeId) (d : D) (lo hi : Option D) (K : D → Prop) : Prop :=
  match d with
  | .str l => P.underlying t = some .string ∧ boundD hi l.length fun h => boundD lo 0 fun b => 0 ≤ b ∧ b ≤ h ∧ h ≤ l.length ∧ K (.str ((l.take h.toNat).drop b.toNat))
  | .sl f k es => withO (elOf P t) fun e => e.2 = k ∧ boundD hi es.length fun h => boundD lo 0 fun b => 0 ≤ b ∧ b ≤ h ∧ h ≤ es.length ∧ K (.sl (f && hi.isNone) k ((es.take h.toNat).drop b.toNat))
  | _ => False
def convN (P : Program) (src dst : TypeId) (d : D) (K : D → Prop) : Prop :=
  (P.underlying src).isSome = true ∧ match P.underlying dst, d with
  | some (.int k), .int _ n => K (.int k (k.wrap n))
  | some .string, .str s => K (.str s)
  | some .string, .int _ n => K (.str (Utf8.encode n).data.toList)
  | _, _ => False
def lenN (P : Program) (S : List (Nat × O)) (t : TypeId) (d : D) (K : D → Prop) : Prop :=
  match P.underlying t, d with
  | some .string, .str l => K (.int .i64 l.length)
  | some (.slice _), .sl _ _ es => K (.int .i64 es.length)
  | some (.slice _), .nil => K (.int .i64 0)
  | some (.slice _), .own _ _ n _ => K (.int .i64 n)
  | some (.map _ _), .mnil => K (.int .i64 0)
  | some (.map _ _), .mapr g r => match look g S with
      | some (.map r' es) => r' = r ∧ K (.int .i64 es.length)
      | _ => False
  | some (.array n _), _ => K (.int .i64 n)
  | _, _ => False
def unN (op : UnOp) (d : D) (K : D → Prop) : Prop :=
  match op, d with
  | .not, .bool b => K (.bool !b)
  | .neg, .int k n => K (.int k (k.wrap (0 - n)))
  | _, _ => False
/-- An append whose first slice is at its capacity. -/
def appN (P : Program) (t : TypeId) (s x : D) (K : D → Prop) : Prop :=
  withO (elOf P t) fun e => withO (layOf P e.1) fun l => l.2.1 = e.2 ∧ (zeroOf P e.1).isSome = true ∧
    match s, x with
    | .nil, .sl _ k es' => k = e.2 ∧ Room es'.length l.2.2 ∧ K (.sl false k es')
    | .sl true k es, .sl _ k' es' => k = e.2 ∧ k' = e.2 ∧ Room (es.length + es'.length) l.2.2 ∧ K (.sl false k (es ++ es'))
    | .sl true k es, .nil => k = e.2 ∧ Room es.length l.2.2 ∧ K (.sl false k es)
    | _, _ => False
def enters (P : Program) (f : FuncId) : Bool := match P.funcs[f]? with
  | some fn => fn.body.isSome && fn.name != "runtime.NumGoroutine"
  | none => false
def callN (P : Program) (G : List (Nat × D)) (S : List (Nat × O)) (f : D) (ds : List D) (K : D → Prop) : Prop :=
  match f with
  | .fn fid first caps => enters P fid = true ∧ ∃ (ds' : List D) (ks bw : List Nat) (d : D), Lent S bw (first ++ ds ++ caps) ds' ∧ (∀ k ∈ ks, k ∉ bw) ∧ (bw = [] ∨ d.flat = true) ∧ CallR P G fid ds' (sub S ks) d ∧ K d
  | _ => False
def withAll {α : Type} (ρ : α → Option D) : List α → (List D → Prop) → Prop
  | [], K => K []
  | x :: r, K => withO (ρ x) fun d => withAll ρ r fun ds => K (d :: ds)
def withOpt {α : Type} (ρ : α → Option D) : Option α → (Option D → Prop) → Prop
  | none, K => K none
  | some x, K => withO (ρ x) fun d => K (some d)

def keyEq : D → D → Option Bool
  | .int k a, .int k' b => if k = k' then some (decide (a = b)) else none
  | .str a, .str b => some (decide (a = b))
  | _, _ => none
def findD (k : D) : List (D × D) → Option (Option D)
  | [] => some none
  | (k', v) :: r => match keyEq k k' with
    | some true => some (some v)
    | some false => findD k r
    | none => none
def zeroAgg (P : Program) (t : TypeId) : Option Bool := match ((P.info? t).bind (·.zero) : Option Value) with
  | some (.agg _) => some true
  | some (.tuple _) => none
  | some _ => some false
  | none => none
def lookN (P : Program) (S : List (Nat × O)) (t : TypeId) (m k : D) (ok : Bool) (K : D → Prop) : Prop :=
  match P.underlying t, m with
  | some (.map kt et), .mapr g r => match look g S with
    | some (.map r' es) => r' = r ∧ (match P.underlying kt, k with | some (.int _), .int _ _ => True | some .string, .str _ => True | _, _ => False) ∧
        withO (findD k es) fun v => match v with
          | some v => K (if ok then .tup [v, .bool true] else v)
          | none => withO (zeroOf P et) fun zs => withO (layOf P et) fun l => zeroAgg P et = some l.1 ∧ K (if ok then .tup [if l.1 then .agg zs else zs.getD 0 .any, .bool false] else if l.1 then .agg zs else zs.getD 0 .any)
    | _ => False
  | _, _ => False

/-- The key and the value that an iterator's last step handed out. -/
def entryN (S : List (Nat × O)) (d : D) (K : D → Prop) : Prop :=
  match d with
  | .it g r => match look g S with
    | some (.mit r' gm mr n seen) => r' = r ∧ match look gm S with
      | some (.map mr' es) => mr' = mr ∧ es.length = n ∧ withO seen.getLast? fun i => withO es[i]? fun p => K (.tup [p.1, p.2])
      | _ => False
    | _ => False
  | _ => False

/-- What an operation that leaves the store alone makes of deep data. -/
def stepN (P : Program) (G : List (Nat × D)) (S : List (Nat × O)) (ρ : Operand → Option D) (op : Op) (K : D → Prop) : Prop :=
  match op with
  | .move x | .assign x => withO (ρ x) K
  | .pick c a b => withO (ρ c) fun dc => match dc with
    | .bool t => split t (withO (ρ a) K) (withO (ρ b) K)
    | _ => False
  | .box _ x => withO (ρ x) fun d => d.known = true ∧ K (.rp d.cells)
  | .load t x => withO (ρ x) fun d => loadN P S t d K
  | .fieldAddr t x i => withO (ρ x) fun d => fieldAddrN P t d i K
  | .field t x i => withO (ρ x) fun d => fieldN P t d i K
  | .indexAddr t x i => withO (ρ x) fun d => withO (ρ i) fun n => indexAddrN P S t d n K
  | .index t x i => withO (ρ x) fun d => withO (ρ i) fun n => indexN P t d n K
  | .slice t x lo hi none => withO (ρ x) fun d => withOpt ρ lo fun l => withOpt ρ hi fun h => sliceN P t d l h K
  | .binOp op t x y _ => withO (ρ x) fun d => withO (ρ y) fun e => binD P op t d e K
  | .unOp op _ x => withO (ρ x) fun d => unN op d K
  | .convert src dst x => withO (ρ x) fun d => convN P src dst d K
  | .build t ps => withAll (fun p => ρ p.2) ps.toList fun ds => withO (zeroOf P t) fun zs =>
      match P.underlying t with
      | some (.struct fs) => fs.all (fun f => (P.info? f.type).isSome) = true ∧ fillD (fun i => (fldOf P t i).map fun x => (x.1, x.2.2)) ((ps.toList.map (·.1)).zip ds) zs fun cs => K (.agg cs)
      | some (.array _ _) => withO (arOf P t) fun a => fillD (fun i => some (i * a.2.2, a.2.2)) ((ps.toList.map (·.1)).zip ds) zs fun cs => K (.agg cs)
      | _ => False
  | .buildSlice t len ps => withAll (fun p => ρ p.2) ps.toList fun ds => withO (elOf P t) fun e => (zeroOf P e.1).isSome = true ∧ ds.length = len ∧ len * e.2 ≤ 16777216 ∧ len ≤ 16777216 ∧ ps.toList.map (·.1) = List.range len ∧
      (∀ d ∈ ds, d.known = true ∧ d.cells.length = e.2) ∧ K (.sl true e.2 (ds.map D.cells))
  | .makeFunc (.func f) first caps => withAll ρ first.toList fun ds => withAll ρ caps.toList fun es => K (.fn f ds es)
  | .extract x i => withO (ρ x) fun d => match d with
    | .tup ds => withO ds[i]? K
    | _ => False
  | .nilCheck x => withO (ρ x) fun d => match d with
    | .rp cs => K (.rp cs)
    | .ref g b off => K (.ref g b off)
    | .fn f ds es => K (.fn f ds es)
    | _ => False
  | .lookup t m k ok => withO (ρ m) fun dm => withO (ρ k) fun dk => lookN P S t dm dk ok K
  | .call { callee := .builtin .len, args, argTypes } => match args.toList, argTypes.toList with
    | [x], [t] => withO (ρ x) fun d => lenN P S t d K
    | _, _ => False
  | .call { callee := .builtin .append, args, argTypes } => match args.toList, argTypes.toList with
    | [s, x], [t, t'] => t = t' ∧ withO (ρ s) fun ds => withO (ρ x) fun dx => appN P t ds dx K
    | _, _ => False
  | .call { callee := .builtin .min, args, .. } => match args.toList with
    | [x, y] => withO (ρ x) fun d => withO (ρ y) fun e => match d, e with
      | .int k a, .int _ b => K (.int k (if b < a then b else a))
      | _, _ => False
    | _ => False
  | .call { callee := .builtin .max, args, .. } => match args.toList with
    | [x, y] => withO (ρ x) fun d => withO (ρ y) fun e => match d, e with
      | .int k a, .int _ b => K (.int k (if b > a then b else a))
      | _, _ => False
    | _ => False
  | .call { callee := .value f, args, .. } => withO (ρ f) fun df => withAll ρ args.toList fun ds => callN P G S df ds K
  | .entry x => withO (ρ x) fun d => entryN S d K
  | _ => False

/-- Operation o, in whatever world and store, gives d and leaves all old memory alone. -/
def Neu (P : Program) (G : List (Nat × D)) (S : List (Nat × O)) (ρ : Operand → Option D) (o : Oper) (d : D) : Prop :=
  ∀ (X : Nat → Prop) (w : World) (e : Operand → Value), Stor w X S → Glob G w (Mx X S) → (∀ x ∈ o.op.operands.toList, ∀ dx, ρ x = some dx → R w (Mx X S) (e x) dx) →
    NeuRes P w (Mx X S) d ((execOp e o).run P w)

theorem withO_elim {α : Type} {o : Option α} {K : α → Prop} (h : withO o K) : ∃ d, o = some d ∧ K d := by
  cases o with
  | none => exact h.elim
  | some d => exact ⟨d, rfl, h⟩
theorem withAll_elim {α : Type} {ρ : α → Option D} : ∀ {xs : List α} {K : List D → Prop}, withAll ρ xs K → ∃ ds, xs.length = ds.length ∧ (∀ (i : Nat) (x : α) (d : D), xs[i]? = some x → ds[i]? = some d → ρ x = some d) ∧ K ds
  | [], K, h => ⟨[], rfl, fun i x d hx => by simp at hx, h⟩
  | x :: r, K, h => by
    obtain ⟨d, hd, h⟩ := withO_elim h
    obtain ⟨ds, h1, h2, h3⟩ := withAll_elim h
    refine ⟨d :: ds, by simp [h1], fun i y e hy he => ?_, h3⟩
    cases i with
    | zero => simp at hy he; subst hy; subst he; exact hd
    | succ i => exact h2 i y e (by simpa using hy) (by simpa using he)
theorem withAll_Rl {ρ : Operand → Option D} {xs : List Operand} {ds : List D} (hl : xs.length = ds.length) (h : ∀ (i : Nat) (x : Operand) (d : D), xs[i]? = some x → ds[i]? = some d → ρ x = some d)
    {w : World} {M : Nat → Prop} {e : Operand → Value} (hr : ∀ x ∈ xs, ∀ dx, ρ x = some dx → R w M (e x) dx) : Rl w M (xs.map e) ds := by
  refine ⟨by simpa using hl, fun i v d hv hd => ?_⟩
  rw [List.getElem?_map] at hv
  cases hx : xs[i]? with
  | none => simp [hx] at hv
  | some x =>
    simp [hx] at hv
    subst hv
    exact hr x (List.mem_of_getElem? hx) d (h i x d hx hd)

end Go.Dw

namespace Go.Dw
open Go Go.RowKit

section
variable {P : Program} {S : List (Nat × O)} {K : D → Prop}

theorem behind_det {d : D} {K : List D → Prop} (h : behind S d K) : ∃ cs, K cs ∧ behind S d (· = cs) := by
  unfold behind at h ⊢
  split at h
  · exact ⟨_, h, rfl⟩
  · split at h
    · exact ⟨_, h.2, h.1, rfl⟩
    · exact ⟨_, h.2, h.1, rfl⟩
    · exact h.elim
  · exact h.elim
theorem behind_sound {d : D} {cs : List D} (h : behind S d (· = cs)) {w : World} {X : Nat → Prop} {v : Value} (hS : Stor w X S) (hr : R w (Mx X S) v d) :
    ∃ ad, v = .pointer (some ad) ∧ CellsAt w (Mx X S) ad cs := by
  unfold behind at h
  split at h
  · subst h
    obtain ⟨ad, h1, _, _, h2⟩ := hr.rp_cells
    exact ⟨ad, h1, h2⟩
  · cases hr
    rename_i g b off
    split at h
    · rename_i b' cs' hl
      obtain ⟨rfl, rfl⟩ := h
      obtain ⟨cur, e, h1, h2⟩ := hS.obj _ _ hl
      refine ⟨_, rfl, ?_⟩
      have : CellsAt w (Mx X S) ⟨b', 0, none⟩ cs' := ⟨cur.toList, h2, fun j v hv => by
        rw [add_lit, Nat.zero_add, cell_of_row w b' j cur e (0, 0) h1]
        simpa using hv⟩
      have h3 := this.drop off
      rwa [add_lit, Nat.zero_add] at h3
    · rename_i ad _ _ _ _ es hl
      obtain ⟨rfl, rfl⟩ := h
      obtain ⟨_, _, _, _, hA⟩ := (hS.obj _ _ hl).row_cells
      rcases hA with ⟨h0, _⟩ | ⟨b, h1, _, h2⟩
      · cases h0
      · cases h1
        refine ⟨_, rfl, ?_⟩
        have h3 := h2.drop off
        rwa [add_lit, Nat.zero_add] at h3
    · exact h.elim
  · exact h.elim

theorem sound_load {t : TypeId} {dx : D} (h : loadN P S t dx K) : ∃ d, K d ∧ ∀ (w : World) (X : Nat → Prop) (v : Value), Stor w X S → R w (Mx X S) v dx →
    ∃ u, (Instr.loadAt t v).run P w = .ok u w ∧ R w (Mx X S) u d := by
  obtain ⟨⟨a, n, b⟩, hl, h⟩ := withO_elim h
  obtain ⟨cs, h, hb⟩ := behind_det h
  obtain ⟨d, hK, hd⟩ := loadD_det h
  refine ⟨d, hK, fun w X v hS hr => ?_⟩
  obtain ⟨ad, rfl, hc⟩ := behind_sound hb hS hr
  obtain ⟨u, d', h1, h2, h3, _⟩ := run_loadVar_cells hl hc hd
  subst h3
  exact ⟨u, by simp [Instr.loadAt, Instr.sureAddr, h1], h2⟩

theorem sound_fieldAddr {t : TypeId} {dx : D} {i : Nat} (h : fieldAddrN P t dx i K) : ∃ d, K d ∧ ∀ (w : World) (M : Nat → Prop) (v : Value), R w M v dx →
    ∃ u, (Instr.fieldAt t v i).run P w = .ok u w ∧ R w M u d := by
  obtain ⟨⟨off, ty, n⟩, hf, hn, h⟩ := withO_elim h
  split at h
  · refine ⟨_, h, fun w M v hr => ?_⟩
    obtain ⟨ad, rfl, hb, hM, hc⟩ := hr.rp_cells
    exact ⟨_, run_fieldAt hf hn ad, R.rp_mk (by rw [add_block]; exact hb) (by rw [add_block]; exact hM) (hc.drop off)⟩
  · refine ⟨_, h, fun w M v hr => ?_⟩
    cases hr
    exact ⟨_, run_fieldAt hf hn _, by rw [add_lit]; exact .ref ..⟩
  · exact h.elim

theorem sound_field {t : TypeId} {dx : D} {i : Nat} (h : fieldN P t dx i K) : ∃ d, K d ∧ ∀ (w : World) (M : Nat → Prop) (v : Value), R w M v dx →
    ∃ u, (Instr.field t v i).run P w = .ok u w ∧ R w M u d := by
  obtain ⟨⟨off, ty, n⟩, hf, h⟩ := withO_elim h
  obtain ⟨⟨a, m, b⟩, hl, h⟩ := withO_elim h
  split at h
  · obtain ⟨d, hK, hd⟩ := loadD_det h
    refine ⟨d, hK, fun w M v hr => ?_⟩
    cases hr with
    | agg cs ds hl' hr =>
      obtain ⟨fs, f, inf, hu, hfi, h1, h2, h3, h4⟩ := fldOf_some hf
      subst h1; subst h2
      obtain ⟨u, d', h5, h6, h7⟩ := run_part hl (R.agg_iff.1 (R.agg _ _ hl' hr)) hd
      subst h7
      exact ⟨u, by simp [Instr.field, run_underlying hu, hfi, asAgg, h5], h6⟩
  · exact h.elim

theorem sound_indexAddr {t : TypeId} {dx di : D} (h : indexAddrN P S t dx di K) : ∃ d, K d ∧ ∀ (w : World) (X : Nat → Prop) (v i : Value), Stor w X S → R w (Mx X S) v dx → R w (Mx X S) i di →
    ∃ u, (Instr.indexAt t v i).run P w = .ok u w ∧ R w (Mx X S) u d := by
  unfold indexAddrN at h
  split at h
  · rename_i f k0 es ik n
    obtain ⟨⟨e, k⟩, he, rfl, h0, h1, h⟩ := withO_elim h
    refine ⟨_, h, fun w X v i hS hr hi => ?_⟩
    cases hi
    obtain ⟨A, cap, rfl, _, _, _, hsz, ad, hA, hcell⟩ := hr.sl_elem
    obtain ⟨rfl, hb, hM⟩ := hA (by omega)
    have hlt : n.toNat < es.length := by omega
    have hg : es.getD n.toNat [] = es[n.toNat] := by simp [List.getD, hlt]
    rw [hg]
    exact ⟨_, run_indexAt_slice he ad es.length cap ik n h0 (by omega), R.rp_mk (by rw [add_block]; exact hb) (by rw [add_block]; exact hM) (hcell _ _ (by simp [hlt]))⟩
  · obtain ⟨⟨e, k⟩, he, h0, h1, h⟩ := withO_elim h
    split at h
    · rename_i hl
      obtain ⟨rfl, rfl, rfl, rfl, h⟩ := h
      refine ⟨_, h, fun w X v i hS hr hi => ?_⟩
      cases hi; cases hr
      obtain ⟨hn, _, hle, _, hA⟩ := (hS.obj _ _ hl).row_cells
      rcases hA with ⟨_, h3, _⟩ | ⟨b, rfl, _, _⟩
      · subst h3; simp at hn; omega
      · exact ⟨_, run_indexAt_slice he _ _ _ _ _ h0 h1, by rw [add_lit, Nat.zero_add]; exact .ref ..⟩
    · exact h.elim
  · obtain ⟨⟨m, e, k⟩, he, h0, h1, h⟩ := withO_elim h
    refine ⟨_, h, fun w X v i hS hr hi => ?_⟩
    cases hi
    obtain ⟨ad, rfl, hb, hM, hc⟩ := hr.rp_cells
    exact ⟨_, run_indexAt_array he ad _ _ h0 h1, R.rp_mk (by rw [add_block]; exact hb) (by rw [add_block]; exact hM) (hc.drop _)⟩
  · obtain ⟨⟨m, e, k⟩, he, h0, h1, h⟩ := withO_elim h
    refine ⟨_, h, fun w X v i hS hr hi => ?_⟩
    cases hi; cases hr
    exact ⟨_, run_indexAt_array he _ _ _ h0 h1, by rw [add_lit]; exact .ref ..⟩
  · exact h.elim

theorem sound_index {t : TypeId} {dx di : D} (h : indexN P t dx di K) : ∃ d, K d ∧ ∀ (w : World) (M : Nat → Prop) (v i : Value), R w M v dx → R w M i di →
    ∃ u, (Instr.index t v i).run P w = .ok u w ∧ R w M u d := by
  unfold indexN at h
  split at h
  · obtain ⟨hu, h0, h1, h⟩ := h
    refine ⟨_, h, fun w M v i hr hi => ?_⟩
    cases hi
    cases hr with
    | str s l hs =>
      subst hs
      rename_i n
      have hlt : n.toNat < s.size := by rw [size_len]; omega
      have hlt' : n.toNat < s.data.toList.length := by omega
      have hg : s.data.toList.getD n.toNat 0 = s[n.toNat] := by
        simp only [List.getD, List.getElem?_eq_getElem hlt', Option.getD_some]; rfl
      refine ⟨.int .u8 (s.data.toList.getD n.toNat 0).toNat, ?_, .int _ _⟩
      rw [hg]
      simp [Instr.index, asIntOf, run_underlying hu, h0, hlt]
  · obtain ⟨⟨m, e, k⟩, ha, h⟩ := withO_elim h
    obtain ⟨⟨a, k', b⟩, hl, rfl, h0, h1, h⟩ := withO_elim h
    obtain ⟨d, hK, hd⟩ := loadD_det h
    refine ⟨d, hK, fun w M v i hr hi => ?_⟩
    cases hi
    cases hr with
    | agg cs ds hl' hr =>
      obtain ⟨inf, hu, hei, hes⟩ := arOf_some ha
      obtain ⟨u, d', h5, h6, h7⟩ := run_part hl (R.agg_iff.1 (R.agg _ _ hl' hr)) hd
      subst h7
      simp only at h1
      exact ⟨u, by simp [Instr.index, asIntOf, run_underlying hu, h0, h1, sizeOf, typeInfo, hei, hes, h5], h6⟩
  · exact h.elim

theorem sound_conv {src dst : TypeId} {dx : D} (h : convN P src dst dx K) : ∃ d, K d ∧ ∀ (w : World) (M : Nat → Prop) (v : Value), R w M v dx →
    ∃ u, (convert src dst v).run P w = .ok u w ∧ R w M u d := by
  obtain ⟨hs, h⟩ := h
  cases hu : P.underlying src with
  | none => simp [hu] at hs
  | some ds =>
    split at h
    · rename_i hd
      refine ⟨_, h, fun w M v hr => ?_⟩
      cases hr
      exact ⟨_, by simp [convert, run_underlying hu, run_underlying hd, Conv.intToInt], .int _ _⟩
    · rename_i hd
      refine ⟨_, h, fun w M v hr => ?_⟩
      cases hr with
      | str s l hl => exact ⟨_, by simp [convert, run_underlying hu, run_underlying hd], .str _ _ hl⟩
    · rename_i hd
      refine ⟨_, h, fun w M v hr => ?_⟩
      cases hr
      exact ⟨_, by simp [convert, run_underlying hu, run_underlying hd, Conv.intToString], .str _ _ rfl⟩
    · exact h.elim

theorem sound_len {t ty : TypeId} {dx : D} (h : lenN P S t dx K) : ∃ d, K d ∧ ∀ (w : World) (X : Nat → Prop) (v : Value), Stor w X S → R w (Mx X S) v dx →
    ∃ u, (Builtin.len_ #[t] ty #[v]).run P w = .ok u w ∧ R w (Mx X S) u d := by
  unfold lenN at h
  split at h
  · rename_i hu
    refine ⟨_, h, fun w X v hS hr => ?_⟩
    cases hr with
    | str s l hl =>
      subst hl
      refine ⟨goInt s.size, by simp [Builtin.len_, run_underlying hu], ?_⟩
      rw [size_len]
      exact .int _ _
  · rename_i hu
    refine ⟨_, h, fun w X v hS hr => ?_⟩
    obtain ⟨A, cap, rfl, _⟩ := hr.sl_elem
    exact ⟨_, by simp [Builtin.len_, run_underlying hu]; rfl, .int _ _⟩
  · rename_i hu
    refine ⟨_, h, fun w X v hS hr => ?_⟩
    cases hr
    exact ⟨.int .i64 0, by simp [Builtin.len_, run_underlying hu, goInt], .int _ _⟩
  · rename_i hu
    refine ⟨_, h, fun w X v hS hr => ?_⟩
    cases hr
    exact ⟨_, by simp [Builtin.len_, run_underlying hu]; rfl, .int _ _⟩
  · rename_i hu
    refine ⟨_, h, fun w X v hS hr => ?_⟩
    cases hr
    exact ⟨.int .i64 0, by simp [Builtin.len_, run_underlying hu, goInt], .int _ _⟩
  · rename_i hu
    split at h
    · rename_i r' es hl
      obtain ⟨rfl, h⟩ := h
      refine ⟨_, h, fun w X v hS hr => ?_⟩
      cases hr
      obtain ⟨ents, h1, h2, _⟩ := hS.obj _ _ hl
      refine ⟨goInt ents.size, ?_, by rw [h2]; exact .int _ _⟩
      simp [Builtin.len_, run_underlying hu, getObj, Sem.run, h1]
    · exact h.elim
  · rename_i hu
    refine ⟨_, h, fun w X v hS hr => ?_⟩
    exact ⟨_, by simp [Builtin.len_, run_underlying hu]; rfl, .int _ _⟩
  · exact h.elim

theorem sound_un {op : UnOp} {dx : D} (h : unN op dx K) : ∃ d, K d ∧ ∀ (w : World) (M : Nat → Prop) (v : Value), R w M v dx →
    ∃ u, (Op.unary op v).run P w = .ok u w ∧ R w M u d := by
  unfold unN at h
  split at h
  · refine ⟨_, h, fun w M v hr => ?_⟩
    cases hr
    exact ⟨_, by simp [Op.unary], .bool _⟩
  · refine ⟨_, h, fun w M v hr => ?_⟩
    cases hr
    exact ⟨_, by simp [Op.unary, Op.intArith], .int _ _⟩
  · exact h.elim
end
end Go.Dw

namespace Go.Dw
open Go Go.RowKit

section
variable {P : Program} {S : List (Nat × O)} {K : D → Prop}

theorem bound_det {o : Option D} {n : Nat} {K : Int → Prop} (h : boundD o n K) : ∃ i, K i ∧ (o = none ∧ i = n ∨ ∃ k, o = some (.int k i)) := by
  unfold boundD at h
  split at h
  · exact ⟨_, h, .inl ⟨rfl, rfl⟩⟩
  · rename_i k i
    exact ⟨_, h, .inr ⟨k, rfl⟩⟩
  · exact h.elim

/-- Optional operands. -/
def OptR (w : World) (M : Nat → Prop) : Option Value → Option D → Prop
  | none, none => True
  | some v, some d => R w M v d
  | _, _ => False
/-- The bounds of a slice expression, run. -/
theorem run_bounds {lo hi : Option D} {len cap : Nat} {b h : Int} (hb : lo = none ∧ b = (0 : Nat) ∨ ∃ k, lo = some (.int k b)) (hh : hi = none ∧ h = len ∨ ∃ k, hi = some (.int k h)) (h0 : 0 ≤ b) (h1 : b ≤ h) (h2 : h ≤ len) (hc : len ≤ cap)
    {w : World} {M : Nat → Prop} (isS : Bool) {vl vh : Option Value} (hl : OptR w M vl lo) (hv : OptR w M vh hi) :
    (Instr.sliceBounds isS len cap vl vh none).run P w = .ok (b.toNat, h.toNat, cap) w := by
  rcases hh with ⟨rfl, rfl⟩ | ⟨k, rfl⟩
  · cases vh with
    | some _ => exact hv.elim
    | none =>
      rcases hb with ⟨rfl, rfl⟩ | ⟨k', rfl⟩
      · cases vl with
        | some _ => exact hl.elim
        | none => simp [Instr.sliceBounds]
      · cases vl with
        | none => exact hl.elim
        | some v =>
          cases hl
          simp [Instr.sliceBounds, Instr.sliceBound, asIntOf, h0, h1]
  · cases vh with
    | none => exact hv.elim
    | some v =>
      cases hv
      have h3 : 0 ≤ h := by omega
      have h4 : h ≤ (cap : Int) := by omega
      rcases hb with ⟨rfl, rfl⟩ | ⟨k', rfl⟩
      · cases vl with
        | some _ => exact hl.elim
        | none => simp [Instr.sliceBounds, Instr.sliceBound, asIntOf, h3, h4]
      · cases vl with
        | none => exact hl.elim
        | some u =>
          cases hl
          have h5 : ¬ (max h 0 < b) := by omega
          simp [Instr.sliceBounds, Instr.sliceBound, asIntOf, h3, h4, h0, h5]

theorem sound_slice {t : TypeId} {dx : D} {lo hi : Option D} (h : sliceN P t dx lo hi K) : ∃ d, K d ∧ ∀ (w : World) (M : Nat → Prop) (v : Value) (vl vh : Option Value), R w M v dx →
    OptR w M vl lo → OptR w M vh hi →
    ∃ u, (Instr.sliceAt t v vl vh none).run P w = .ok u w ∧ R w M u d := by
  unfold sliceN at h
  split at h
  · rename_i l
    obtain ⟨hu, h⟩ := h
    obtain ⟨j, h, hj⟩ := bound_det h
    obtain ⟨i, ⟨h0, h1, h2, h⟩, hi'⟩ := bound_det h
    refine ⟨_, h, fun w M v vl vh hr hl hv => ?_⟩
    cases hr with
    | str s _ hs =>
      subst hs
      have hlen := size_len s
      have hb := run_bounds (P := P) (len := s.size) (cap := s.size) hi' (by rw [hlen]; exact hj) h0 h1 (by rw [hlen]; exact h2) (Nat.le_refl _) false hl hv
      refine ⟨.string (s.extract i.toNat j.toNat), ?_, .str _ _ ?_⟩
      · simp [Instr.sliceAt, Instr.slice, run_underlying hu, hb]
      · rw [ByteArray.data_extract, Array.toList_extract, List.extract_eq_take_drop, List.drop_take]
  · rename_i f k0 es
    obtain ⟨⟨e, k⟩, he, rfl, h⟩ := withO_elim h
    obtain ⟨j, h, hj⟩ := bound_det h
    obtain ⟨i, ⟨h0, h1, h2, h⟩, hi'⟩ := bound_det h
    refine ⟨_, h, fun w M v vl vh hr hl hv => ?_⟩
    obtain ⟨A, cap, rfl, hcap, hfull, hmax, hsz, ad, hA, hcell⟩ := hr.sl_elem
    obtain ⟨inf, hu, hei, hes⟩ := elOf_some he
    have hb := run_bounds (P := P) (len := es.length) (cap := cap) hi' hj h0 h1 h2 hcap true hl hv
    have hsize : (sizeOf e).run P w = .ok k w := by simp [sizeOf, typeInfo, hei, hes]
    refine ⟨.slice (if cap = i.toNat then A else A.map (·.add (i.toNat * k))) (j.toNat - i.toNat) (cap - i.toNat), ?_, ?_⟩
    · simp [Instr.sliceAt, Instr.slice, run_underlying hu, hb, hsize]
    · have hlen : ((es.take j.toNat).drop i.toNat).length = j.toNat - i.toNat := by simp; omega
      refine R.sl_mk (ad := ad.add (i.toNat * k)) hlen.symm (by rw [hlen]; omega) (fun hf => ?_) (by rw [hlen]; omega) (fun x hx => hsz x (List.mem_of_mem_take (List.mem_of_mem_drop hx))) (fun hp => ?_) (fun n x hx => ?_)
      · simp only [Bool.and_eq_true, Option.isNone_iff_eq_none] at hf
        obtain ⟨rfl, rfl⟩ := hf
        rcases hj with ⟨_, rfl⟩ | ⟨_, h⟩
        · rw [hlen, hfull rfl]; omega
        · cases h
      · rw [hlen] at hp
        obtain ⟨h3, h4, h5⟩ := hA (by omega)
        rw [if_neg (by omega), h3]
        exact ⟨rfl, by rw [add_block]; exact h4, by rw [add_block]; exact h5⟩
      · rw [List.getElem?_drop, List.getElem?_take] at hx
        split at hx
        · rw [add_add, ← Nat.add_mul]
          exact hcell _ _ hx
        · cases hx
  · exact h.elim

theorem nil_sl {w : World} {M : Nat → Prop} {v : Value} {f : Bool} {k : Nat} (h : R w M v .nil) : R w M v (.sl f k []) := (Le.nil f k).sound h

theorem sound_app {t ty : TypeId} {s x : D} (h : appN P t s x K) : ∃ d, K d ∧ ∀ (w : World) (M : Nat → Prop) (vs vx : Value), (∀ b, M b → b < w.heap.size) → R w M vs s → R w M vx x →
    ∃ u w', (Builtin.append_ #[t, t] ty #[vs, vx]).run P w = .ok u w' ∧ Ext Non w w' ∧ R w' M u d := by
  obtain ⟨⟨e, k⟩, he, h⟩ := withO_elim h
  obtain ⟨⟨a, k', bytes⟩, hl, rfl, hz, h⟩ := withO_elim h
  cases hzs : zeroOf P e with
  | none => simp [hzs] at hz
  | some zs =>
    split at h
    · obtain ⟨rfl, hroom, h⟩ := h
      exact ⟨_, h, fun w M vs vx hM hs hx => run_append_full (es := []) he hl hzs (nil_sl hs) hx (by simpa using hroom) hM⟩
    · obtain ⟨rfl, rfl, hroom, h⟩ := h
      exact ⟨_, h, fun w M vs vx hM hs hx => run_append_full he hl hzs hs hx hroom hM⟩
    · obtain ⟨rfl, hroom, h⟩ := h
      refine ⟨_, h, fun w M vs vx hM hs hx => ?_⟩
      have := run_append_full (ty := ty) (f' := true) (es' := []) he hl hzs hs (nil_sl hx) (by simpa using hroom) hM
      simpa using this
    · exact h.elim

theorem enters_spec {f : FuncId} (h : enters P f = true) : ∃ fn, P.funcs[f]? = some fn ∧ fn.body.isSome = true ∧ (fn.name == "runtime.NumGoroutine") = false := by
  unfold enters at h
  cases hf : P.funcs[f]? with
  | none => simp [hf] at h
  | some fn =>
    simp [hf] at h
    exact ⟨fn, rfl, h.1, by simpa using h.2⟩
theorem run_callFunc {f : FuncId} (h : enters P f = true) (args : Array Value) (w : World) : (callFunc f args).run P w = .ok (.enter f args) w := by
  obtain ⟨fn, hf, hb, hn⟩ := enters_spec h
  have hb' : ¬ fn.body = none := by cases hbb : fn.body <;> simp_all
  have hn' : ¬ fn.name = "runtime.NumGoroutine" := by simpa using hn
  simp [callFunc, hf, hn', hb']

theorem sound_call {G : List (Nat × D)} {df : D} {ds : List D} (h : callN P G S df ds K) : ∃ d, K d ∧ ∀ (w : World) (X : Nat → Prop) (vf : Value) (args : Array Value), Stor w X S → Glob G w (Mx X S) → R w (Mx X S) vf df → Rl w (Mx X S) args.toList ds →
    NeuRes P w (Mx X S) d ((do let x ← Deferred.ofValue vf args; invoke x.target x.args : Sem Next).run P w) := by
  unfold callN at h
  split at h
  · rename_i fid first caps
    obtain ⟨hent, ds', ks, bw, d, hlent, hkb, hflat, hcall, hK⟩ := h
    refine ⟨d, hK, fun w X vf args hS hG hf hargs => ?_⟩
    cases hf with
    | fn f vfirst vcaps _ _ hl1 hl2 hr1 hr2 =>
      have hf1 : Rl w (Mx X S) vfirst.toList first := ⟨by simpa using hl1, fun i v d hv hd => hr1 i v d (by simpa using hv) hd⟩
      have hf2 : Rl w (Mx X S) vcaps.toList caps := ⟨by simpa using hl2, fun i v d hv hd => hr2 i v d (by simpa using hv) hd⟩
      have hall := (hf1.append hargs).append hf2
      have hl := hlent.sound hkb hS hall
      have hc := hcall (Rest X S ks bw) (vfirst ++ args ++ vcaps) w (hS.sub ks bw) (fun g d hg => (hG g d hg).less fun b hb => Mx_rest hb) (by simpa using hl)
      simp only [Deferred.ofValue, Sem.run_bind, Sem.run_pure, Result.andThen_ok, invoke, run_callFunc hent]
      refine ⟨Ext.refl _ _, hc.mono ?_⟩
      rintro e w' ⟨v, rfl, he, hr⟩
      refine ⟨v, rfl, he, ?_⟩
      rcases hflat with rfl | hflat
      · exact hr.less fun b hb => Mx_rest_nil hb
      · exact R_flat hflat hr
  · exact h.elim

theorem checkKey_plain {kt : TypeId} {k : Value} {dk : D} {w : World} {M : Nat → Prop} (hk : match P.underlying kt, dk with | some (.int _), .int _ _ => True | some .string, .str _ => True | _, _ => False) (hr : R w M k dk) (b : Bool) :
    (Instr.checkKey b 10000 kt k).run P w = .ok () w := by
  have : ∀ n, (Instr.checkKey b (n + 1) kt k).run P w = .ok () w := by
    intro n
    split at hk
    · rename_i hu
      cases hr
      simp [Instr.checkKey, run_underlying hu]
    · rename_i hu
      cases hr
      simp [Instr.checkKey, run_underlying hu]
    · exact hk.elim
  exact this 9999

/-- What a look-up found. -/
def FoundR (w : World) (M : Nat → Prop) : Option D → Option (Nat × Value) → Prop
  | none, none => True
  | some d, some (_, v) => R w M v d
  | _, _ => False
theorem findNow_sound {kt : TypeId} {k : Value} {dk : D} {w : World} {M : Nat → Prop} {desc : TypeDesc} (hu : P.underlying kt = some desc)
    (hk : match P.underlying kt, dk with | some (.int _), .int _ _ => True | some .string, .str _ => True | _, _ => False) (hr : R w M k dk) :
    ∀ (ents : List MapEntry) (es : List (D × D)) (n : Nat) (r : Option D), ents.length = es.length → (∀ (i : Nat) (me : MapEntry) (p : D × D), ents[i]? = some me → es[i]? = some p → R w M me.key p.1 ∧ R w M me.val p.2) →
      findD dk es = some r → ∃ q, Instr.findNow desc k ents n = some q ∧ FoundR w M r q
  | [], [], n, r, _, _, h => by simp [findD] at h; subst h; exact ⟨none, rfl, trivial⟩
  | [], _ :: _, _, _, hl, _, _ => by simp at hl
  | _ :: _, [], _, _, hl, _, _ => by simp at hl
  | me :: ents, (kd, vd) :: es, n, r, hl, he, h => by
    obtain ⟨h1, h2⟩ := he 0 me (kd, vd) rfl rfl
    have ih := findNow_sound hu hk hr ents es (n + 1) r (by simpa using hl) (fun i m p hm hp => he (i + 1) m p (by simpa using hm) (by simpa using hp))
    have hkey : ∀ b, keyEq dk kd = some b → Instr.sameNow desc k me.key = some b := by
      intro b hb
      rw [hu] at hk
      cases desc <;> cases dk <;> simp only at hk
      all_goals cases hr
      all_goals cases kd <;> simp only [keyEq] at hb
      all_goals try (cases hb; done)
      · simp only at h1
        generalize hmk : me.key = mk at *
        cases h1
        split at hb
        · rename_i hkk
          simp only [Option.some.injEq] at hb
          subst hb
          simp [Instr.sameNow, hkk, beqD]
        · cases hb
      · simp only at h1
        generalize hmk : me.key = mk at *
        cases h1
        rename_i s1 hs1 _ s2 hs2
        simp only [Option.some.injEq] at hb
        subst hb
        simp only [Instr.sameNow, beq_data, Option.some.injEq]
        rw [hs1, hs2, beqL]
    simp only [findD] at h
    cases hkq : keyEq dk kd with
    | none => simp [hkq] at h
    | some b =>
      simp only [Instr.findNow, hkey b hkq]
      cases b with
      | true =>
        simp [hkq] at h
        subst h
        exact ⟨_, rfl, h2⟩
      | false =>
        simp [hkq] at h
        exact ih h

theorem zeroOf_run {t : TypeId} {zs : List D} (hz : zeroOf P t = some zs) {a : Bool} {n b : Nat} (hl : layOf P t = some (a, n, b)) (hok : zeroAgg P t = some a) {w : World} {M : Nat → Prop} :
    ∃ z, (zeroValue t).run P w = .ok z w ∧ R w M z (if a then .agg zs else zs.getD 0 .any) := by
  unfold zeroOf at hz
  cases hi : P.info? t with
  | none => simp [hi] at hz
  | some inf =>
    cases hzz : inf.zero with
    | none => simp [hi, hzz] at hz
    | some z =>
      simp [hi, hzz] at hz
      simp only [zeroAgg, hi, Option.bind_some, hzz] at hok
      refine ⟨z, by simp [zeroValue, typeInfo, hi, hzz], ?_⟩
      subst hz
      cases z with
      | agg cs =>
        simp only [Option.some.injEq] at hok
        subst hok
        refine .agg _ _ (by simp [Value.cells]) (fun i v d hv hd => ?_)
        rw [List.getElem?_map] at hd
        simp only [Value.cells] at hd
        cases hc : cs[i]? with
        | none => simp [hc] at hv
        | some u =>
          rw [hc] at hv; cases hv
          have : cs.toList[i]? = some v := by simpa using hc
          rw [this] at hd
          cases hd
          exact R_ofCell v
      | tuple _ => cases hok
      | _ => simp only [Option.some.injEq] at hok; subst hok; simpa [Value.cells] using R_ofCell _
end
end Go.Dw

namespace Go.Dw
open Go Go.RowKit

section
variable {P : Program} {G : List (Nat × D)} {S : List (Nat × O)} {K : D → Prop}

theorem Stor.newM {w : World} {X : Nat → Prop} (h : Stor w X S) : ∀ b, Mx X S b → b < w.heap.size := fun _ hb => h.lt hb

theorem sound_lookup {t : TypeId} {dm dk : D} {ok : Bool} (h : lookN P S t dm dk ok K) : ∃ d, K d ∧ ∀ (w : World) (X : Nat → Prop) (m k : Value), Stor w X S → R w (Mx X S) m dm → R w (Mx X S) k dk →
    ∃ u, (Instr.lookup t m k ok).run P w = .ok u w ∧ R w (Mx X S) u d := by
  unfold lookN at h
  split at h
  · rename_i kt et g r hu
    split at h
    · rename_i r' es hl
      obtain ⟨rfl, hk, h⟩ := h
      obtain ⟨vo, hf, h⟩ := withO_elim h
      have hdesc : ∃ desc, P.underlying kt = some desc := by
        cases hd : P.underlying kt with
        | none => rw [hd] at hk; exact hk.elim
        | some desc => exact ⟨desc, rfl⟩
      obtain ⟨desc, hd⟩ := hdesc
      -- the run up to the found entry
      have common : ∀ (w : World) (X : Nat → Prop) (m k : Value), Stor w X S → R w (Mx X S) m (.mapr g r') → R w (Mx X S) k dk →
          ∃ q : Option (Nat × Value), FoundR w (Mx X S) vo q ∧
            (Instr.lookup t m k ok).run P w = ((do
              let (v, b) ← match q with | some (_, v) => pure (v, true) | none => pure (← zeroValue et, false)
              pure (if ok then .tuple #[v, .bool b] else v) : Sem Value)).run P w := by
        intro w X m k hS hm hkr
        cases hm
        obtain ⟨ents, h1, h2, _, h3⟩ := hS.obj _ _ hl
        obtain ⟨q, hq1, hq2⟩ := findNow_sound (P := P) hd hk hkr ents.toList es 0 vo (by simpa using h2) (fun i me p hi hp => h3 i me p (by simpa using hi) hp) hf
        refine ⟨q, hq2, ?_⟩
        have hck := checkKey_plain (P := P) (w := w) hk hkr ents.isEmpty
        simp [Instr.lookup, run_underlying hu, getObj, Sem.run, h1, hck, Instr.findKey, run_underlying hd, hq1]
        cases q <;> rfl
      cases vo with
      | some d0 =>
        refine ⟨_, h, fun w X m k hS hm hkr => ?_⟩
        obtain ⟨q, hq, hrun⟩ := common w X m k hS hm hkr
        cases q with
        | none => exact hq.elim
        | some p =>
          obtain ⟨i, v⟩ := p
          cases ok with
          | true => exact ⟨_, by rw [hrun]; simp, R.tup_iff.2 (.cons hq (.cons (.bool true) .nil))⟩
          | false => exact ⟨_, by rw [hrun]; simp, hq⟩
      | none =>
        obtain ⟨zs, hz, h⟩ := withO_elim h
        obtain ⟨⟨a, n, b⟩, hlay, hza, h⟩ := withO_elim h
        refine ⟨_, h, fun w X m k hS hm hkr => ?_⟩
        obtain ⟨q, hq, hrun⟩ := common w X m k hS hm hkr
        cases q with
        | some p => exact hq.elim
        | none =>
          obtain ⟨z, hz1, hz2⟩ := zeroOf_run (P := P) (w := w) (M := Mx X S) hz hlay hza
          cases ok with
          | true => exact ⟨_, by rw [hrun]; simp [hz1], R.tup_iff.2 (.cons hz2 (.cons (.bool false) .nil))⟩
          | false => exact ⟨_, by rw [hrun]; simp [hz1], hz2⟩
    · exact h.elim
  · exact h.elim

/-- Values of operands, in place order. -/
theorem parts_R {w : World} {M : Nat → Prop} {ρ : Operand → Option D} {e : Operand → Value} {ps : List (Nat × Operand)} {ds : List D} (_hl : ps.length = ds.length)
    (h : ∀ (i : Nat) (x : Nat × Operand) (d : D), ps[i]? = some x → ds[i]? = some d → ρ x.2 = some d) (hr : ∀ x ∈ ps.map (·.2), ∀ dx, ρ x = some dx → R w M (e x) dx) :
    ∀ (i : Nat) (p : Nat × Value) (d : D), (ps.map fun x => (x.1, e x.2))[i]? = some p → ds[i]? = some d → R w M p.2 d := by
  intro i p d hp hd
  rw [List.getElem?_map] at hp
  cases hx : ps[i]? with
  | none => simp [hx] at hp
  | some x =>
    simp [hx] at hp
    subst hp
    exact hr x.2 (List.mem_map.2 ⟨x, List.mem_of_getElem? hx, rfl⟩) d (h i x d hx hd)

theorem sound_entry {dx : D} (h : entryN S dx K) : ∃ d, K d ∧ ∀ (w : World) (X : Nat → Prop) (v : Value), Stor w X S → R w (Mx X S) v dx → ∃ u, (Instr.entry v).run P w = .ok u w ∧ R w (Mx X S) u d := by
  unfold entryN at h
  split at h
  · rename_i g r
    split at h
    · rename_i r' gm mr n seen hl
      obtain ⟨rfl, h⟩ := h
      split at h
      · rename_i mr' es hlm
        obtain ⟨rfl, hn, h⟩ := h
        obtain ⟨i, hi, h⟩ := withO_elim h
        obtain ⟨p, hp, h⟩ := withO_elim h
        refine ⟨_, h, fun w X v hS hr => ?_⟩
        cases hr
        obtain ⟨sa, last, hb, hsa, hlast⟩ := hS.obj _ _ hl
        obtain ⟨ents, hm, hsz, hborn, hents⟩ := hS.obj _ _ hlm
        have hil : i < ents.size := by rw [hsz]; exact (List.getElem?_eq_some_iff.1 hp).1
        have hback : sa.back? = some i := by rw [← hsa] at hi; rw [← hi]; simp [Array.back?_eq_getElem?, List.getLast?_eq_getElem?]
        have hfind : ents.find? (fun e => e.born == i) = some ents[i] := by
          rw [Array.find?_eq_some_iff_getElem]
          refine ⟨by simp [hborn i ents[i] (by simp [hil])], i, hil, rfl, fun j hj => ?_⟩
          simp [hborn j ents[j] (by simp)]
          omega
        obtain ⟨h1, h2⟩ := hents i ents[i] p (by simp [hil]) hp
        refine ⟨.tuple #[ents[i].key, ents[i].val], ?_, R.tup_iff.2 (.cons h1 (.cons h2 .nil))⟩
        have hc : ents.size = last := by omega
        simp only [Instr.entry, getObj, Sem.run_bind, Sem.run, hb, hm, Result.andThen_ok, hback, hc, bne_self_eq_false, Bool.false_eq_true, if_false, hfind]
        rfl
      · exact h.elim
    · exact h.elim
  · exact h.elim

theorem stepN_sound {ρ : Operand → Option D} {o : Oper} (h : stepN P G S ρ o.op K) : ∃ d, Neu P G S ρ o d ∧ K d := by
  obtain ⟨dst, op, type, pos, after, guard⟩ := o
  simp only at h
  unfold stepN at h
  split at h
  case h_1 x =>
    obtain ⟨d, hd, hK⟩ := withO_elim h
    exact ⟨d, fun X w e hS hG hr => by simpa [execOp] using neu_value (hr x (by simp [Op.operands]) d hd), hK⟩
  case h_2 x =>
    obtain ⟨d, hd, hK⟩ := withO_elim h
    exact ⟨d, fun X w e hS hG hr => by simpa [execOp] using neu_value (hr x (by simp [Op.operands]) d hd), hK⟩
  case h_3 c a b =>
    obtain ⟨dc, hc, h⟩ := withO_elim h
    split at h
    · rename_i t
      obtain ⟨h1, h2⟩ := h
      cases t with
      | true =>
        obtain ⟨d, hd, hK⟩ := withO_elim (h1 rfl)
        refine ⟨d, fun X w e hS hG hr => ?_, hK⟩
        have hcr := hr c (by simp [Op.operands]) _ hc
        generalize hec : e c = v at hcr
        cases hcr
        simpa [execOp, hec, asBool] using neu_value (hr a (by simp [Op.operands]) d hd)
      | false =>
        obtain ⟨d, hd, hK⟩ := withO_elim (h2 rfl)
        refine ⟨d, fun X w e hS hG hr => ?_, hK⟩
        have hcr := hr c (by simp [Op.operands]) _ hc
        generalize hec : e c = v at hcr
        cases hcr
        simpa [execOp, hec, asBool] using neu_value (hr b (by simp [Op.operands]) d hd)
    · exact h.elim
  case h_4 t x =>
    obtain ⟨d, hd, hk, hK⟩ := withO_elim h
    refine ⟨_, fun X w e hS hG hr => ?_, hK⟩
    have hx := hr x (by simp [Op.operands]) d hd
    have hcs := hx.cells hk
    have hc := CellsAt.new hcs t (Mx X S) (fun _ _ h => h)
    simp [execOp, Instr.box, newVar, newRow]
    exact neu_value' (Ext.alloc w _) (R.rp_mk (by simp) (fun hm => by have := hS.lt hm; simp at this) (by simpa using hc))
  case h_5 t x =>
    obtain ⟨dx, hx, h⟩ := withO_elim h
    obtain ⟨d, hK, hd⟩ := sound_load h
    refine ⟨d, fun X w e hS hG hr => ?_, hK⟩
    obtain ⟨u, h1, h2⟩ := hd w X _ hS (hr x (by simp [Op.operands]) dx hx)
    simpa [execOp, h1] using neu_value h2
  case h_6 t x i =>
    obtain ⟨dx, hx, h⟩ := withO_elim h
    obtain ⟨d, hK, hd⟩ := sound_fieldAddr h
    refine ⟨d, fun X w e hS hG hr => ?_, hK⟩
    obtain ⟨u, h1, h2⟩ := hd w (Mx X S) _ (hr x (by simp [Op.operands]) dx hx)
    simpa [execOp, h1] using neu_value h2
  case h_7 t x i =>
    obtain ⟨dx, hx, h⟩ := withO_elim h
    obtain ⟨d, hK, hd⟩ := sound_field h
    refine ⟨d, fun X w e hS hG hr => ?_, hK⟩
    obtain ⟨u, h1, h2⟩ := hd w (Mx X S) _ (hr x (by simp [Op.operands]) dx hx)
    simpa [execOp, h1] using neu_value h2
  case h_8 t x i =>
    obtain ⟨dx, hx, h⟩ := withO_elim h
    obtain ⟨di, hi, h⟩ := withO_elim h
    obtain ⟨d, hK, hd⟩ := sound_indexAddr h
    refine ⟨d, fun X w e hS hG hr => ?_, hK⟩
    obtain ⟨u, h1, h2⟩ := hd w X _ _ hS (hr x (by simp [Op.operands]) dx hx) (hr i (by simp [Op.operands]) di hi)
    simpa [execOp, h1] using neu_value h2
  case h_9 t x i =>
    obtain ⟨dx, hx, h⟩ := withO_elim h
    obtain ⟨di, hi, h⟩ := withO_elim h
    obtain ⟨d, hK, hd⟩ := sound_index h
    refine ⟨d, fun X w e hS hG hr => ?_, hK⟩
    obtain ⟨u, h1, h2⟩ := hd w (Mx X S) _ _ (hr x (by simp [Op.operands]) dx hx) (hr i (by simp [Op.operands]) di hi)
    simpa [execOp, h1] using neu_value h2
  case h_10 t x lo hi =>
    obtain ⟨dx, hx, h⟩ := withO_elim h
    have hopt : ∀ (l : Option Operand) {K' : Option D → Prop}, withOpt ρ l K' → ∃ dl, K' dl ∧ ∀ {w : World} {M : Nat → Prop} {e : Operand → Value}, (∀ y ∈ l.toList, ∀ dy, ρ y = some dy → R w M (e y) dy) → OptR w M (l.map e) dl := by
      intro l K' hh
      cases l with
      | none => exact ⟨none, hh, fun _ => trivial⟩
      | some y =>
        obtain ⟨dy, hy, hh⟩ := withO_elim hh
        exact ⟨some dy, hh, fun hr => hr y (by simp) dy hy⟩
    obtain ⟨dl, h, hl⟩ := hopt lo h
    obtain ⟨dh, h, hh⟩ := hopt hi h
    obtain ⟨d, hK, hd⟩ := sound_slice h
    refine ⟨d, fun X w e hS hG hr => ?_, hK⟩
    obtain ⟨u, h1, h2⟩ := hd w (Mx X S) _ (lo.map e) (hi.map e) (hr x (by simp [Op.operands]) dx hx) (hl fun y hy => hr y (by simp [Op.operands]; right; left; simpa using hy)) (hh fun y hy => hr y (by simp [Op.operands]; right; right; simpa using hy))
    simpa [execOp, h1] using neu_value h2
  case h_11 op t x y t' =>
    obtain ⟨dx, hx, h⟩ := withO_elim h
    obtain ⟨dy, hy, h⟩ := withO_elim h
    obtain ⟨d, hK, hd⟩ := binD_det h
    refine ⟨d, fun X w e hS hG hr => ?_, hK⟩
    obtain ⟨u, d', h1, h2, h3⟩ := sound_bin (hr x (by simp [Op.operands]) dx hx) (hr y (by simp [Op.operands]) dy hy) hd x y
    subst h3
    simp only [execOp, Sem.run_bind] at h1 ⊢
    simp only [h1, Result.andThen_ok, Sem.run_pure]
    exact neu_value h2
  case h_12 op t x =>
    obtain ⟨dx, hx, h⟩ := withO_elim h
    obtain ⟨d, hK, hd⟩ := sound_un (P := P) h
    refine ⟨d, fun X w e hS hG hr => ?_, hK⟩
    obtain ⟨u, h1, h2⟩ := hd w (Mx X S) _ (hr x (by simp [Op.operands]) dx hx)
    simp only [execOp, Sem.run_bind, h1, Result.andThen_ok, Sem.run_pure]
    exact neu_value h2
  case h_13 src dst' x =>
    obtain ⟨dx, hx, h⟩ := withO_elim h
    obtain ⟨d, hK, hd⟩ := sound_conv h
    refine ⟨d, fun X w e hS hG hr => ?_, hK⟩
    obtain ⟨u, h1, h2⟩ := hd w (Mx X S) _ (hr x (by simp [Op.operands]) dx hx)
    simpa [execOp, h1] using neu_value h2
  case h_14 t ps =>
    obtain ⟨ds, hl, hds, h⟩ := withAll_elim h
    obtain ⟨zs, hz, h⟩ := withO_elim h
    have hzip : ∀ {w : World} {M : Nat → Prop} {e : Operand → Value}, (∀ x ∈ ps.toList.map (·.2), ∀ dx, ρ x = some dx → R w M (e x) dx) →
        ∀ (i : Nat) (p : Nat × Value) (q : Nat × D), (ps.map fun x => (x.1, e x.2))[i]? = some p → ((ps.toList.map (·.1)).zip ds)[i]? = some q → p.1 = q.1 ∧ R w M p.2 q.2 := by
      intro w M e hr i p q hp hq
      have hp' : (ps.toList.map fun x => (x.1, e x.2))[i]? = some p := by
        have : (ps.map fun x => (x.1, e x.2)).toList[i]? = some p := by rw [Array.getElem?_toList]; exact hp
        simpa using this
      obtain ⟨h1, h2⟩ := List.getElem?_zip_eq_some.1 hq
      refine ⟨?_, parts_R hl hds hr i p q.2 hp' h2⟩
      rw [List.getElem?_map] at hp' h1
      cases hx : ps.toList[i]? with
      | none => simp [hx] at hp'
      | some x => simp [hx] at hp' h1; subst hp'; exact h1
    have hlen : ∀ (e : Operand → Value), (ps.map fun x => (x.1, e x.2)).size = ((ps.toList.map (·.1)).zip ds).length := by
      intro e; simp [List.length_zip]; simp at hl; omega
    split at h
    · rename_i fs hu
      obtain ⟨hall, h⟩ := h
      obtain ⟨cs, hK, hf⟩ := fillD_det _ _ h
      refine ⟨_, fun X w e hS hG hr => ?_, hK⟩
      obtain ⟨v, ds', h1, h2, h3⟩ := run_build_struct (P := P) (w := w) (M := Mx X S) hz ⟨fs, hu⟩ (fun fs' h => by rw [hu] at h; cases h; exact hall) _ _ (hlen e) (hzip (fun x hx => hr x (by simpa [Op.operands] using hx))) hf
      subst h3
      simpa [execOp, h1] using neu_value h2
    · obtain ⟨⟨n, e', k⟩, ha, h⟩ := withO_elim h
      obtain ⟨cs, hK, hf⟩ := fillD_det _ _ h
      refine ⟨_, fun X w e hS hG hr => ?_, hK⟩
      obtain ⟨v, ds', h1, h2, h3⟩ := run_build_array (P := P) (w := w) (M := Mx X S) hz ha _ _ (hlen e) (hzip (fun x hx => hr x (by simpa [Op.operands] using hx))) hf
      subst h3
      simpa [execOp, h1] using neu_value h2
    · exact h.elim
  case h_15 t len ps =>
    obtain ⟨ds, hl, hds, h⟩ := withAll_elim h
    obtain ⟨⟨e', k⟩, he, hz, hlen, hsm, hsm', hidx, hk, hK⟩ := withO_elim h
    cases hzs : zeroOf P e' with
    | none => simp [hzs] at hz
    | some zs =>
      subst hlen
      refine ⟨_, fun X w e hS hG hr => ?_, hK⟩
      obtain ⟨v, w', h1, h2, h3⟩ := run_buildSlice (P := P) (w := w) (M := Mx X S) he hzs (ps.map fun x => (x.1, e x.2)) ds (by simpa using hl) hsm (by simp only [maxLen]; omega)
        (by simpa [Function.comp_def] using hidx) hk (fun i p d hp hd => parts_R hl hds (fun x hx => hr x (by simpa [Op.operands] using hx)) i p d (by
          have : (ps.map fun x => (x.1, e x.2)).toList[i]? = some p := by rw [Array.getElem?_toList]; exact hp
          simpa using this) hd) hS.newM
      simpa [execOp, h1] using neu_value' h2 h3
  case h_16 f first caps =>
    obtain ⟨ds, hl, hds, h⟩ := withAll_elim h
    obtain ⟨es, hl', hes, hK⟩ := withAll_elim h
    refine ⟨_, fun X w e hS hG hr => ?_, hK⟩
    have h1 := withAll_Rl hl hds (w := w) (M := Mx X S) (e := e) (fun x hx => hr x (by simp [Op.operands]; left; simpa using hx))
    have h2 := withAll_Rl hl' hes (w := w) (M := Mx X S) (e := e) (fun x hx => hr x (by simp [Op.operands]; right; simpa using hx))
    have h3 : R w (Mx X S) (.func (.func f) (first.map e) (caps.map e)) (.fn f ds es) :=
      .fn f _ _ _ _ (by simpa using h1.1) (by simpa using h2.1) (fun i v d hv hd => h1.2 i v d (by rw [← Array.toList_map, Array.getElem?_toList]; exact hv) hd) (fun i v d hv hd => h2.2 i v d (by rw [← Array.toList_map, Array.getElem?_toList]; exact hv) hd)
    simpa [execOp, Instr.makeFunc] using neu_value h3
  case h_17 x i =>
    obtain ⟨dx, hx, h⟩ := withO_elim h
    split at h
    · obtain ⟨d, hd, hK⟩ := withO_elim h
      refine ⟨d, fun X w e hS hG hr => ?_, hK⟩
      have hxr := hr x (by simp [Op.operands]) _ hx
      generalize hex : e x = v at hxr
      cases hxr with
      | tup cs ds hl hr' =>
        have hi : i < cs.size := by rw [hl]; exact (List.getElem?_eq_some_iff.1 hd).1
        have hc : cs[i]? = some cs[i] := by simp [hi]
        simpa [execOp, hex, Instr.extract, hc] using neu_value (hr' i _ d hc hd)
    · exact h.elim
  case h_18 x =>
    obtain ⟨dx, hx, h⟩ := withO_elim h
    split at h
    · refine ⟨_, fun X w e hS hG hr => ?_, h⟩
      have hxr := hr x (by simp [Op.operands]) _ hx
      obtain ⟨ad, hv, _⟩ := hxr.rp_cells
      simp only [execOp]
      rw [hv] at hxr ⊢
      simpa using neu_value hxr
    · refine ⟨_, fun X w e hS hG hr => ?_, h⟩
      have hxr := hr x (by simp [Op.operands]) _ hx
      generalize hex : e x = v at hxr
      cases hxr
      simpa [execOp, hex] using neu_value (R.ref _ _ _)
    · refine ⟨_, fun X w e hS hG hr => ?_, h⟩
      have hxr := hr x (by simp [Op.operands]) _ hx
      generalize hex : e x = v at hxr
      cases hxr with
      | fn f first caps ds es hl hk h1 h2 => simpa [execOp, hex] using neu_value (R.fn _ _ _ _ _ hl hk h1 h2)
    · exact h.elim
  case h_19 t m k ok =>
    obtain ⟨dm, hm, h⟩ := withO_elim h
    obtain ⟨dk, hk, h⟩ := withO_elim h
    obtain ⟨d, hK, hd⟩ := sound_lookup h
    refine ⟨d, fun X w e hS hG hr => ?_, hK⟩
    obtain ⟨u, h1, h2⟩ := hd w X _ _ hS (hr m (by simp [Op.operands]) dm hm) (hr k (by simp [Op.operands]) dk hk)
    simpa [execOp, h1] using neu_value h2
  case h_20 args argTypes =>
    split at h
    · rename_i x t hxl htl
      obtain ⟨dx, hx, h⟩ := withO_elim h
      obtain ⟨d, hK, hd⟩ := sound_len (ty := type) h
      refine ⟨d, fun X w e hS hG hr => ?_, hK⟩
      have ha : args = #[x] := by rw [← Array.toList_inj]; simpa using hxl
      have ht : argTypes = #[t] := by rw [← Array.toList_inj]; simpa using htl
      subst ha; subst ht
      obtain ⟨u, h1, h2⟩ := hd w X _ hS (hr x (by simp [Op.operands, Call.operands]) dx hx)
      simpa [execOp, resolve, invoke, builtin, h1] using neu_value h2
    · exact h.elim
  case h_21 args argTypes =>
    split at h
    · rename_i s x t t' hxl htl
      obtain ⟨rfl, h⟩ := h
      obtain ⟨ds, hs, h⟩ := withO_elim h
      obtain ⟨dx, hx, h⟩ := withO_elim h
      obtain ⟨d, hK, hd⟩ := sound_app (ty := type) h
      refine ⟨d, fun X w e hS hG hr => ?_, hK⟩
      have ha : args = #[s, x] := by rw [← Array.toList_inj]; simpa using hxl
      have ht : argTypes = #[t, t] := by rw [← Array.toList_inj]; simpa using htl
      subst ha; subst ht
      obtain ⟨u, w', h1, h2, h3⟩ := hd w (Mx X S) _ _ hS.newM (hr s (by simp [Op.operands, Call.operands]) ds hs) (hr x (by simp [Op.operands, Call.operands]) dx hx)
      simpa [execOp, resolve, invoke, builtin, h1] using neu_value' h2 h3
    · exact h.elim
  case h_22 args argTypes =>
    split at h
    · rename_i x y hxl
      obtain ⟨dx, hx, h⟩ := withO_elim h
      obtain ⟨dy, hy, h⟩ := withO_elim h
      split at h
      · refine ⟨_, fun X w e hS hG hr => ?_, h⟩
        have ha : args = #[x, y] := by rw [← Array.toList_inj]; simpa using hxl
        subst ha
        have hxr := hr x (by simp [Op.operands, Call.operands]) _ hx
        have hyr := hr y (by simp [Op.operands, Call.operands]) _ hy
        generalize hex : e x = vx at hxr
        generalize hey : e y = vy at hyr
        cases hxr; cases hyr
        simpa [execOp, resolve, invoke, builtin, Builtin.min_, Builtin.min2, hex, hey] using neu_value (R.int _ _)
      · exact h.elim
    · exact h.elim
  case h_23 args argTypes =>
    split at h
    · rename_i x y hxl
      obtain ⟨dx, hx, h⟩ := withO_elim h
      obtain ⟨dy, hy, h⟩ := withO_elim h
      split at h
      · refine ⟨_, fun X w e hS hG hr => ?_, h⟩
        have ha : args = #[x, y] := by rw [← Array.toList_inj]; simpa using hxl
        subst ha
        have hxr := hr x (by simp [Op.operands, Call.operands]) _ hx
        have hyr := hr y (by simp [Op.operands, Call.operands]) _ hy
        generalize hex : e x = vx at hxr
        generalize hey : e y = vy at hyr
        cases hxr; cases hyr
        simpa [execOp, resolve, invoke, builtin, Builtin.max_, Builtin.max2, hex, hey] using neu_value (R.int _ _)
      · exact h.elim
    · exact h.elim
  case h_24 f args argTypes =>
    obtain ⟨df, hf, h⟩ := withO_elim h
    obtain ⟨ds, hl, hds, h⟩ := withAll_elim h
    obtain ⟨d, hK, hd⟩ := sound_call h
    refine ⟨d, fun X w e hS hG hr => ?_, hK⟩
    have h1 := withAll_Rl hl hds (w := w) (M := Mx X S) (e := e) (fun x hx => hr x (by simp [Op.operands, Call.operands]; right; simpa using hx))
    have := hd w X (e f) (args.map e) hS hG (hr f (by simp [Op.operands, Call.operands]) df hf) (by simpa using h1)
    simpa [execOp, resolve] using this
  case h_25 x =>
    obtain ⟨dx, hx, h⟩ := withO_elim h
    obtain ⟨d, hK, hd⟩ := sound_entry (P := P) h
    refine ⟨d, fun X w e hS hG hr => ?_, hK⟩
    obtain ⟨u, h1, h2⟩ := hd w X (e x) hS (hr x (by simp [Op.operands]) dx hx)
    have e1 : (execOp e ⟨dst, .entry x, type, pos, after, guard⟩).run P w = .ok (.value u) w := by simp only [execOp, Sem.run_bind, h1, Result.andThen_ok, Sem.run_pure]
    rw [e1]; exact neu_value h2
  case h_26 => exact h.elim
end
end Go.Dw
