/-
  The thirteenth part of a program logic over deep data: states of a body, and the operations that turn the store.
  It speaks of any program; no condition.
  The fourteenth part of a program logic over deep data: the operations that turn the store, in every world.
  It speaks of any program; no condition.
  The fifteenth part of a program logic over deep data: stores, map updates and appends, in every world (stepE_sound).
  It speaks of any program; no condition.
  The sixteenth part of a program logic over deep data: appends to own rows, and stepE_sound.
  It speaks of any program; no condition.
-/
import Derived.Test.YtjbajnkbiohoeaaDoorDw3
import Derived.Maps.AppendAt
namespace Go.Dw
open Go Go.RowKit

structure St where
  N : Nat
  fr : List (Nat × D)
  st : List (Nat × O)

/-- What does not turn while a body runs. -/
structure Env where
  G : List (Nat × D)
  X : Nat → Prop
  B0 : Nat → Prop
  w0 : World
  ro : List Nat

structure Sig (E : Env) (φ : St) (a : Act) (w : World) : Prop where
  defers : a.defers = []
  size : a.tmps.size = φ.N
  fr : ∀ t d, look t φ.fr = some d → R w (Mx E.X φ.st) (a.tmps.getD t undef) d
  st : Stor w E.X φ.st
  ext : Ext E.B0 E.w0 w
  own : ∀ g o b, look g φ.st = some o → o.blk = some b → g ∉ E.ro → E.B0 b ∨ E.w0.heap.size ≤ b
  gl : Glob E.G w (Mx E.X φ.st)

def ev (G fr : List (Nat × D)) : Operand → Option D
  | .tmp t => look t fr
  | .const v => some (ofVal v)
  | .global g => look g G
  | .func f => some (.fn f [] [])
def putF (dst : Option Tmp) (d : D) (fr : List (Nat × D)) : List (Nat × D) := match dst with
  | some t => (t, d) :: fr
  | none => fr
def okDst (N : Nat) (dst : Option Tmp) : Prop := match dst with
  | some t => t < N
  | none => True

theorem Sig.ev {E : Env} {φ : St} {a : Act} {w : World} (h : Sig E φ a w) {x : Operand} {d : D} (hx : Go.Dw.ev E.G φ.fr x = some d) : R w (Mx E.X φ.st) (a.eval x) d := by
  cases x with
  | tmp t => exact h.fr t d hx
  | const v => simp [Go.Dw.ev] at hx; subst hx; exact R_ofVal v
  | global g => exact h.gl g d hx
  | func f => simp [Go.Dw.ev] at hx; subst hx; exact .fn _ _ _ _ _ rfl rfl (fun i v d h => by simp at h) (fun i v d h => by simp at h)

theorem getD_set {t s : Nat} {tmps : Array Value} {v : Value} (ht : t < tmps.size) : (tmps.setIfInBounds t v).getD s undef = if t = s then v else tmps.getD s undef := by
  simp only [Array.getD_eq_getD_getElem?, Array.getElem?_setIfInBounds]
  by_cases h : t = s
  · subst h; simp [ht]
  · simp [h]

/-- A step that leaves all old memory alone. -/
theorem Sig.put {E : Env} {φ : St} {a : Act} {w w' : World} (h : Sig E φ a w) (he : Ext Non w w') {v : Value} {d : D} (hv : R w' (Mx E.X φ.st) v d) {dst : Option Tmp} (hd : okDst φ.N dst) :
    Sig E { φ with fr := putF dst d φ.fr } (a.put dst v) w' := by
  have hst := h.st.ext he
  have hR : ∀ u e, R w (Mx E.X φ.st) u e → R w' (Mx E.X φ.st) u e := fun u e hr => hr.ext he (fun _ hf => hf.elim)
  cases dst with
  | none => exact ⟨h.defers, h.size, fun t d ht => hR _ _ (h.fr t d ht), hst, h.ext.trans he.non, h.own, fun g d hg => hR _ _ (h.gl g d hg)⟩
  | some t =>
    refine ⟨h.defers, by simpa [Act.put] using h.size, fun s e hs => ?_, hst, h.ext.trans he.non, h.own, fun g d hg => hR _ _ (h.gl g d hg)⟩
    simp only [putF, look] at hs
    simp only [Act.put]
    rw [getD_set (by rw [h.size]; exact hd)]
    split at hs
    · rename_i hts
      rw [if_pos hts]
      cases hs
      exact hv
    · rename_i hts
      rw [if_neg hts]
      exact hR _ _ (h.fr s e hs)

/-- A step that turns one object, or makes one. -/
theorem Sig.upd {E : Env} {φ : St} {a : Act} {w w' : World} (h : Sig E φ a w) {k : Nat} {o : O} {B : Nat → Prop} (he : Ext B w w')
    (hB : ∀ b, b < w.heap.size → B b → ∃ o0, look k φ.st = some o0 ∧ o0.blk = some b) (hk : k ∉ E.ro)
    (hblk : ∀ b, o.blk = some b → (∃ o0, look k φ.st = some o0 ∧ o0.blk = some b) ∨ w.heap.size ≤ b)
    (ho : ∀ M', (∀ b, b < w.heap.size → ¬ Mx E.X φ.st b → ¬ M' b) → ObjR w' M' o) :
    Sig E { φ with st := Go.Dw.upd k o φ.st } a w' ∧ (∀ b, b < w.heap.size → ¬ Mx E.X φ.st b → ¬ Mx E.X (Go.Dw.upd k o φ.st) b) := by
  have hM : ∀ b, b < w.heap.size → ¬ Mx E.X φ.st b → ¬ Mx E.X (Go.Dw.upd k o φ.st) b := by
    intro b hb hn hm
    rcases hm with hx | ⟨g, o', hg, hbb⟩
    · exact hn (.inl hx)
    · rw [look_upd] at hg
      split at hg
      · cases hg
        rcases hblk b hbb with ⟨o0, h1, h2⟩ | h1
        · exact hn (.inr ⟨k, o0, h1, h2⟩)
        · omega
      · exact hn (.inr ⟨g, o', hg, hbb⟩)
  have hBM : ∀ b, b < w.heap.size → B b → Mx E.X φ.st b := fun b hb hbb => by
    obtain ⟨o0, h1, h2⟩ := hB b hb hbb
    exact .inr ⟨k, o0, h1, h2⟩
  have hR : ∀ u e, R w (Mx E.X φ.st) u e → R w' (Mx E.X (Go.Dw.upd k o φ.st)) u e := fun u e hr => hr.mono he hBM hM
  have hsize := he.size
  refine ⟨⟨h.defers, h.size, fun t d ht => hR _ _ (h.fr t d ht), ⟨fun g o' hg => ?_, fun g g' o1 o2 b h1 h2 hb1 hb2 => ?_, fun b hb => Nat.lt_of_lt_of_le (h.st.x b hb) hsize, fun g o' b hg hb hx => ?_⟩, ?_, fun g o' b hg hb hro => ?_, fun g d hg => hR _ _ (h.gl g d hg)⟩, hM⟩
  · rw [look_upd] at hg
    split at hg
    · cases hg; exact ho _ hM
    · rename_i hne
      refine (h.st.obj g o' hg).mono he hBM hM (fun b hb hbb => ?_)
      obtain ⟨o0, h1, h2⟩ := hB b ((h.st.obj g o' hg).lt b hb) hbb
      exact hne (h.st.one k g o0 o' b h1 hg h2 hb)
  · rw [look_upd] at h1 h2
    split at h1 <;> split at h2
    · rename_i e1 e2; rw [← e1, ← e2]
    · rename_i e1 hne
      cases h1
      rcases hblk b hb1 with ⟨o0, h3, h4⟩ | h3
      · exact absurd (h.st.one k g' o0 o2 b h3 h2 h4 hb2) hne
      · have := (h.st.obj g' o2 h2).lt b hb2; omega
    · rename_i hne e2
      cases h2
      rcases hblk b hb2 with ⟨o0, h3, h4⟩ | h3
      · exact absurd (h.st.one k g o0 o1 b h3 h1 h4 hb1) hne
      · have := (h.st.obj g o1 h1).lt b hb1; omega
    · exact h.st.one g g' o1 o2 b h1 h2 hb1 hb2
  · rw [look_upd] at hg
    split at hg
    · cases hg
      rcases hblk b hb with ⟨o0, h3, h4⟩ | h3
      · exact h.st.sep k o0 b h3 h4 hx
      · have := h.st.x b hx; omega
    · exact h.st.sep g o' b hg hb hx
  · refine h.ext.trans' (B' := B) he (fun b hb => ?_)
    by_cases hlt : b < w.heap.size
    · obtain ⟨o0, h1, h2⟩ := hB b hlt hb
      exact h.own k o0 b h1 h2 hk
    · right; have := h.ext.size; omega
  · rw [look_upd] at hg
    split at hg
    · cases hg
      rcases hblk b hb with ⟨o0, h3, h4⟩ | h3
      · exact h.own k o0 b h3 h4 hk
      · right; have := h.ext.size; omega
    · exact h.own g o' b hg hb hro

/-! ### The operations -/
def unlook (k : D) (v : D) : List (D × D) → Option (List (D × D))
  | [] => some [(k, v)]
  | (k', v') :: r => match keyEq k k' with
    | some true => some ((k, v) :: r)
    | some false => (unlook k v r).map ((k', v') :: ·)
    | none => none

/-- What is appended: elements, or none. -/
def srcD (S : List (Nat × O)) (g : Nat) (x : D) (size : Nat) (K : List (List D) → Prop) : Prop :=
  match x with
  | .sl _ k es => k = size ∧ K es
  | .nil => K []
  | .own g' A n cap => g' ≠ g ∧ match look g' S with
    | some (.row A' n' cap' _ k es) => A' = A ∧ n' = n ∧ cap' = cap ∧ k = size ∧ K es
    | _ => False
  | _ => False

def stepE (P : Program) (E : Env) (o : Oper) (φ : St) (K : St → Prop) : Prop :=
  match o.op, o.dst with
  | .alloc t, some k => withO (zeroOf P t) fun zs => k ∉ E.ro ∧ k < φ.N ∧ ∀ b, K { φ with fr := putF (some k) (.ref k b 0) φ.fr, st := Go.Dw.upd k (.cells b zs) φ.st }
  | .store t a x, none => withO (Go.Dw.ev E.G φ.fr a) fun da => withO (Go.Dw.ev E.G φ.fr x) fun dx => withO (layOf P t) fun l => dx.known = true ∧ (∀ d ∈ dx.cells, d.one = true) ∧ dx.cells.length = l.2.1 ∧
      match da with
      | .ref g b off => g ∉ E.ro ∧ match look g φ.st with
        | some (.cells b' cs) => b' = b ∧ off + l.2.1 ≤ cs.length ∧ K { φ with st := Go.Dw.upd g (.cells b (cs.take off ++ dx.cells ++ cs.drop (off + l.2.1))) φ.st }
        | some (.row (some ad) n cap e size es) => ad.block = b ∧ l.2.1 = size ∧ 0 < size ∧ off / size < es.length ∧ off / size * size = off ∧ K { φ with st := Go.Dw.upd g (.row (some ad) n cap e size (es.set (off / size) dx.cells)) φ.st }
        | _ => False
      | _ => False
  | .makeMap _ none, some k => k ∉ E.ro ∧ k < φ.N ∧ ∀ r, K { φ with fr := putF (some k) (.mapr k r) φ.fr, st := Go.Dw.upd k (.map r []) φ.st }
  | .range t x, some k => k ∉ E.ro ∧ k < φ.N ∧ withO (Go.Dw.ev E.G φ.fr x) fun dx => match P.underlying t, dx with
      | some .string, .str l => ∀ r, K { φ with fr := putF (some k) (.it k r) φ.fr, st := Go.Dw.upd k (.sit r l 0) φ.st }
      | some (.map _ _), .mapr g m => g ≠ k ∧ match look g φ.st with
        | some (.map m' es) => m' = m ∧ ∀ r, K { φ with fr := putF (some k) (.it k r) φ.fr, st := Go.Dw.upd k (.mit r g m es.length []) φ.st }
        | _ => False
      | _, _ => False
  | .next x isS, some k => k < φ.N ∧ withO (Go.Dw.ev E.G φ.fr x) fun dx => match dx with
      | .it g r => g ∉ E.ro ∧ match look g φ.st, isS with
        | some (.sit r' l pos), true => r' = r ∧ (pos < l.length → K { φ with fr := putF (some k) (.tup [.bool true, .int .i64 pos, .int .i32 (Utf8.decode ⟨l.toArray⟩ pos).1]) φ.fr, st := Go.Dw.upd g (.sit r l (pos + (Utf8.decode ⟨l.toArray⟩ pos).2)) φ.st }) ∧
            (¬ pos < l.length → K { φ with fr := putF (some k) (.tup [.bool false]) φ.fr })
        | some (.mit r' gm mr n seen), false => r' = r ∧ gm ≠ g ∧ match look gm φ.st with
          | some (.map mr' es) => mr' = mr ∧ es.length = n ∧ (∀ (i : Nat) (p : D × D), es[i]? = some p → i ∉ seen → K { φ with fr := putF (some k) (.tup [.bool true, p.1, p.2]) φ.fr, st := Go.Dw.upd g (.mit r gm mr n (seen ++ [i])) φ.st }) ∧
              ((∀ i, i < n → i ∈ seen) → K { φ with fr := putF (some k) (.tup [.bool false]) φ.fr })
          | _ => False
        | _, _ => False
      | _ => False
  | .mapUpdate t m k v, none => withO (Go.Dw.ev E.G φ.fr m) fun dm => withO (Go.Dw.ev E.G φ.fr k) fun dk => withO (Go.Dw.ev E.G φ.fr v) fun dv =>
      match P.underlying t, dm with
      | some (.map kt _), .mapr g r => g ∉ E.ro ∧ (match P.underlying kt, dk with | some (.int _), .int _ _ => True | some .string, .str _ => True | _, _ => False) ∧ match look g φ.st with
        | some (.map r' es) => r' = r ∧ withO (unlook dk dv es) fun es' => K { φ with st := Go.Dw.upd g (.map r es') φ.st }
        | _ => False
      | _, _ => False
  | .makeSlice t l c, some k => withO (Go.Dw.ev E.G φ.fr l) fun dl => withO (Go.Dw.ev E.G φ.fr c) fun dc => withO (elOf P t) fun e => withO (zeroOf P e.1) fun zs => withO (layOf P e.1) fun lay =>
      match dl, dc with
      | .int _ n, .int _ m => k ∉ E.ro ∧ k < φ.N ∧ zs.length = e.2 ∧ lay.2.1 = e.2 ∧ 0 ≤ n ∧ n = m ∧ Room n.toNat lay.2.2 ∧
          ∀ A, K { φ with fr := putF (some k) (.own k A n.toNat n.toNat) φ.fr, st := Go.Dw.upd k (.row A n.toNat n.toNat e.1 e.2 (List.replicate n.toNat zs)) φ.st }
      | _, _ => False
  | .call { callee := .builtin .append, args, argTypes }, some k => match args.toList, argTypes.toList with
    | [s, x], [t, t'] => t = t' ∧ k < φ.N ∧ withO (Go.Dw.ev E.G φ.fr s) fun ds => withO (Go.Dw.ev E.G φ.fr x) fun dx => withO (elOf P t) fun e => withO (layOf P e.1) fun l => withO (zeroOf P e.1) fun zs =>
        l.2.1 = e.2 ∧ zs.length = e.2 ∧ 0 < e.2 ∧ match ds with
        | .own g A n cap => g ∉ E.ro ∧ match look g φ.st with
          | some (.row A' n' cap' e' size es) => A' = A ∧ n' = n ∧ cap' = cap ∧ e' = e.1 ∧ size = e.2 ∧ srcD φ.st g dx e.2 fun es' => (∀ c ∈ es', ∀ d ∈ c, d.one = true) ∧ Room (es.length + es'.length) l.2.2 ∧
              ∀ A1 cap1, K { φ with fr := putF (some k) (.own g A1 (es.length + es'.length) cap1) φ.fr, st := Go.Dw.upd g (.row A1 (es.length + es'.length) cap1 e' size (es ++ es')) φ.st }
          | _ => False
        | .nil => k ∉ E.ro ∧ look k φ.st = none ∧ srcD φ.st k dx e.2 fun es' => (∀ c ∈ es', ∀ d ∈ c, d.one = true) ∧ Room es'.length l.2.2 ∧
              ∀ A1 cap1, K { φ with fr := putF (some k) (.own k A1 es'.length cap1) φ.fr, st := Go.Dw.upd k (.row A1 es'.length cap1 e.1 e.2 es') φ.st }
        | _ => False
    | _, _ => False
  | _, _ => False

end Go.Dw

namespace Go.Dw
open Go Go.RowKit

section
variable {P : Program} {E : Env} {φ : St} {a : Act} {w : World} {K : St → Prop}

/-- What stepE comes to. -/
def EffOk (P : Program) (E : Env) (o : Oper) (a : Act) (w : World) (K : St → Prop) : Prop :=
  (∃ v w' φ', (execOp a.eval o).run P w = .ok (.value v) w' ∧ K φ' ∧ Sig E φ' (a.put o.dst v) w') ∨ (∃ w' φ', (execOp a.eval o).run P w = .ok .skip w' ∧ K φ' ∧ Sig E φ' (a.put o.dst undef) w')

theorem Rl_ofCells {w : World} {M : Nat → Prop} (vs : List Value) : Rl w M vs (vs.map ofCell) := by
  refine ⟨by simp, fun i v d hv hd => ?_⟩
  rw [List.getElem?_map, hv] at hd
  cases hd
  exact R_ofCell v
theorem zeroOf_val {t : TypeId} {zs : List D} (h : zeroOf P t = some zs) : ∃ inf z, P.info? t = some inf ∧ inf.zero = some z ∧ zs = z.cells.toList.map ofCell := by
  unfold zeroOf at h
  cases hi : P.info? t with
  | none => simp [hi] at h
  | some inf =>
    cases hz : inf.zero with
    | none => simp [hi, hz] at h
    | some z => simp [hi, hz] at h; exact ⟨inf, z, rfl, hz, by simp [h]⟩

theorem Sig.putv {E : Env} {φ : St} {a : Act} {w : World} (h : Sig E φ a w) {v : Value} {d : D} (hv : R w (Mx E.X φ.st) v d) {k : Nat} (hk : k < φ.N) :
    Sig E { φ with fr := putF (some k) d φ.fr } (a.put (some k) v) w := h.put (Ext.refl Non w) hv (dst := some k) hk

theorem ownsRow_at {base : Nat} {e : TypeId} {size n : Nat} {v : Value} {xs : List Value} (h : w.ownsRow base e size v n xs) : ∃ A cap, v = .slice A n cap ∧ (A = none ∧ cap = 0 ∧ n = 0 ∨ ∃ b, A = some ⟨b, 0, none⟩) := by
  rcases h.2 with ⟨rfl, rfl⟩ | ⟨g, cap, cur, rfl, _⟩
  · exact ⟨none, 0, rfl, .inl ⟨rfl, rfl, rfl⟩⟩
  · exact ⟨_, cap, rfl, .inr ⟨g, rfl⟩⟩

theorem grown_ext {w w' : World} {v : Value} (h : w.grownBy w' v.ownBlock) : Ext (fun b => v.ownBlock = some b) w w' :=
  ⟨h.os, h.tape, h.output, h.size, fun k hk hn => h.block k hk (fun e => hn e.symm)⟩

theorem le_maxLen {n : Nat} (h : n ≤ 140737488355328) : n ≤ maxLen := by unfold maxLen; omega
theorem flatten_cells {M : Nat → Prop} {k : Nat} : ∀ (l : List (List D)) (adr : Addr), (∀ y ∈ l, y.length = k) → (∀ (i : Nat) (y : List D), l[i]? = some y → CellsAt w M (adr.add (i * k)) y) → CellsAt w M adr l.flatten := by
  intro l
  induction l with
  | nil => intro adr _ _; exact ⟨[], .nil, fun j v h => by simp at h⟩
  | cons y l ih =>
    intro adr hy hc
    obtain ⟨vs, h1, h2⟩ := hc 0 y rfl
    obtain ⟨us, h3, h4⟩ := ih (adr.add k) (fun z hz => hy z (List.mem_cons_of_mem _ hz)) (fun i z hz => by
      have := hc (i + 1) z (by simpa using hz)
      rwa [Nat.add_mul, Nat.one_mul, Nat.add_comm, ← add_add] at this)
    refine ⟨vs ++ us, by simpa using h1.append h3, fun j v hv => ?_⟩
    have hvl : vs.length = k := h1.1.trans (hy y List.mem_cons_self)
    rcases Nat.lt_or_ge j vs.length with hj | hj
    · rw [List.getElem?_append_left hj] at hv
      simpa [Addr.add] using h2 j v hv
    · rw [List.getElem?_append_right hj] at hv
      have := h4 _ v hv
      rw [add_add] at this
      rwa [show k + (j - vs.length) = j by omega] at this

/-- What srcD says, in memory: an address and the cells there. -/
theorem srcD_sound {S : List (Nat × O)} {X : Nat → Prop} (hS : Stor w X S) {g : Nat} {x : D} {size : Nat} {K : List (List D) → Prop} (h : srcD S g x size K) :
    ∃ es, K es ∧ ∀ v, R w (Mx X S) v x → ∃ A cap, v = .slice A es.length cap ∧ (A = none ∧ es = [] ∨ ∃ ad, A = some ad ∧ (∀ c ∈ es, c.length = size) ∧ CellsAt w (Mx X S) ad es.flatten) := by
  unfold srcD at h
  split at h
  · rename_i f k es
    obtain ⟨rfl, h⟩ := h
    refine ⟨es, h, fun v hr => ?_⟩
    obtain ⟨A, cap, rfl, _, _, _, hsz, ad, hA, hcell⟩ := hr.sl_elem
    refine ⟨A, cap, rfl, ?_⟩
    cases A with
    | none =>
      by_cases hz : es = []
      · exact .inl ⟨rfl, hz⟩
      · obtain ⟨h0, _⟩ := hA (List.length_pos_iff.2 hz)
        cases h0
    | some ad' =>
      right
      by_cases hz : es = []
      · subst hz
        exact ⟨ad', rfl, hsz, [], by simpa using Rl.nil, fun j u h => by simp at h⟩
      · obtain ⟨h0, _⟩ := hA (List.length_pos_iff.2 hz)
        cases h0
        exact ⟨ad, rfl, hsz, flatten_cells es ad hsz hcell⟩
  · exact ⟨[], h, fun v hr => by cases hr; exact ⟨none, 0, rfl, .inl ⟨rfl, rfl⟩⟩⟩
  · rename_i g' A n cap
    obtain ⟨hne, h⟩ := h
    split at h
    · rename_i hl
      obtain ⟨rfl, rfl, rfl, rfl, h⟩ := h
      refine ⟨_, h, fun v hr => ?_⟩
      cases hr
      obtain ⟨hn, hsz, hle, hm, hA⟩ := (hS.obj _ _ hl).row_cells
      rw [hn]
      refine ⟨_, _, rfl, ?_⟩
      rcases hA with ⟨rfl, h1, rfl⟩ | ⟨b, rfl, _, hc⟩
      · exact .inl ⟨rfl, h1⟩
      · exact .inr ⟨_, rfl, hsz, hc⟩
    · exact h.elim
  · exact h.elim

theorem run_append_of_nil (base : Nat) (t ty e : TypeId) (i : TypeInfo) (size : Nat) (ht : P.underlying t = some (.slice e)) (hi : P.info? e = some i)
    (v : Value) (n : Nat) (xs : List Value) (hown : w.ownsRow base e size v n xs) (c : Nat) : (Builtin.append_ #[t, t] ty #[v, .slice none 0 c]).run P w = .ok v w := by
  rcases hown.2 with ⟨rfl, rfl⟩ | ⟨g, cap, cur, rfl, _, _, hnc, _⟩
  · simp [Builtin.append_, run_underlying ht, sizeOf, typeInfo, hi, Builtin.lenOf, Builtin.firstCells]
  · simp [Builtin.append_, run_underlying ht, sizeOf, typeInfo, hi, Builtin.lenOf, Builtin.firstCells, hnc, storeCells]

theorem layOf_info {t : TypeId} {b : Bool} {n by_ : Nat} {i : TypeInfo} (hl : layOf P t = some (b, n, by_)) (hi : P.info? t = some i) : i.size = n ∧ i.bytes = by_ := by
  unfold layOf at hl
  cases hu : P.underlying t with
  | none => simp [hu] at hl
  | some d => simp [hu, hi] at hl; exact hl.2

/-- An append to an own row. -/
theorem run_append_row {t ty e : TypeId} {size bytes : Nat} (he : elOf P t = some (e, size)) {ab : Bool} (hl : layOf P e = some (ab, size, bytes)) {zs : List D} (hz : zeroOf P e = some zs) (hzs : zs.length = size) (hsz : 0 < size)
    {v : Value} {n : Nat} {xs : List Value} (hown : w.ownsRow 0 e size v n xs) {A : Option Addr} {cap : Nat} {es' : List (List D)} {M : Nat → Prop}
    (hsrc : A = none ∧ es' = [] ∨ ∃ ad, A = some ad ∧ (∀ c ∈ es', c.length = size) ∧ CellsAt w M ad es'.flatten) (h1 : ∀ c ∈ es', ∀ d ∈ c, d.one = true) (hroom : Room (n + es'.length) bytes) :
    ∃ v' w' news, (Builtin.append_ #[t, t] ty #[v, .slice A es'.length cap]).run P w = .ok v' w' ∧ w'.ownsRow 0 e size v' (n + es'.length) (xs ++ news) ∧ w.grownBy w' v.ownBlock ∧ Rl w M news es'.flatten ∧
      (v'.ownBlock = v.ownBlock ∨ v'.ownBlock = some w.heap.size) := by
  obtain ⟨inf, hu, hi, hks⟩ := elOf_some he
  obtain ⟨hks', hby⟩ := layOf_info hl hi
  obtain ⟨inf', z, hi', hzz, hzv⟩ := zeroOf_val hz
  rw [hi] at hi'
  cases hi'
  rcases hsrc with ⟨rfl, rfl⟩ | ⟨ad, rfl, hlen, news, hr, hc⟩
  · refine ⟨v, w, [], run_append_of_nil 0 t ty e inf size hu hi v n xs hown cap, by simpa using hown, World.grownBy.refl w _, by simpa using Rl.nil, .inl rfl⟩
  · have hnl : news.length = es'.length * size := by rw [hr.1, flat_len hlen]
    have hone : ∀ u ∈ news, u.oneCell' = true := by
      intro u hu'
      obtain ⟨j, hj⟩ := List.mem_iff_getElem?.1 hu'
      have hjl : j < es'.flatten.length := by rw [← hr.1]; exact (List.getElem?_eq_some_iff.1 hj).1
      refine (hr.2 j u _ hj (List.getElem?_eq_getElem hjl)).oneCell ?_
      obtain ⟨c, hc1, hc2⟩ := List.mem_flatten.1 (List.getElem_mem hjl)
      exact h1 c hc1 _ hc2
    have hr1 := hroom.1
    have hr2 := hroom.2
    obtain ⟨v', w', hrun, h2, h3, _, h5⟩ := run_append_own_at (P := P) w 0 t ty e inf z size bytes hu hi hzz hks hby (by rw [hzv] at hzs; simpa using hzs) hsz v n xs hown ad es'.length cap news hnl hc hone (le_maxLen hr1) hr2 (Nat.zero_le _)
    exact ⟨v', w', news, hrun, h2, h3, hr, h5⟩

theorem effAlloc {t : TypeId} {k : Nat} {ty : TypeId} {pos : String} {after : Array Edge} {gd : Option (Nat × Bool)} (h : stepE P E ⟨some k, .alloc t, ty, pos, after, gd⟩ φ K) (hs : Sig E φ a w) : EffOk P E ⟨some k, .alloc t, ty, pos, after, gd⟩ a w K := by
  simp only [stepE] at h
  obtain ⟨zs, hz, hro, hkN, h⟩ := withO_elim h
  obtain ⟨inf, z, hi, hzz, rfl⟩ := zeroOf_val hz
  have hzr : (zeroValue t).run P w = .ok z w := by simp [zeroValue, typeInfo, hi, hzz]
  have hup := hs.upd (k := k) (o := .cells w.heap.size (z.cells.toList.map ofCell)) (B := Non) (Ext.alloc w (.cells z.cells t)) (fun _ _ hf => hf.elim) hro (fun b hb => .inr (by simp [O.blk] at hb; omega))
    (fun M' hM => ⟨z.cells, t, heap_alloc_new w _, Rl_ofCells _⟩)
  refine .inl ⟨.pointer (some ⟨w.heap.size, 0, none⟩), w.alloc (.cells z.cells t), _, ?_, h w.heap.size, (hup.1.putv (.ref k w.heap.size 0) hkN)⟩
  simp [execOp, Instr.alloc, hzr, newVar, newRow]

theorem effMakeMap {t : TypeId} {k : Nat} {ty : TypeId} {pos : String} {after : Array Edge} {gd : Option (Nat × Bool)} (h : stepE P E ⟨some k, .makeMap t none, ty, pos, after, gd⟩ φ K) (hs : Sig E φ a w) : EffOk P E ⟨some k, .makeMap t none, ty, pos, after, gd⟩ a w K := by
  simp only [stepE] at h
  obtain ⟨hro, hkN, h⟩ := h
  have hup := hs.upd (k := k) (o := .map w.heap.size []) (B := Non) (Ext.alloc w (.map #[] 0)) (fun _ _ hf => hf.elim) hro (fun b hb => .inr (by simp [O.blk] at hb; omega))
    (fun M' hM => ⟨#[], heap_alloc_new w _, rfl, fun i me hi => by simp at hi, fun i me p hi => by simp at hi⟩)
  refine .inl ⟨.map (some w.heap.size), w.alloc (.map #[] 0), _, ?_, h w.heap.size, (hup.1.putv (.mapr k w.heap.size) hkN)⟩
  simp [execOp, Instr.makeMap]

theorem effMakeSlice {t : TypeId} {l c : Operand} {k : Nat} {ty : TypeId} {pos : String} {after : Array Edge} {gd : Option (Nat × Bool)} (h : stepE P E ⟨some k, .makeSlice t l c, ty, pos, after, gd⟩ φ K) (hs : Sig E φ a w) :
    EffOk P E ⟨some k, .makeSlice t l c, ty, pos, after, gd⟩ a w K := by
  simp only [stepE] at h
  obtain ⟨dl, hdl, h⟩ := withO_elim h
  obtain ⟨dc, hdc, h⟩ := withO_elim h
  obtain ⟨⟨e, size⟩, he, h⟩ := withO_elim h
  obtain ⟨zs, hz, h⟩ := withO_elim h
  obtain ⟨⟨ab, size', bytes⟩, hlay, h⟩ := withO_elim h
  obtain ⟨kl, n, rfl⟩ : ∃ kl n, dl = .int kl n := by cases dl <;> first | exact ⟨_, _, rfl⟩ | exact h.elim
  obtain ⟨kc, m, rfl⟩ : ∃ kc m, dc = .int kc m := by cases dc <;> first | exact ⟨_, _, rfl⟩ | exact h.elim
  · skip
    obtain ⟨hro, hkN, hzs, hse, h0, rfl, hroom, h⟩ := h
    simp only at hzs hse hroom h
    subst hse
    obtain ⟨inf, hu, hi, hks⟩ := elOf_some he
    obtain ⟨_, hby⟩ := layOf_info hlay hi
    obtain ⟨inf', z, hi', hzz, rfl⟩ := zeroOf_val hz
    rw [hi] at hi'
    cases hi'
    have hzr : (zeroValue e).run P w = .ok z w := by simp [zeroValue, typeInfo, hi, hzz]
    have hl := hs.ev hdl
    have hc := hs.ev hdc
    generalize hel : a.eval l = vl at hl
    generalize hec : a.eval c = vc at hc
    cases hl; cases hc
    obtain ⟨hr1, hr2⟩ := hroom
    have hw : IntKind.i64.wrap n = n := IntWalk.i64_in n (by omega)
    have hnn : ((n.toNat : Nat) : Int) = n := by omega
    have hzc : z.cells.size = size' := by simpa using hzs
    obtain ⟨cur, hcur⟩ : ∃ cur : Array Value, cur = ((List.replicate n.toNat z.cells.toList).flatten).toArray := ⟨_, rfl⟩
    have hown : (w.alloc (.cells cur e)).ownsRow 0 e size' (.slice (some ⟨w.heap.size, 0, none⟩) n.toNat n.toNat) n.toNat cur.toList := by
      have hsz : cur.size = n.toNat * size' := by
        rw [hcur]; simp [hzc]
      refine ⟨by simpa using hsz, .inr ⟨w.heap.size, n.toNat, cur, rfl, Nat.zero_le _, heap_alloc_new w _, Nat.le_refl _, le_maxLen hr1, hsz, ?_⟩⟩
      rw [← hsz]; exact List.take_of_length_le (by simp)
    have hup := hs.upd (k := k) (o := .row (some ⟨w.heap.size, 0, none⟩) n.toNat n.toNat e size' (List.replicate n.toNat (z.cells.toList.map ofCell))) (B := Non) (Ext.alloc w (.cells cur e)) (fun _ _ hf => hf.elim) hro
      (fun b hb => .inr (by simp [O.blk] at hb; omega))
      (fun M' hM => ⟨by simp, fun x hx => by rw [List.eq_of_mem_replicate hx]; simpa using hzs, cur.toList, by rw [List.length_replicate]; exact hown, by
        rw [hcur]
        have : (List.replicate n.toNat (z.cells.toList.map ofCell)).flatten = ((List.replicate n.toNat z.cells.toList).flatten).map ofCell := by rw [List.map_flatten, List.map_replicate]
        rw [this]
        exact Rl_ofCells _⟩)
    refine .inl ⟨.slice (some ⟨w.heap.size, 0, none⟩) n.toNat n.toNat, w.alloc (.cells cur e), _, ?_, h _, (hup.1.putv (.own k _ _ _) hkN)⟩
    have hsize : (sizeOf e).run P w = .ok size' w := by simp [sizeOf, typeInfo, hi, hks]
    have hmul : (bytes : Int) * n ≤ 140737488355328 := by
      have : ((n.toNat * bytes : Nat) : Int) ≤ 140737488355328 := Int.ofNat_le.2 hr2
      rw [Int.natCast_mul, hnn] at this
      rw [Int.mul_comm]; exact this
    have hcells : ∀ zc : Array Value, (n.toNat * size' ≠ 0 → zc = z.cells) → (Array.range (n.toNat * size')).map (fun x => zc[x % zc.size]!) = cur := by
      intro zc hzc'
      rw [hcur, ← Array.toList_inj]
      by_cases h0 : n.toNat * size' = 0
      · have h1 : (List.replicate n.toNat z.cells.toList).flatten = [] := by
          apply List.eq_nil_of_length_eq_zero; simp [hzc, h0]
        simp [h0, h1]
      · have hz' := hzc' h0
        subst hz'
        apply List.ext_getElem?
        intro j
        simp only [Array.toList_map, Array.toList_range, List.getElem?_map]
        by_cases hj : j < n.toNat * size'
        · have hpos : 0 < size' := by
            rcases Nat.eq_zero_or_pos size' with h | h
            · subst h; simp at hj
            · exact h
          rw [List.getElem?_range hj]
          have hmod : j % size' < z.cells.size := by rw [hzc]; exact Nat.mod_lt _ hpos
          have hdiv : j / size' < n.toNat := Nat.div_lt_of_lt_mul (by rw [Nat.mul_comm]; exact hj)
          have hg := flat_get (k := size') (es := List.replicate n.toNat z.cells.toList) (i := j / size') (e := z.cells.toList) (fun x hx => by rw [List.eq_of_mem_replicate hx]; simpa using hzc) (by simp [hdiv])
          have h5 : (((List.replicate n.toNat z.cells.toList).flatten.drop (j / size' * size')).take size')[j % size']? = z.cells.toList[j % size']? := by rw [hg]
          rw [List.getElem?_take, if_pos (Nat.mod_lt _ hpos), List.getElem?_drop, show j / size' * size' + j % size' = j by rw [Nat.mul_comm]; exact Nat.div_add_mod j size'] at h5
          rw [h5]
          simp only [hzc, Option.map_some, Array.getElem?_toList]
          rw [getElem!_pos z.cells _ hmod, Array.getElem?_eq_getElem hmod]
        · rw [List.getElem?_eq_none (by simpa using hj)]
          rw [List.getElem?_eq_none (by simp [hzc]; simpa using hj)]
          rfl
    have hneg : ¬ n < 0 := by omega
    have hbig : ¬ ((281474976710656 : Int) < (bytes : Int) * n) := by omega
    have hfin : ∀ zc : Array Value, (n.toNat * size' ≠ 0 → zc = z.cells) → (do
        let a ← newRow e ((Array.range (n.toNat * size')).map fun x => zc[x % zc.size]!)
        pure (Value.slice (some a) n.toNat n.toNat) : Sem Value).run P w = .ok (.slice (some ⟨w.heap.size, 0, none⟩) n.toNat n.toNat) (w.alloc (.cells cur e)) := by
      intro zc hzc'
      rw [hcells zc hzc']
      simp [newRow]
    have hti : (typeInfo e).run P w = .ok inf w := by simp [typeInfo, hi]
    have hbig' : ¬ ((inf.bytes : Int) * n > 2 ^ 48) := by rw [hby]; simpa using hbig
    simp only [execOp, hel, hec, Instr.makeSlice, Sem.run_bind, run_underlying hu, Result.andThen_ok, asInt, asIntOf, Sem.run_pure, hti, hw]
    simp only [hneg, hbig', decide_false, Bool.or_false, Bool.false_eq_true, if_false, Int.lt_irrefl, gt_iff_lt, Sem.run_bind, run_askRoom, Result.andThen_ok, hsize, Sem.run_ite]
    by_cases hz0 : n.toNat * size' = 0
    · simp only [hz0, if_true, Sem.run_pure, Result.andThen_ok]
      have := hfin #[] (fun h => absurd hz0 h)
      simp only [hz0, Sem.run_bind, Sem.run_pure] at this
      simp only [this, Result.andThen_ok]
    · simp only [hz0, if_false, hzr, Sem.run_pure, Result.andThen_ok, Sem.run_bind]
      have := hfin z.cells (fun _ => rfl)
      simp only [Sem.run_bind, Sem.run_pure] at this
      simp only [this, Result.andThen_ok]
end
end Go.Dw

namespace Go.Dw
open Go Go.RowKit

section
variable {P : Program} {E : Env} {φ : St} {a : Act} {w : World} {K : St → Prop}

theorem flat_set {n : Nat} (x : List D) : ∀ (es : List (List D)) (i : Nat), (∀ c ∈ es, c.length = n) → i < es.length → (es.set i x).flatten = es.flatten.take (i * n) ++ x ++ es.flatten.drop (i * n + n)
  | [], i, _, hi => by simp at hi
  | c :: es, 0, hc, _ => by simp [hc c List.mem_cons_self]
  | c :: es, i + 1, hc, hi => by
    have hcl := hc c List.mem_cons_self
    have ih := flat_set x es i (fun y hy => hc y (List.mem_cons_of_mem _ hy)) (by simpa using hi)
    have e0 : (i + 1) * n = n + i * n := by rw [Nat.add_mul, Nat.one_mul, Nat.add_comm]
    have e1 : (c ++ es.flatten).take ((i + 1) * n) = c ++ es.flatten.take (i * n) := by
      rw [e0, ← hcl, List.take_length_add_append]
    have e2 : (c ++ es.flatten).drop ((i + 1) * n + n) = es.flatten.drop (i * n + n) := by
      rw [e0, Nat.add_assoc, List.drop_append, List.drop_eq_nil_of_le (by omega), List.nil_append]
      congr 1
      omega
    simp only [List.set_cons_succ, List.flatten_cons]
    rw [e1, e2, ih]
    simp [List.append_assoc]

theorem setRow_ext (w : World) (g : Nat) (cs : Array Value) : Ext (fun b => b = g) w (w.setRow g cs) :=
  ⟨rfl, rfl, rfl, by simp, fun k _ hn => setRow_other w g k cs hn⟩

theorem effStore {t : TypeId} {x y : Operand} {ty : TypeId} {pos : String} {after : Array Edge} {gd : Option (Nat × Bool)} (h : stepE P E ⟨none, .store t x y, ty, pos, after, gd⟩ φ K) (hs : Sig E φ a w) :
    EffOk P E ⟨none, .store t x y, ty, pos, after, gd⟩ a w K := by
  simp only [stepE] at h
  obtain ⟨da, hda, h⟩ := withO_elim h
  obtain ⟨dx, hdx, h⟩ := withO_elim h
  obtain ⟨⟨ab, n, bytes⟩, hl, hkn, hone, hlen, h⟩ := withO_elim h
  have hx := hs.ev hda
  have hy := hs.ev hdx
  obtain ⟨g, b, off, rfl⟩ : ∃ g b off, da = .ref g b off := by cases da <;> first | exact ⟨_, _, _, rfl⟩ | exact h.elim
  simp only at h hlen
  obtain ⟨hro, h⟩ := h
  generalize hex : a.eval x = vx at hx
  cases hx
  have hcs := hy.cells hkn
  have hvs : (a.eval y).cells.size = n := by have := hcs.1; simp at this; omega
  have h1 : ∀ v ∈ (a.eval y).cells.toList, v.oneCell' = true := by
    intro v hv
    obtain ⟨j, hj⟩ := List.mem_iff_getElem?.1 hv
    have hjl : j < dx.cells.length := by rw [← hcs.1]; exact (List.getElem?_eq_some_iff.1 hj).1
    exact (hcs.2 j v _ hj (List.getElem?_eq_getElem hjl)).oneCell (hone _ (List.getElem_mem hjl))
  have hsz : (sizeOf t).run P w = .ok n w := run_sizeOf_lay hl
  -- the run of the store, once the block is known
  have hrun : ∀ cur e, w.heap[b]? = some (.cells cur e (0, 0)) → off + n ≤ cur.size →
      (execOp a.eval ⟨none, .store t x y, ty, pos, after, gd⟩).run P w = .ok .skip (w.setRow b (cur.toList.take off ++ (a.eval y).cells.toList ++ cur.toList.drop (off + n)).toArray) := by
    intro cur e hb hle
    have hst := run_storeCells_at P b off e (a.eval y).cells.toList 0 cur w hb (by simp; omega) h1
    simp only [Nat.add_zero, Array.length_toList, hvs] at hst
    simp only [execOp, hex, Instr.storeAt, Instr.sureAddr, storeVar, Sem.run_bind, Sem.run_pure, Result.andThen_ok, hsz]
    rw [if_neg (by simp [hvs])]
    simp only [hst, Result.andThen_ok, Sem.run_pure]
  cases hlk : look g φ.st with
  | none => rw [hlk] at h; exact h.elim
  | some o0 =>
    rw [hlk] at h
    cases o0 with
    | cells b' cs =>
      simp only at h
      obtain ⟨rfl, hle, h⟩ := h
      obtain ⟨cur, e, hb, hr⟩ := hs.st.obj _ _ hlk
      have hcl : cur.size = cs.length := by simpa using hr.1
      have hup := hs.upd (k := g) (o := .cells b' (cs.take off ++ dx.cells ++ cs.drop (off + n))) (setRow_ext w b' _) (fun b hb hbb => ⟨_, hlk, by rw [hbb]; rfl⟩) hro (fun b hb => .inl ⟨_, hlk, hb⟩)
        (fun M' hM => ⟨(cur.toList.take off ++ (a.eval y).cells.toList ++ cur.toList.drop (off + n)).toArray, e, setRow_heap w b' cur _ e (0, 0) hb, by
          have := (hr.splice hcs off)
          simp only [Array.length_toList, hvs, hlen] at this
          exact (by simpa using this : Rl w (Mx E.X φ.st) _ _).mono (setRow_ext w b' _) (fun b hb hbb => .inr ⟨g, _, hlk, by rw [hbb]; rfl⟩) hM⟩)
      exact .inr ⟨_, _, hrun cur e hb (by omega), h, hup.1⟩
    | row A m cap e size es =>
      cases A with
      | none => exact h.elim
      | some ad =>
        simp only at h
        obtain ⟨hadb, hns, hpos, hidx, hmul, h⟩ := h
        obtain ⟨rfl, hszs, xs, hown, hr⟩ := hs.st.obj _ _ hlk
        rcases hown.2 with ⟨hv, _⟩ | ⟨g', cap', cur, hv, hbase, hb, hle, hmx, hcs', htake⟩
        · cases hv
        · injection hv with e1 e2 e3
          cases e1
          subst e3
          simp only at hadb
          subst hadb
          subst hns
          have hfl := flat_len hszs
          have hle2 : off + n ≤ es.length * n := by rw [← hmul, ← Nat.succ_mul]; exact Nat.mul_le_mul_right _ hidx
          have hle3 : es.length * n ≤ cur.size := by rw [hcs']; exact Nat.mul_le_mul_right _ hle
          -- the flat cells behind the store
          have hflat : (es.set (off / n) dx.cells).flatten = es.flatten.take off ++ dx.cells ++ es.flatten.drop (off + n) := by
            have := flat_set dx.cells es (off / n) hszs hidx
            rwa [hmul] at this
          have hnew : ∀ c ∈ es.set (off / n) dx.cells, c.length = n := by
            intro c hc
            rcases List.mem_or_eq_of_mem_set hc with h | h
            · exact hszs c h
            · rw [h]; exact hlen
          have hxl : xs.length = es.length * n := hown.1
          have hup := hs.upd (k := g) (o := .row (some ⟨g', 0, none⟩) es.length cap e n (es.set (off / n) dx.cells)) (setRow_ext w g' (cur.toList.take off ++ (a.eval y).cells.toList ++ cur.toList.drop (off + n)).toArray)
            (fun b hb hbb => ⟨_, hlk, by rw [hbb]; rfl⟩) hro (fun b hb => .inl ⟨_, hlk, hb⟩)
            (fun M' hM => ⟨by simp, hnew, xs.take off ++ (a.eval y).cells.toList ++ xs.drop (off + n), by
              rw [List.length_set]
              refine ⟨by simp [hvs]; omega, .inr ⟨g', cap, _, rfl, hbase, setRow_heap w g' cur _ e (0, 0) hb, hle, hmx, by simp [hvs]; omega, ?_⟩⟩
              rw [← htake]
              have ht : (cur.toList.take off ++ (a.eval y).cells.toList).length = off + n := by simp [hvs]; omega
              rw [List.toList_toArray, List.take_append, List.take_of_length_le (by rw [ht]; exact hle2), ht, List.take_take, Nat.min_eq_left (by omega), List.drop_take]
              , by
              have := (hr.splice hcs off)
              simp only [Array.length_toList, hvs, hlen] at this
              rw [hflat]
              exact this.mono (setRow_ext w g' _) (fun b hb hbb => .inr ⟨g, _, hlk, by rw [hbb]; rfl⟩) hM⟩)
          exact .inr ⟨_, _, hrun cur e hb (by omega), h, hup.1⟩
    | map r es => exact h.elim
    | sit r s p => exact h.elim
    | mit r gm mr n seen => exact h.elim

theorem unlook_sound {kt : TypeId} {k v : Value} {dk dv : D} {w : World} {M : Nat → Prop} {desc : TypeDesc} (hu : P.underlying kt = some desc)
    (hk : match P.underlying kt, dk with | some (.int _), .int _ _ => True | some .string, .str _ => True | _, _ => False) (hr : R w M k dk) (hv : R w M v dv) :
    ∀ (ents : List MapEntry) (es es' : List (D × D)) (n : Nat), ents.length = es.length → (∀ (i : Nat) (me : MapEntry) (p : D × D), ents[i]? = some me → es[i]? = some p → R w M me.key p.1 ∧ R w M me.val p.2) →
      unlook dk dv es = some es' →
      (∃ i val, Instr.findNow desc k ents n = some (some (n + i, val)) ∧ i < ents.length ∧ (∀ me, ents[i]? = some me → me.key = k) ∧ es' = es.set i (dk, dv)) ∨ (Instr.findNow desc k ents n = some none ∧ es' = es ++ [(dk, dv)])
  | [], [], es', n, _, _, h => by simp [unlook] at h; exact .inr ⟨rfl, by simp [← h]⟩
  | [], _ :: _, es', n, hl, _, _ => by simp at hl
  | _ :: _, [], es', n, hl, _, _ => by simp at hl
  | me :: ents, (kd, vd) :: es, es', n, hl, he, h => by
    obtain ⟨h1, h2⟩ := he 0 me (kd, vd) rfl rfl
    have hkey : ∀ b, keyEq dk kd = some b → Instr.sameNow desc k me.key = some b ∧ (b = true → me.key = k) := by
      intro b hb
      rw [hu] at hk
      cases desc <;> cases dk <;> simp only at hk
      all_goals cases hr
      all_goals cases kd <;> simp only [keyEq] at hb
      all_goals try (cases hb; done)
      · simp only at h1
        generalize hmk : me.key = mk at *
        cases h1
        split at hb
        · rename_i hkk
          simp only [Option.some.injEq] at hb
          subst hb
          subst hkk
          refine ⟨by simp [Instr.sameNow, beqD], fun h => ?_⟩
          simp at h
          rw [h]
        · cases hb
      · simp only at h1
        generalize hmk : me.key = mk at *
        cases h1
        rename_i s1 hs1 _ s2 hs2
        simp only [Option.some.injEq] at hb
        subst hb
        refine ⟨?_, fun h => ?_⟩
        · simp only [Instr.sameNow, beq_data, Option.some.injEq]
          rw [hs1, hs2, beqL]
        · simp at h
          rw [h] at hs1
          rw [data_inj (hs1.trans hs2.symm)]
    simp only [unlook] at h
    cases hkq : keyEq dk kd with
    | none => simp [hkq] at h
    | some b =>
      obtain ⟨hsn, hke⟩ := hkey b hkq
      simp only [Instr.findNow, hsn]
      cases b with
      | true =>
        simp [hkq] at h
        exact .inl ⟨0, me.val, by simp, by simp, fun me' hme => by simp at hme; subst hme; exact hke rfl, by simp [← h]⟩
      | false =>
        simp [hkq] at h
        obtain ⟨es1, h3, rfl⟩ := h
        rcases unlook_sound hu hk hr hv ents es es1 (n + 1) (by simpa using hl) (fun i m p hm hp => he (i + 1) m p (by simpa using hm) (by simpa using hp)) h3 with ⟨i, val, h4, h5, h6, h7⟩ | ⟨h4, h5⟩
        · exact .inl ⟨i + 1, val, by rw [h4, show n + 1 + i = n + (i + 1) by omega], by simpa using h5, fun me' hme => h6 me' (by simpa using hme), by simp [h7]⟩
        · exact .inr ⟨h4, by simp [h5]⟩

theorem sameBits_refl {k : Value} {dk : D} {w : World} {M : Nat → Prop} {t : Option TypeDesc} (hk : match t, dk with | some (.int _), .int _ _ => True | some .string, .str _ => True | _, _ => False) (hr : R w M k dk) : Instr.sameBits 10000 k k = true := by
  have : ∀ n, Instr.sameBits n k k = true := by
    intro n
    split at hk
    · cases hr; cases n <;> simp [Instr.sameBits]
    · cases hr; cases n <;> simp [Instr.sameBits, beq_data]
    · exact hk.elim
  exact this _

theorem effMapUpdate {t : TypeId} {m k v : Operand} {ty : TypeId} {pos : String} {after : Array Edge} {gd : Option (Nat × Bool)} (h : stepE P E ⟨none, .mapUpdate t m k v, ty, pos, after, gd⟩ φ K) (hs : Sig E φ a w) :
    EffOk P E ⟨none, .mapUpdate t m k v, ty, pos, after, gd⟩ a w K := by
  simp only [stepE] at h
  obtain ⟨dm, hdm, h⟩ := withO_elim h
  obtain ⟨dk, hdk, h⟩ := withO_elim h
  obtain ⟨dv, hdv, h⟩ := withO_elim h
  have hm := hs.ev hdm
  have hk := hs.ev hdk
  have hv := hs.ev hdv
  split at h
  · rename_i kt et g r hu _ _
    obtain ⟨hro, hkey, h⟩ := h
    cases hlk : look g φ.st with
    | none => rw [hlk] at h; exact h.elim
    | some o0 =>
      rw [hlk] at h
      cases o0 with
      | map r' es =>
        simp only at h
        obtain ⟨rfl, h⟩ := h
        obtain ⟨es', hes', h⟩ := withO_elim h
        obtain ⟨ents, hb, hsz, hborn, hents⟩ := hs.st.obj _ _ hlk
        have hdesc : ∃ desc, P.underlying kt = some desc := by
          cases hd : P.underlying kt with
          | none => rw [hd] at hkey; exact hkey.elim
          | some desc => exact ⟨desc, rfl⟩
        obtain ⟨desc, hd⟩ := hdesc
        generalize hem : a.eval m = vm at hm
        cases hm
        have hbl := (Array.getElem?_eq_some_iff.1 hb).1
        have hck := checkKey_plain (P := P) (w := w) hkey hk false
        have hsb := sameBits_refl hkey hk
        have hext : ∀ o, Ext (fun b => b = r') w { w with heap := w.heap.setIfInBounds r' o } := fun o => ⟨rfl, rfl, rfl, by simp, fun k _ hn => by
          have : r' ≠ k := fun h => hn h.symm
          simp [Array.getElem?_setIfInBounds, this]⟩
        have hnew : ∀ o, ({ w with heap := w.heap.setIfInBounds r' o } : World).heap[r']? = some o := fun o => by simp [hbl]
        rcases unlook_sound (P := P) hd hkey hk hv ents.toList es es' 0 (by simpa using hsz) (fun i me p hi hp => hents i me p (by simpa using hi) hp) hes' with ⟨i, val, hf, hi, hkk, rfl⟩ | ⟨hf, rfl⟩
        · have hi' : i < ents.size := by simpa using hi
          have hki : ents[i].key = a.eval k := hkk _ (by simp [hi'])
          have hup := hs.upd (k := g) (o := .map r' (es.set i (dk, dv))) (hext (.map (ents.modify i fun e => { e with key := a.eval k, val := a.eval v }) ents.size)) (fun b hb hbb => ⟨_, hlk, by rw [hbb]; rfl⟩) hro (fun b hb => .inl ⟨_, hlk, hb⟩)
            (fun M' hM => ⟨_, by rw [hnew, Array.size_modify], by simp [hsz], fun j me hj => by
              rw [Array.getElem?_modify] at hj
              split at hj
              · cases hen : ents[j]? with
                | none => simp [hen] at hj
                | some me0 => simp [hen] at hj; subst hj; exact hborn j me0 hen
              · exact hborn j me hj, fun j me p hj hp => by
              have hR : ∀ u e, R w (Mx E.X φ.st) u e → R _ M' u e := fun u e hr => hr.mono (hext (.map (ents.modify i fun e => { e with key := a.eval k, val := a.eval v }) ents.size)) (fun b hb hbb => .inr ⟨g, _, hlk, by rw [hbb]; rfl⟩) hM
              rw [Array.getElem?_modify] at hj
              rw [List.getElem?_set] at hp
              by_cases hij : i = j
              · subst hij
                rw [if_pos rfl] at hj hp
                have hlt : i < es.length := by omega
                rw [if_pos hlt] at hp
                cases hp
                cases hen : ents[i]? with
                | none => simp [hen] at hj
                | some me0 =>
                  simp [hen] at hj
                  subst hj
                  exact ⟨hR _ _ hk, hR _ _ hv⟩
              · rw [if_neg hij] at hj hp
                exact ⟨hR _ _ (hents j me p hj hp).1, hR _ _ (hents j me p hj hp).2⟩⟩)
          refine .inr ⟨_, _, ?_, h, hup.1⟩
          simp [execOp, hem, Instr.mapUpdate, run_underlying hu, getObj, Sem.run, hb, hck, Instr.findKey, run_underlying hd, hf, hi', hki, Instr.keyThatStays, hsb, setObj]
        · have hup := hs.upd (k := g) (o := .map r' (es ++ [(dk, dv)])) (hext (.map (ents.push { key := a.eval k, val := a.eval v, born := ents.size }) (ents.size + 1))) (fun b hb hbb => ⟨_, hlk, by rw [hbb]; rfl⟩) hro (fun b hb => .inl ⟨_, hlk, hb⟩)
            (fun M' hM => ⟨_, by rw [hnew, Array.size_push], by simp [hsz], fun j me hj => by
              rw [Array.getElem?_push] at hj
              split at hj
              · rename_i hjn; cases hj; exact hjn.symm
              · exact hborn j me hj, fun j me p hj hp => by
              have hR : ∀ u e, R w (Mx E.X φ.st) u e → R _ M' u e := fun u e hr => hr.mono (hext (.map (ents.push { key := a.eval k, val := a.eval v, born := ents.size }) (ents.size + 1))) (fun b hb hbb => .inr ⟨g, _, hlk, by rw [hbb]; rfl⟩) hM
              rw [Array.getElem?_push] at hj
              split at hj
              · rename_i hjn
                cases hj
                rw [hjn, hsz, List.getElem?_concat_length] at hp
                cases hp
                exact ⟨hR _ _ hk, hR _ _ hv⟩
              · rename_i hjn
                have hjl : j < ents.size := (Array.getElem?_eq_some_iff.1 hj).1
                rw [List.getElem?_append_left (by omega)] at hp
                exact ⟨hR _ _ (hents j me p hj hp).1, hR _ _ (hents j me p hj hp).2⟩⟩)
          refine .inr ⟨_, _, ?_, h, hup.1⟩
          simp [execOp, hem, Instr.mapUpdate, run_underlying hu, getObj, Sem.run, hb, hck, Instr.findKey, run_underlying hd, hf, setObj]
      | cells b cs => exact h.elim
      | row A n cap e size es => exact h.elim
      | sit r s p => exact h.elim
      | mit r gm mr n seen => exact h.elim
  · exact h.elim
end
end Go.Dw

namespace Go.Dw
open Go Go.RowKit

section
variable {P : Program} {E : Env} {φ : St} {a : Act} {w : World} {K : St → Prop}

theorem srcD_self {S : List (Nat × O)} {g : Nat} {x : D} {size : Nat} {K : List (List D) → Prop} (h : srcD S g x size K) : ∃ es, K es ∧ srcD S g x size (· = es) := by
  unfold srcD at h ⊢
  split at h
  · exact ⟨_, h.2, h.1, rfl⟩
  · exact ⟨_, h, rfl⟩
  · obtain ⟨hne, h⟩ := h
    split at h
    · obtain ⟨h1, h2, h3, h4, h⟩ := h
      exact ⟨_, h, hne, h1, h2, h3, h4, rfl⟩
    · exact h.elim
  · exact h.elim

theorem effAppend {args : Array Operand} {argTypes : Array TypeId} {k : Nat} {ty : TypeId} {pos : String} {after : Array Edge} {gd : Option (Nat × Bool)}
    (h : stepE P E ⟨some k, .call { callee := .builtin .append, args, argTypes }, ty, pos, after, gd⟩ φ K) (hs : Sig E φ a w) :
    EffOk P E ⟨some k, .call { callee := .builtin .append, args, argTypes }, ty, pos, after, gd⟩ a w K := by
  simp only [stepE] at h
  split at h
  · rename_i s x t t' hxl htl
    obtain ⟨rfl, hkN, h⟩ := h
    obtain ⟨ds, hds, h⟩ := withO_elim h
    obtain ⟨dx, hdx, h⟩ := withO_elim h
    obtain ⟨⟨e, size⟩, he, h⟩ := withO_elim h
    obtain ⟨⟨ab, size', bytes⟩, hl, h⟩ := withO_elim h
    obtain ⟨zs, hz, hse, hzs, hpos, h⟩ := withO_elim h
    simp only at hse hzs hpos h
    subst hse
    have ha : args = #[s, x] := by rw [← Array.toList_inj]; simpa using hxl
    have ht : argTypes = #[t, t] := by rw [← Array.toList_inj]; simpa using htl
    subst ha; subst ht
    have hsr := hs.ev hds
    have hxr := hs.ev hdx
    generalize hes : a.eval s = vs at hsr
    -- the common end: the row at key g, its value v, its cells xs
    have fin : ∀ (g : Nat) (es es' : List (List D)) (xs : List Value), g ∉ E.ro → w.ownsRow 0 e size' vs es.length xs → Rl w (Mx E.X φ.st) xs es.flatten → (∀ c ∈ es, c.length = size') →
        (∀ b, vs.ownBlock = some b → ∃ o0, look g φ.st = some o0 ∧ o0.blk = some b) →
        srcD φ.st g dx size' (· = es') → (∀ c ∈ es', ∀ d ∈ c, d.one = true) → Room (es.length + es'.length) bytes →
        (∀ A1 cap1, K { φ with fr := putF (some k) (.own g A1 (es.length + es'.length) cap1) φ.fr, st := Go.Dw.upd g (.row A1 (es.length + es'.length) cap1 e size' (es ++ es')) φ.st }) →
        EffOk P E ⟨some k, .call { callee := .builtin .append, args := #[s, x], argTypes := #[t, t] }, ty, pos, after, gd⟩ a w K := by
      intro g es es' xs hro hown hr hsz hblk hsrc hone hroom hK
      obtain ⟨es1, he1, hsrc1⟩ := srcD_sound hs.st hsrc
      subst he1
      clear hsrc
      obtain ⟨A, cap, hev, hsrc⟩ := hsrc1 _ hxr
      obtain ⟨v', w', news, hrun, hown', hg, hnews, hb'⟩ := run_append_row (ty := ty) he hl hz hzs hpos hown hsrc hone hroom (A := A) (cap := cap)
      obtain ⟨A1, cap1, rfl, _⟩ := ownsRow_at hown'
      have hlen' : ∀ c ∈ es1, c.length = size' := by
        intro c hc
        rcases hsrc with ⟨_, rfl⟩ | ⟨_, _, h, _⟩
        · simp at hc
        · exact h c hc
      have hext := grown_ext hg
      have hB : ∀ b, b < w.heap.size → vs.ownBlock = some b → ∃ o0, look g φ.st = some o0 ∧ o0.blk = some b := fun b _ hb => hblk b hb
      have hbl : ∀ b, (O.row A1 (es.length + es1.length) cap1 e size' (es ++ es1)).blk = some b → (∃ o0, look g φ.st = some o0 ∧ o0.blk = some b) ∨ w.heap.size ≤ b := by
        intro b hb
        have hb2 : (Value.slice A1 (es.length + es1.length) cap1).ownBlock = some b := by
          cases A1 with
          | none => simp [O.blk] at hb
          | some ad => simpa [O.blk, Value.ownBlock] using hb
        rcases hb' with h | h
        · rw [h] at hb2; exact .inl (hblk b hb2)
        · rw [h] at hb2; cases hb2; exact .inr (Nat.le_refl _)
      have hup := hs.upd (k := g) (o := .row A1 (es.length + es1.length) cap1 e size' (es ++ es1)) hext hB hro hbl
        (fun M' hM => ⟨by simp, fun c hc => by
          rcases List.mem_append.1 hc with h | h
          · exact hsz c h
          · exact hlen' c h, xs ++ news, by rw [List.length_append]; exact hown', by
          rw [List.flatten_append]
          exact (hr.append hnews).mono hext (fun b hb hbb => by obtain ⟨o0, h1, h2⟩ := hB b hb hbb; exact .inr ⟨g, o0, h1, h2⟩) hM⟩)
      refine .inl ⟨_, w', _, ?_, hK A1 cap1, hup.1.putv (.own g A1 _ cap1) hkN⟩
      simp [execOp, resolve, invoke, builtin, hes, hev, hrun]
    cases ds with
    | own g A n cap =>
      simp only at h
      obtain ⟨hro, h⟩ := h
      cases hlk : look g φ.st with
      | none => rw [hlk] at h; exact h.elim
      | some o0 =>
        rw [hlk] at h
        cases o0 with
        | row A' n' cap' e' size es =>
          simp only at h
          obtain ⟨rfl, rfl, rfl, rfl, rfl, h⟩ := h
          obtain ⟨es', ⟨hone, hroom, hK⟩, hsrc⟩ := srcD_self h
          cases hsr
          obtain ⟨hn, hsz, xs, hown, hr⟩ := hs.st.obj _ _ hlk
          subst hn
          exact fin g es es' xs hro hown hr hsz (fun b hb => ⟨_, hlk, by
            cases A' with
            | none => simp [Value.ownBlock] at hb
            | some ad => simpa [O.blk, Value.ownBlock] using hb⟩) hsrc hone hroom hK
        | cells b cs => exact h.elim
        | map r es => exact h.elim
        | sit r s p => exact h.elim
        | mit r gm mr n seen => exact h.elim
    | nil =>
      simp only at h
      obtain ⟨hro, hnone, h⟩ := h
      obtain ⟨es', ⟨hone, hroom, hK⟩, hsrc⟩ := srcD_self h
      cases hsr
      exact fin k [] es' [] hro (World.ownsRow_nil w 0 e size') (by simpa using Rl.nil) (by simp) (fun b hb => by simp [Value.ownBlock] at hb) hsrc hone (by simpa using hroom) (by simpa using hK)
    | _ => exact h.elim
  · exact h.elim

theorem effRange {t : TypeId} {x : Operand} {k : Nat} {ty : TypeId} {pos : String} {after : Array Edge} {gd : Option (Nat × Bool)} (h : stepE P E ⟨some k, .range t x, ty, pos, after, gd⟩ φ K) (hs : Sig E φ a w) :
    EffOk P E ⟨some k, .range t x, ty, pos, after, gd⟩ a w K := by
  simp only [stepE] at h
  obtain ⟨hro, hkN, h⟩ := h
  obtain ⟨dx, hdx, h⟩ := withO_elim h
  have hx := hs.ev hdx
  generalize hex : a.eval x = vx at hx
  cases hu : P.underlying t with
  | none => rw [hu] at h; cases dx <;> exact h.elim
  | some desc =>
    rw [hu] at h
    cases desc with
    | string =>
      obtain ⟨l, rfl⟩ : ∃ l, dx = .str l := by cases dx <;> first | exact ⟨_, rfl⟩ | exact h.elim
      cases hx with
      | str s _ hsl =>
        have hup := hs.upd (k := k) (o := .sit w.heap.size l 0) (B := Non) (Ext.alloc w (.stringIter s 0)) (fun _ _ hf => hf.elim) hro (fun b hb => .inr (by simp [O.blk] at hb; omega))
          (fun M' hM => ⟨s, heap_alloc_new w _, hsl⟩)
        refine .inl ⟨.pointer (some ⟨w.heap.size, 0, none⟩), w.alloc (.stringIter s 0), _, ?_, h w.heap.size, hup.1.putv (.it k w.heap.size) hkN⟩
        simp [execOp, hex, Instr.range, run_underlying hu]
    | map kt et =>
      obtain ⟨g, m, rfl⟩ : ∃ g m, dx = .mapr g m := by cases dx <;> first | exact ⟨_, _, rfl⟩ | exact h.elim
      simp only at h
      obtain ⟨hgk, h⟩ := h
      cases hx
      cases hlk : look g φ.st with
      | none => rw [hlk] at h; exact h.elim
      | some o0 =>
        rw [hlk] at h
        cases o0 with
        | map m' es =>
          simp only at h
          obtain ⟨rfl, h⟩ := h
          obtain ⟨ents, hb, hsz, hborn, _⟩ := hs.st.obj _ _ hlk
          have hup := hs.upd (k := k) (o := .mit w.heap.size g m' es.length []) (B := Non) (Ext.alloc w (.mapIter (some m') es.length #[] es.length)) (fun _ _ hf => hf.elim) hro (fun b hb => .inr (by simp [O.blk] at hb; omega))
            (fun M' hM => ⟨#[], es.length, heap_alloc_new w _, rfl, rfl⟩)
          refine .inl ⟨.pointer (some ⟨w.heap.size, 0, none⟩), w.alloc (.mapIter (some m') es.length #[] es.length), _, ?_, h w.heap.size, hup.1.putv (.it k w.heap.size) hkN⟩
          simp [execOp, hex, Instr.range, run_underlying hu, getObj, Sem.run, hb, hsz]
        | cells b cs => exact h.elim
        | row A n cap e size es => exact h.elim
        | sit r s p => exact h.elim
        | mit r gm mr n seen => exact h.elim
    | _ => cases dx <;> exact h.elim

theorem effNext {x : Operand} {isS : Bool} {k : Nat} {ty : TypeId} {pos : String} {after : Array Edge} {gd : Option (Nat × Bool)} (h : stepE P E ⟨some k, .next x isS, ty, pos, after, gd⟩ φ K) (hs : Sig E φ a w) :
    EffOk P E ⟨some k, .next x isS, ty, pos, after, gd⟩ a w K := by
  simp only [stepE] at h
  obtain ⟨hkN, h⟩ := h
  obtain ⟨dx, hdx, h⟩ := withO_elim h
  have hx := hs.ev hdx
  obtain ⟨g, r, rfl⟩ : ∃ g r, dx = .it g r := by cases dx <;> first | exact ⟨_, _, rfl⟩ | exact h.elim
  simp only at h
  obtain ⟨hro, h⟩ := h
  generalize hex : a.eval x = vx at hx
  cases hx
  have hext : ∀ o, Ext (fun b => b = r) w { w with heap := w.heap.setIfInBounds r o } := fun o => ⟨rfl, rfl, rfl, by simp, fun k _ hn => by
    have : r ≠ k := fun h => hn h.symm
    simp [Array.getElem?_setIfInBounds, this]⟩
  cases hlk : look g φ.st with
  | none => rw [hlk] at h; exact h.elim
  | some o0 =>
    rw [hlk] at h
    cases o0 with
    | sit r' l p =>
      cases isS with
      | false => exact h.elim
      | true =>
        simp only at h
        obtain ⟨rfl, h1, h2⟩ := h
        obtain ⟨bs, hb, hbs⟩ := hs.st.obj _ _ hlk
        have hbl := (Array.getElem?_eq_some_iff.1 hb).1
        have hbb : (⟨l.toArray⟩ : ByteArray) = bs := data_inj (by rw [← hbs])
        by_cases hp : p < l.length
        · have hp' : p < bs.size := by rw [size_len, hbs]; exact hp
          have hup := hs.upd (k := g) (o := .sit r' l (p + (Utf8.decode ⟨l.toArray⟩ p).2)) (hext (.stringIter bs (p + (Utf8.decode bs p).2))) (fun b hb hbb => ⟨_, hlk, by rw [hbb]; rfl⟩) hro (fun b hb => .inl ⟨_, hlk, hb⟩)
            (fun M' hM => ⟨bs, by rw [hbb]; simp [hbl], hbs⟩)
          refine .inl ⟨.tuple #[.bool true, goInt p, .int .i32 (Utf8.decode bs p).1], _, _, ?_, h1 hp, hup.1.putv (R.tup_iff.2 (.cons (.bool true) (.cons (.int _ _) (.cons (by rw [hbb]; exact .int _ _) .nil)))) hkN⟩
          simp [execOp, hex, Instr.next, getObj, Sem.run, hb, hp', setObj]
        · have hp' : ¬ p < bs.size := by rw [size_len, hbs]; exact hp
          refine .inl ⟨.tuple #[.bool false], w, _, ?_, h2 hp, hs.putv (R.tup_iff.2 (.cons (.bool false) .nil)) hkN⟩
          simp [execOp, hex, Instr.next, getObj, Sem.run, hb, hp']
    | mit r' gm mr n seen =>
      cases isS with
      | true => exact h.elim
      | false =>
        simp only at h
        obtain ⟨rfl, hgm, h⟩ := h
        obtain ⟨sa, last, hb, hsa, hlast⟩ := hs.st.obj _ _ hlk
        have hbl := (Array.getElem?_eq_some_iff.1 hb).1
        cases hlm : look gm φ.st with
        | none => rw [hlm] at h; exact h.elim
        | some o1 =>
          rw [hlm] at h
          cases o1 with
          | map mr' es =>
            simp only at h
            obtain ⟨rfl, hn, h1, h2⟩ := h
            obtain ⟨ents, hm, hsz, hborn, hents⟩ := hs.st.obj _ _ hlm
            have hent : ents.size = n := hsz.trans hn
            -- the check on entries that are gone
            have hnot : (!sa.isEmpty && !ents.isEmpty && ents.all (fun e => decide (e.born ≥ last))) = false := by
              cases he : ents.isEmpty with
              | true => simp
              | false =>
                have h0 : 0 < ents.size := by
                  rcases Nat.eq_zero_or_pos ents.size with h | h
                  · rw [Array.isEmpty_iff_size_eq_zero.2 h] at he; cases he
                  · exact h
                have hb0 := hborn 0 ents[0] (by simp [h0])
                have : ents.all (fun e => decide (e.born ≥ last)) = false := by
                  rw [Array.all_eq_false]
                  refine ⟨0, h0, ?_⟩
                  simp [hb0]
                  omega
                simp [this]
            -- the entries that are left
            obtain ⟨left, hleft⟩ : ∃ left, left = ents.filter (fun e => !sa.contains e.born) := ⟨_, rfl⟩
            have hold : left.filter (fun e => decide (e.born < n)) = left := by
              rw [Array.filter_eq_self]
              intro e he
              rw [hleft] at he
              obtain ⟨i, hi, rfl⟩ := Array.mem_iff_getElem.1 (Array.mem_filter.1 he).1
              have := hborn i ents[i] (by simp [hi])
              simp [this]; omega
            have hnew : left.filter (fun e => decide (e.born ≥ n)) = #[] := by
              rw [Array.filter_eq_empty_iff]
              intro e he
              rw [hleft] at he
              obtain ⟨i, hi, rfl⟩ := Array.mem_iff_getElem.1 (Array.mem_filter.1 he).1
              have := hborn i ents[i] (by simp [hi])
              simp [this]; omega
            have hup : ∀ (i : Nat), Sig E { φ with st := Go.Dw.upd g (.mit r' gm mr' n (seen ++ [i])) φ.st } a { w with heap := w.heap.setIfInBounds r' (.mapIter (some mr') n (sa.push i) ents.size) } := fun i =>
              (hs.upd (k := g) (o := .mit r' gm mr' n (seen ++ [i])) (hext (.mapIter (some mr') n (sa.push i) ents.size)) (fun b hb hbb => ⟨_, hlk, by rw [hbb]; rfl⟩) hro (fun b hb => .inl ⟨_, hlk, hb⟩)
                (fun M' hM => ⟨sa.push i, ents.size, by simp [hbl], by simp [hsa], by omega⟩)).1
            have hdrew : ∀ {ψ : St} {v : Act} {u : World}, Sig E ψ v u → Sig E ψ v u.drew := fun {ψ v u} hsg => by
              have := hsg.put (dst := none) (Ext.drew u) (v := .tuple #[]) (d := .tup []) (R.tup_iff.2 Rl.nil) trivial
              exact this
            by_cases hlz : left.size = 0
            · have hle : left = #[] := Array.size_eq_zero_iff.1 hlz
              have hall : ∀ i, i < n → i ∈ seen := by
                intro i hi
                have hi' : i < ents.size := by omega
                refine Classical.byContradiction fun hns => ?_
                have hmem : ents[i] ∈ left := by
                  rw [hleft, Array.mem_filter]
                  refine ⟨Array.getElem_mem hi', ?_⟩
                  have := hborn i ents[i] (by simp [hi'])
                  rw [this, ← hsa] at *
                  simpa using hns
                rw [hle] at hmem
                simp at hmem
              have hcand : (if (left.filter (fun e => decide (e.born < n))).isEmpty then #[none] else #[]) ++ ((left.filter (fun e => decide (e.born < n))) ++ (left.filter (fun e => decide (e.born ≥ n)))).map some = (#[none] : Array (Option MapEntry)) := by
                rw [hold, hnew, hle]; simp
              refine .inl ⟨.tuple #[.bool false], w, _, ?_, h2 hall, hs.putv (R.tup_iff.2 (.cons (.bool false) .nil)) hkN⟩
              simp only [execOp, hex, Instr.next, getObj, Sem.run_bind, Sem.run, hb, hm, Result.andThen_ok, hnot, Bool.false_eq_true, if_false, ← hleft, hcand, choose, Question.forced]
              simp
            · have hcand : (if (left.filter (fun e => decide (e.born < n))).isEmpty then #[none] else #[]) ++ ((left.filter (fun e => decide (e.born < n))) ++ (left.filter (fun e => decide (e.born ≥ n)))).map some = left.map some := by
                rw [hold, hnew]
                have : left.isEmpty = false := by
                  cases hq : left.isEmpty with
                  | true => exact absurd (Array.isEmpty_iff_size_eq_zero.1 hq) hlz
                  | false => rfl
                simp [this]
              -- whichever is drawn
              have hpick : ∀ c, c < left.size → ∃ i p, es[i]? = some p ∧ i ∉ seen ∧ (left[c]?).map (·.born) = some i ∧ (∃ me, left[c]? = some me ∧ R w (Mx E.X φ.st) me.key p.1 ∧ R w (Mx E.X φ.st) me.val p.2) := by
                intro c hc
                have hmem0 : left[c] ∈ ents.filter (fun e => !sa.contains e.born) := by rw [← hleft]; exact Array.getElem_mem hc
                obtain ⟨hmem, hns⟩ := Array.mem_filter.1 hmem0
                obtain ⟨i, hi, hie⟩ := Array.mem_iff_getElem.1 hmem
                have hbi := hborn i ents[i] (by simp [hi])
                have hie' : ents[i] = left[c] := hie
                have hi' : i < es.length := by omega
                have hes : es[i]? = some es[i] := List.getElem?_eq_getElem hi'
                obtain ⟨r1, r2⟩ := hents i ents[i] es[i] (by simp [hi]) hes
                refine ⟨i, es[i], hes, ?_, by rw [Array.getElem?_eq_getElem hc, Option.map_some, ← hie', hbi], left[c], Array.getElem?_eq_getElem hc, hie' ▸ r1, hie' ▸ r2⟩
                have hbc : (left[c]).born = i := by rw [← hie', hbi]
                have hns' : ¬ sa.contains (left[c]).born = true := by
                  have : (!sa.contains (left[c]).born) = true := hns
                  simpa using this
                rw [hbc] at hns'
                rw [← hsa]
                simpa using hns'
              have hrun : ∃ c w1, c < left.size ∧ (w1 = w ∨ w1 = w.drew) ∧ (choose (.mapNext (left.map some).size)).run P w = .ok c w1 := by
                have hpos : 0 < left.size := by omega
                simp only [run_choose_drew, Array.size_map]
                by_cases hforced : (Question.mapNext left.size).forced = true
                · exact ⟨0, w, hpos, .inl rfl, by rw [if_pos hforced]⟩
                · refine ⟨_, w.drew, ?_, .inr rfl, by rw [if_neg hforced]⟩
                  simp only [Question.cut]
                  exact Nat.mod_lt _ hpos
              obtain ⟨c, w1, hc, hw1, hrun⟩ := hrun
              obtain ⟨i, p, hes, hns, hbi, me, hme, hr1, hr2⟩ := hpick c hc
              have hborn' : me.born = i := by rw [hme] at hbi; simpa using hbi
              have hget : (left.map some)[c]? = some (some me) := by rw [Array.getElem?_map, hme]; rfl
              have hw1h : w1.heap = w.heap := by rcases hw1 with rfl | rfl <;> rfl
              have hsg : Sig E { φ with st := Go.Dw.upd g (.mit r' gm mr' n (seen ++ [i])) φ.st } a { w1 with heap := w1.heap.setIfInBounds r' (.mapIter (some mr') n (sa.push i) ents.size) } := by
                rcases hw1 with rfl | rfl
                · exact hup i
                · exact hdrew (hup i)
              have hR : ∀ u e, R w (Mx E.X φ.st) u e → R { w1 with heap := w1.heap.setIfInBounds r' (.mapIter (some mr') n (sa.push i) ents.size) } (Mx E.X (Go.Dw.upd g (.mit r' gm mr' n (seen ++ [i])) φ.st)) u e := fun u e hr => by
                have hM := (hs.upd (k := g) (o := .mit r' gm mr' n (seen ++ [i])) (hext (.mapIter (some mr') n (sa.push i) ents.size)) (fun b hb hbb => ⟨_, hlk, by rw [hbb]; rfl⟩) hro (fun b hb => .inl ⟨_, hlk, hb⟩)
                  (fun M' hM => ⟨sa.push i, ents.size, by simp [hbl], by simp [hsa], by omega⟩)).2
                have h5 := hr.mono (hext (.mapIter (some mr') n (sa.push i) ents.size)) (fun b _ hb => .inr ⟨g, _, hlk, by rw [hb]; rfl⟩) hM
                rcases hw1 with rfl | rfl
                · exact h5
                · exact h5.mono (B := Non) (Ext.drew _) (fun _ _ hf => hf.elim) (fun _ _ h => h)
              refine .inl ⟨.tuple #[.bool true, me.key, me.val], _, _, ?_, h1 i p hes hns, hsg.putv (R.tup_iff.2 (.cons (.bool true) (.cons (hR _ _ hr1) (.cons (hR _ _ hr2) .nil)))) hkN⟩
              simp only [execOp, hex, Instr.next, getObj, Sem.run_bind, Sem.run, hb, hm, Result.andThen_ok, hnot, Bool.false_eq_true, if_false, ← hleft, hcand, hrun, hget, hborn', setObj]
              have hbw : w1.heap[r']? = some (.mapIter (some mr') n sa last) := by rw [hw1h]; exact hb
              simp [hbw]
          | cells b cs => exact h.elim
          | row A n cap e size es => exact h.elim
          | sit r s p => exact h.elim
          | mit r gm mr n seen => exact h.elim
    | cells b cs => cases isS <;> exact h.elim
    | row A n cap e size es => cases isS <;> exact h.elim
    | map r es => cases isS <;> exact h.elim

theorem stepE_sound {o : Oper} (h : stepE P E o φ K) (hs : Sig E φ a w) : EffOk P E o a w K := by
  obtain ⟨dst, op, ty, pos, after, gd⟩ := o
  have h' := h
  unfold stepE at h'
  split at h'
  · rename_i e1 e2; simp only at e1 e2; subst e1; subst e2; exact effAlloc h hs
  · rename_i e1 e2; simp only at e1 e2; subst e1; subst e2; exact effStore h hs
  · rename_i e1 e2; simp only at e1 e2; subst e1; subst e2; exact effMakeMap h hs
  · rename_i e1 e2; simp only at e1 e2; subst e1; subst e2; exact effRange h hs
  · rename_i e1 e2; simp only at e1 e2; subst e1; subst e2; exact effNext h hs
  · rename_i e1 e2; simp only at e1 e2; subst e1; subst e2; exact effMapUpdate h hs
  · rename_i e1 e2; simp only at e1 e2; subst e1; subst e2; exact effMakeSlice h hs
  · rename_i e1 e2; simp only at e1 e2; subst e1; subst e2; exact effAppend h hs
  · exact h'.elim
end
end Go.Dw
