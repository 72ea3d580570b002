/-
  The twenty-second part of a program logic over deep data: the equations by which a walk reckons.
  It speaks of any program; no condition.
  The twenty-third part of a program logic over deep data: one equation for each operation.
  Printed by a program (steps.py).
  The twenty-fourth part of a program logic over deep data: contracts of bodies that turn objects, and their ends.
  It speaks of any program; no condition.
  The twenty-fifth part of a program logic over deep data: from what the form reads of an argument to deep data.
  It speaks of any program; no condition.
-/
import Derived.Test.YtjbajnkbiohoeaaDoorDw6
import Derived.Scope
import Derived.ChangeArms
import Derived.ChangeOld
import Derived.DataReads
import Derived.ChangeReads
namespace Go.Dw
open Go Go.RowKit

section
variable {P : Program} {E : Env} {S : List (Nat × O)} {G fr : List (Nat × D)} {ρ : Operand → Option D}
theorem ev_tmp (t : Nat) : ev G fr (.tmp t) = look t fr := rfl
theorem ev_int (k : IntKind) (n : Int) : ev G fr (.const (.int k n)) = some (.int k n) := rfl
theorem ev_bool (b : Bool) : ev G fr (.const (.bool b)) = some (.bool b) := rfl
theorem ev_str (s : ByteArray) : ev G fr (.const (.string s)) = some (.str s.data.toList) := rfl
theorem ev_nil : ev G fr (.const (.slice none 0 0)) = some .nil := rfl
theorem ev_pnil : ev G fr (.const (.pointer none)) = some .pnil := rfl
theorem ev_func (f : FuncId) : ev G fr (.func f) = some (.fn f [] []) := rfl
theorem ev_global (g : Nat) : ev G fr (.global g) = look g G := rfl
theorem look_nil {α : Type} (t : Nat) : look t ([] : List (Nat × α)) = none := rfl
theorem look_cons {α : Type} (t k : Nat) (d : α) (r : List (Nat × α)) : look t ((k, d) :: r) = if k = t then some d else look t r := rfl
theorem upd_nil {α : Type} (t : Nat) (d : α) : upd t d [] = [(t, d)] := rfl
theorem upd_cons {α : Type} (t k : Nat) (d x : α) (r : List (Nat × α)) : upd t d ((k, x) :: r) = if k = t then (t, d) :: r else (k, x) :: upd t d r := rfl
theorem dropK_nil {α : Type} (t : Nat) : dropK t ([] : List (Nat × α)) = [] := rfl
theorem dropK_cons {α : Type} (t k : Nat) (x : α) (r : List (Nat × α)) : dropK t ((k, x) :: r) = if k = t then dropK t r else (k, x) :: dropK t r := rfl
theorem putF_some (t : Tmp) (d : D) : putF (some t) d fr = (t, d) :: fr := rfl
theorem putF_none (d : D) : putF none d fr = fr := rfl
theorem okDst_some (N : Nat) (t : Tmp) : okDst N (some t) = (t < N) := rfl
theorem okDst_none (N : Nat) : okDst N none = True := rfl
theorem withAll_nil {α : Type} (ρ : α → Option D) (K : List D → Prop) : withAll ρ [] K = K [] := rfl
theorem withAll_cons {α : Type} (ρ : α → Option D) (x : α) (r : List α) (K : List D → Prop) : withAll ρ (x :: r) K = withO (ρ x) fun d => withAll ρ r fun ds => K (d :: ds) := rfl
theorem withOpt_none {α : Type} (ρ : α → Option D) (K : Option D → Prop) : withOpt ρ none K = K none := rfl
theorem withOpt_some {α : Type} (ρ : α → Option D) (x : α) (K : Option D → Prop) : withOpt ρ (some x) K = withO (ρ x) fun d => K (some d) := rfl
theorem binD_int (op : BinOp) (t : TypeId) (k k' : IntKind) (a b : Int) (K : D → Prop) : binD P op t (.int k a) (.int k' b) K = (k = k' ∧ intBin op k a b K) := rfl
theorem binD_str (op : BinOp) (t : TypeId) (a b : List UInt8) (K : D → Prop) : binD P op t (.str a) (.str b) K = strBin op a b K := rfl
theorem binD_eql_bool (t : TypeId) (a b : Bool) (K : D → Prop) (h : P.underlying t = some .bool) : binD P .eql t (.bool a) (.bool b) K = K (.bool (a == b)) := by simp [binD, eqD, h]
theorem binD_neq_bool (t : TypeId) (a b : Bool) (K : D → Prop) (h : P.underlying t = some .bool) : binD P .neq t (.bool a) (.bool b) K = K (.bool (!(a == b))) := by simp [binD, eqD, h]
theorem behind_rp (cs : List D) (K : List D → Prop) : behind S (.rp cs) K = K cs := rfl
theorem behind_ref (g b off : Nat) (K : List D → Prop) : behind S (.ref g b off) K = withO (look g S) fun o => match o with
    | .cells b' cs => b' = b ∧ K (cs.drop off)
    | .row (some ad) _ _ _ _ es => ad.block = b ∧ K (es.flatten.drop off)
    | _ => False := by
  simp only [behind]
  cases look g S with
  | none => rfl
  | some o => cases o with
    | row A n cap e size es => cases A <;> rfl
    | _ => rfl
theorem unN_not (b : Bool) (K : D → Prop) : unN .not (.bool b) K = K (.bool !b) := rfl
theorem unN_neg (k : IntKind) (n : Int) (K : D → Prop) : unN .neg (.int k n) K = K (.int k (k.wrap (0 - n))) := rfl
theorem lenN_str {t : TypeId} (h : P.underlying t = some .string) (l : List UInt8) (K : D → Prop) : lenN P S t (.str l) K = K (.int .i64 l.length) := by simp [lenN, h]
theorem lenN_sl {t e : TypeId} (h : P.underlying t = some (.slice e)) (f : Bool) (k : Nat) (es : List (List D)) (K : D → Prop) : lenN P S t (.sl f k es) K = K (.int .i64 es.length) := by simp [lenN, h]
theorem lenN_nil {t e : TypeId} (h : P.underlying t = some (.slice e)) (K : D → Prop) : lenN P S t .nil K = K (.int .i64 0) := by simp [lenN, h]
theorem lenN_own {t e : TypeId} (h : P.underlying t = some (.slice e)) (g : Nat) (A : Option Addr) (n cap : Nat) (K : D → Prop) : lenN P S t (.own g A n cap) K = K (.int .i64 n) := by simp [lenN, h]
theorem fieldAddr_rp {t ty : TypeId} {i off n : Nat} (h : fldOf P t i = some (off, ty, n)) (hn : 0 < n) (cs : List D) (K : D → Prop) : fieldAddrN P t (.rp cs) i K = K (.rp (cs.drop off)) := by simp [fieldAddrN, h, withO, hn]
theorem fieldAddr_ref {t ty : TypeId} {i off n : Nat} (h : fldOf P t i = some (off, ty, n)) (hn : 0 < n) (g b o : Nat) (K : D → Prop) : fieldAddrN P t (.ref g b o) i K = K (.ref g b (o + off)) := by simp [fieldAddrN, h, withO, hn]
theorem load_of {t : TypeId} {a : Bool} {n b : Nat} (h : layOf P t = some (a, n, b)) (d : D) (K : D → Prop) : loadN P S t d K = behind S d fun cs => loadD a n cs K := by simp [loadN, h, withO]
theorem indexAddr_sl {t e : TypeId} {n : Nat} (h : elOf P t = some (e, n)) (f : Bool) (k : Nat) (es : List (List D)) (ik : IntKind) (i : Int) (K : D → Prop) :
    indexAddrN P S t (.sl f k es) (.int ik i) K = (n = k ∧ 0 ≤ i ∧ i < es.length ∧ K (.rp (es.getD i.toNat []))) := by simp [indexAddrN, h, withO]
theorem split_intro {t : Bool} {A B : Prop} (h1 : t = true → A) (h2 : t = false → B) : split t A B := ⟨h1, h2⟩
theorem gsplit_true (b : Bool) (A B : Prop) : gsplit true b A B = split b A B := rfl
theorem gsplit_false (b : Bool) (A B : Prop) : gsplit false b A B = split b B A := rfl
theorem thenS_normal (K : St → Prop) (Q : Exit → St → Prop) (φ : St) : thenS K Q .normal φ = K φ := rfl
theorem thenS_ret (K : St → Prop) (Q : Exit → St → Prop) (φ : St) : thenS K Q .ret φ = Q .ret φ := rfl
theorem thenS_exit (K : St → Prop) (Q : Exit → St → Prop) (i : Nat) (φ : St) : thenS K Q (.exit i) φ = Q (.exit i) φ := rfl
theorem blockS_normal (i : Nat) (Q : Exit → St → Prop) (φ : St) : blockS i Q .normal φ = Q .normal φ := rfl
theorem blockS_ret (i : Nat) (Q : Exit → St → Prop) (φ : St) : blockS i Q .ret φ = Q .ret φ := rfl
theorem blockS_exit (i j : Nat) (Q : Exit → St → Prop) (φ : St) : blockS i Q (.exit j) φ = if j = i then Q .normal φ else Q (.exit j) φ := rfl
theorem opsD_nil (ops : Array Oper) (φ : St) (K : St → Prop) : opsD P E ops [] φ K = K φ := rfl
theorem opsD_cons (ops : Array Oper) (dst : Option Tmp) (op : Op) (ty : TypeId) (pos : String) (after : Array Edge) (r : List Oper) (φ : St) (K : St → Prop) :
    opsD P E ops (⟨dst, op, ty, pos, after, none⟩ :: r) φ K = stepD P E ⟨dst, op, ty, pos, after, none⟩ φ fun φ' => opsD P E ops r φ' K := rfl
theorem opsD_guard (ops : Array Oper) (dst : Option Tmp) (op : Op) (ty : TypeId) (pos : String) (after : Array Edge) (j : Nat) (want : Bool) (r : List Oper) (φ : St) (K : St → Prop) :
    opsD P E ops (⟨dst, op, ty, pos, after, some (j, want)⟩ :: r) φ K = withO ((ops[j]?).bind (·.dst)) fun t => withO (look t φ.fr) fun d => match d with
      | .bool b => gsplit want b (stepD P E ⟨dst, op, ty, pos, after, some (j, want)⟩ φ fun φ' => opsD P E ops r φ' K) (okDst φ.N dst ∧ opsD P E ops r { φ with fr := putF dst (.tup []) φ.fr } K)
      | .tup [] => okDst φ.N dst ∧ opsD P E ops r { φ with fr := putF dst (.tup []) φ.fr } K
      | _ => False := rfl
theorem opsN_nil (ops : Array Oper) (φ : St) (K : St → Prop) : opsN P E ops [] φ K = K φ := rfl
theorem opsN_alloc (ops : Array Oper) (dst : Option Tmp) (t ty : TypeId) (pos : String) (after : Array Edge) (r : List Oper) (φ : St) (K : St → Prop) :
    opsN P E ops (⟨dst, .alloc t, ty, pos, after, none⟩ :: r) φ K = withO (zeroOf P t) fun _ => okDst φ.N dst ∧ opsN P E ops r { φ with fr := putF dst .any φ.fr } K := rfl
def noAlloc : Op → Bool
  | .alloc _ => false
  | _ => true
theorem opsN_cons (ops : Array Oper) (dst : Option Tmp) (op : Op) (ty : TypeId) (pos : String) (after : Array Edge) (r : List Oper) (φ : St) (K : St → Prop) (h : noAlloc op = true) :
    opsN P E ops (⟨dst, op, ty, pos, after, none⟩ :: r) φ K = stepN P E.G φ.st (ev E.G φ.fr) op fun d => okDst φ.N dst ∧ opsN P E ops r { φ with fr := putF dst d φ.fr } K := by
  cases op <;> first | rfl | simp [noAlloc] at h
theorem opsN_guard (ops : Array Oper) (dst : Option Tmp) (op : Op) (ty : TypeId) (pos : String) (after : Array Edge) (j : Nat) (want : Bool) (r : List Oper) (φ : St) (K : St → Prop) :
    opsN P E ops (⟨dst, op, ty, pos, after, some (j, want)⟩ :: r) φ K = withO ((ops[j]?).bind (·.dst)) fun t => withO (look t φ.fr) fun d => match d with
      | .bool b => gsplit want b (stepN P E.G φ.st (ev E.G φ.fr) op fun d => okDst φ.N dst ∧ opsN P E ops r { φ with fr := putF dst d φ.fr } K) (okDst φ.N dst ∧ opsN P E ops r { φ with fr := putF dst (.tup []) φ.fr } K)
      | .tup [] => okDst φ.N dst ∧ opsN P E ops r { φ with fr := putF dst (.tup []) φ.fr } K
      | _ => False := rfl
theorem allocsD_nil (φ : St) (K : St → Prop) : allocsD P E [] φ K = K φ := rfl
theorem allocsD_alloc (k : Nat) (t ty : TypeId) (pos : String) (after : Array Edge) (r : List Oper) (φ : St) (K : St → Prop) :
    allocsD P E (⟨some k, .alloc t, ty, pos, after, none⟩ :: r) φ K = withO (zeroOf P t) fun zs => k ∉ E.ro ∧ k < φ.N ∧ ∀ b, allocsD P E r { φ with fr := putF (some k) (.ref k b 0) φ.fr, st := Go.Dw.upd k (.cells b zs) φ.st } K := rfl
theorem allocsD_cons (dst : Option Tmp) (op : Op) (ty : TypeId) (pos : String) (after : Array Edge) (g : Option (Nat × Bool)) (r : List Oper) (φ : St) (K : St → Prop) (h : noAlloc op = true) :
    allocsD P E (⟨dst, op, ty, pos, after, g⟩ :: r) φ K = allocsD P E r φ K := by
  cases op <;> first | rfl | simp [noAlloc] at h
/-- A prefix without new memory. -/
def noAllocs (l : List Oper) : Bool := l.all fun o => noAlloc o.op
theorem allocsD_none : ∀ (l : List Oper) (φ : St) (K : St → Prop), noAllocs l = true → allocsD P E l φ K = K φ
  | [], _, _, _ => rfl
  | o :: r, φ, K, h => by
    simp only [noAllocs, List.all_cons, Bool.and_eq_true] at h
    obtain ⟨o1, o2, o3, o4, o5, o6⟩ := o
    rw [allocsD_cons o1 o2 o3 o4 o5 o6 r φ K h.1]
    exact allocsD_none r φ K h.2
/-- A region's mark: a walk tries the rules of drawing regions only where it stands. -/
theorem Wp.region' {Q : Exit → St → Prop} {φ : St} {id : Nat} {ops : Array Oper} (h : Wp P E (.region id ops true) Q φ) : Wp P E (.region id ops true) Q φ := h
theorem Wp.gate {c : Code} {Q : Exit → St → Prop} {φ : St} (h : Wp P E c Q φ) : Wp P E c Q φ := h
theorem Wp.cond' {c : Operand} {x y : Code} {Q : Exit → St → Prop} {φ : St} (h : Wp P E (.cond c x y) Q φ) : Wp P E (.cond c x y) Q φ := h
/-- Two parts of a code, with what lies between them stated. -/
theorem Wp.merge {α : Type} {c1 c2 : Code} {Q : Exit → St → Prop} {φ : St} (J : α → St) (p : α → Prop) (h1 : Wp P E c1 (thenS (fun φ' => ∃ a, p a ∧ Weak E φ' (J a)) Q) φ) (h2 : ∀ a, p a → Wp P E c2 Q (J a)) : Wp P E (.seq c1 c2) Q φ :=
  Wp.seq fun K hK => h1.mono fun e φ' h => by
    cases e with
    | normal =>
      obtain ⟨a, hp, hw⟩ := h
      exact hK φ' (Wp.weak hw (h2 a hp))
    | _ => exact h
/-- No operation that turns the store by its kind. -/
def noEff (l : List Oper) : Bool := l.all fun o => match o.op with
  | .store _ _ _ | .mapUpdate _ _ _ _ | .makeMap _ _ | .range _ _ | .next _ _ | .makeSlice _ _ _ => false
  | .call { callee := .builtin .append, .. } => false
  | _ => true
/-- A drawing region that leaves the store alone throughout. -/
theorem Wp.regionAll {Q : Exit → St → Prop} {φ : St} {id : Nat} {l : List Oper} (hm : P.follows .mixedOrders = true) (hB : anyOk l l.length = true) (hA : noAllocs l = true) (h : opsN P E l.toArray l φ (Q .normal)) : Wp P E (.region id l.toArray true) Q φ :=
  Wp.regionAny l.length hm (Nat.le_refl _) hB
    (by
      unfold allocOk
      refine List.all_eq_true.2 fun i _ => ?_
      split
      · rename_i ho
        have := List.all_eq_true.1 hA _ (List.mem_of_getElem? ho)
        simp [noAlloc] at this
      · rfl)
    (by rw [List.take_length, List.drop_length]; simp only [allocsD_none l _ _ hA]; exact h)
/-- A drawing region whose last n operations turn the store, each behind all before it. -/
theorem Wp.regionTail {Q : Exit → St → Prop} {φ : St} {id : Nat} {l : List Oper} (n : Nat) (hm : P.follows .mixedOrders = true) (hB : anyOk l (l.length - n) = true) (hA : allocOk l (l.length - n) = true)
    (h : opsN P E l.toArray (l.take (l.length - n)) φ fun φ' => allocsD P E (l.take (l.length - n)) φ' fun φ' => opsD P E l.toArray (l.drop (l.length - n)) φ' (Q .normal)) : Wp P E (.region id l.toArray true) Q φ :=
  Wp.regionAny (l.length - n) hm (Nat.sub_le _ _) hB hA h
theorem Wp.regionTail' {Q : Exit → St → Prop} {φ : St} {id : Nat} {l : List Oper} (n : Nat) (_ : noEff (l.take (l.length - n)) = true) (hm : P.follows .mixedOrders = true) (hB : anyOk l (l.length - n) = true) (hA : allocOk l (l.length - n) = true)
    (h : opsN P E l.toArray (l.take (l.length - n)) φ fun φ' => allocsD P E (l.take (l.length - n)) φ' fun φ' => opsD P E l.toArray (l.drop (l.length - n)) φ' (Q .normal)) : Wp P E (.region id l.toArray true) Q φ :=
  Wp.regionTail n hm hB hA h
theorem Wp.regionPure {Q : Exit → St → Prop} {φ : St} {id : Nat} {l : List Oper} (_ : noEff l = true) (hm : P.follows .mixedOrders = true) (hB : anyOk l l.length = true) (hA : noAllocs l = true) (h : opsN P E l.toArray l φ (Q .normal)) : Wp P E (.region id l.toArray true) Q φ :=
  Wp.regionAll hm hB hA h
end
end Go.Dw

namespace Go.Dw
open Go Go.RowKit

section
theorem withAll_mono {α : Type} {ρ : α → Option D} : ∀ {xs : List α} {K K' : List D → Prop}, (∀ ds, K ds → K' ds) → withAll ρ xs K → withAll ρ xs K'
  | [], _, _, hk, h => hk _ h
  | x :: r, _, _, hk, h => by
    obtain ⟨d, hd, h⟩ := withO_elim h
    rw [withAll_cons, hd]
    exact withAll_mono (fun ds hds => hk _ hds) h
theorem callN_mono {P : Program} {G : List (Nat × D)} {S : List (Nat × O)} {f : D} {ds : List D} {K K' : D → Prop} (hk : ∀ d, K d → K' d) (h : callN P G S f ds K) : callN P G S f ds K' := by
  unfold callN at h ⊢
  split at h
  · obtain ⟨h1, ds', ks, bw, d, h2, h3, h4, h5, h6⟩ := h
    exact ⟨h1, ds', ks, bw, d, h2, h3, h4, h5, hk _ h6⟩
  · exact h.elim
variable {P : Program} {E : Env} {S : List (Nat × O)} {G : List (Nat × D)} {ρ : Operand → Option D} {φ : St} {K : D → Prop} {κ : St → Prop}
def extrD (d : D) (i : Nat) (K : D → Prop) : Prop := match d with
  | .tup ds => withO ds[i]? K
  | _ => False
def nilD (d : D) (K : D → Prop) : Prop := match d with
  | .rp cs => K (.rp cs)
  | .ref g b off => K (.ref g b off)
  | .fn f ds es => K (.fn f ds es)
  | _ => False
def buildD (P : Program) (t : TypeId) (is : List Nat) (ds zs : List D) (K : D → Prop) : Prop := match P.underlying t with
  | some (.struct fs) => fs.all (fun f => (P.info? f.type).isSome) = true ∧ fillD (fun i => (fldOf P t i).map fun x => (x.1, x.2.2)) (is.zip ds) zs fun cs => K (.agg cs)
  | some (.array _ _) => withO (arOf P t) fun a => fillD (fun i => some (i * a.2.2, a.2.2)) (is.zip ds) zs fun cs => K (.agg cs)
  | _ => False
def buildSl (P : Program) (t : TypeId) (len : Nat) (is : List Nat) (ds : List D) (K : D → Prop) : Prop := withO (elOf P t) fun e => (zeroOf P e.1).isSome = true ∧ ds.length = len ∧ len * e.2 ≤ 16777216 ∧ len ≤ 16777216 ∧ is = List.range len ∧
      (∀ d ∈ ds, d.known = true ∧ d.cells.length = e.2) ∧ K (.sl true e.2 (ds.map D.cells))
theorem extrD_tup (ds : List D) (i : Nat) : extrD (.tup ds) i K = withO ds[i]? K := rfl
theorem nilD_rp (cs : List D) : nilD (.rp cs) K = K (.rp cs) := rfl
theorem nilD_ref (g b o : Nat) : nilD (.ref g b o) K = K (.ref g b o) := rfl
theorem nilD_fn (f : FuncId) (a b : List D) : nilD (.fn f a b) K = K (.fn f a b) := rfl
def entryM (es : List (D × D)) (seen : List Nat) (K : D → Prop) : Prop := withO seen.getLast? fun i => withO es[i]? fun p => K (.tup [p.1, p.2])
theorem entryN_it (g r : Nat) : entryN S (.it g r) K = (withO (look g S) fun o => match o with
    | .mit r' gm mr n seen => r' = r ∧ withO (look gm S) fun o' => match o' with
      | .map mr' es => mr' = mr ∧ es.length = n ∧ entryM es seen K
      | _ => False
    | _ => False) := by
  simp only [entryN]
  cases look g S with
  | none => rfl
  | some o => cases o with
    | mit r' gm mr n seen =>
      simp only [withO_some]
      cases look gm S with
      | none => rfl
      | some o' => cases o' <;> rfl
    | _ => rfl
def placeOf (P : Program) (t : TypeId) (i : Nat) : Option (Nat × Nat) := (fldOf P t i).map fun x => (x.1, x.2.2)
theorem buildD_struct {t : TypeId} {fs : Array Field} (hu : P.underlying t = some (.struct fs)) (hf : fs.all (fun f => (P.info? f.type).isSome) = true) (is : List Nat) (ds zs : List D) :
    buildD P t is ds zs K = fillD (placeOf P t) (is.zip ds) zs fun cs => K (.agg cs) := by
  simp only [buildD, hu, hf, true_and]; rfl
theorem buildD_array {t e : TypeId} {m n : Nat} (hu : arOf P t = some (m, e, n)) (is : List Nat) (ds zs : List D) :
    buildD P t is ds zs K = fillD (fun i => some (i * n, n)) (is.zip ds) zs fun cs => K (.agg cs) := by
  obtain ⟨inf, h1, h2, h3⟩ := arOf_some hu
  simp only [buildD, h1, hu, withO_some]
theorem placeOf_fld {t ty : TypeId} {i off n : Nat} (h : fldOf P t i = some (off, ty, n)) : placeOf P t i = some (off, n) := by simp [placeOf, h]
def allCells (n : Nat) : List D → Prop
  | [] => True
  | d :: r => (d.known = true ∧ d.cells.length = n) ∧ allCells n r
theorem allCells_nil (n : Nat) : allCells n [] = True := rfl
theorem allCells_cons (n : Nat) (d : D) (r : List D) : allCells n (d :: r) = ((d.known = true ∧ d.cells.length = n) ∧ allCells n r) := rfl
theorem allCells_mem {n : Nat} : ∀ {ds : List D}, allCells n ds → ∀ d ∈ ds, d.known = true ∧ d.cells.length = n
  | _ :: _, h, d, hd => by
    rcases List.mem_cons.1 hd with rfl | hd
    · exact h.1
    · exact allCells_mem h.2 d hd
theorem allCells_of {n : Nat} : ∀ {ds : List D}, (∀ d ∈ ds, d.known = true ∧ d.cells.length = n) → allCells n ds
  | [], _ => trivial
  | d :: _, h => ⟨h d List.mem_cons_self, allCells_of fun e he => h e (List.mem_cons_of_mem _ he)⟩
theorem buildSl_of {t e : TypeId} {n : Nat} (he : elOf P t = some (e, n)) (hz : (zeroOf P e).isSome = true) (len : Nat) (is : List Nat) (ds : List D) :
    buildSl P t len is ds K = (ds.length = len ∧ len * n ≤ 16777216 ∧ len ≤ 16777216 ∧ is = List.range len ∧ allCells n ds ∧ K (.sl true n (ds.map D.cells))) := by
  simp only [buildSl, he, withO_some, hz, true_and]
  exact propext ⟨fun ⟨a, b, c, d, e, f⟩ => ⟨a, b, c, d, allCells_of e, f⟩, fun ⟨a, b, c, d, e, f⟩ => ⟨a, b, c, d, allCells_mem e, f⟩⟩
theorem rng1 : List.range 1 = [0] := rfl
theorem rng2 : List.range 2 = [0, 1] := rfl
theorem rng3 : List.range 3 = [0, 1, 2] := rfl
theorem rng4 : List.range 4 = [0, 1, 2, 3] := rfl
theorem rng5 : List.range 5 = [0, 1, 2, 3, 4] := rfl
theorem rng6 : List.range 6 = [0, 1, 2, 3, 4, 5] := rfl
def mupM (E : Env) (φ : St) (g r : Nat) (dk dv : D) (K : St → Prop) : Prop := g ∉ E.ro ∧ withO (look g φ.st) fun o => match o with
  | .map r' es => r' = r ∧ withO (unlook dk dv es) fun es' => K { φ with st := Go.Dw.upd g (.map r es') φ.st }
  | _ => False
theorem mupM_eq (g r : Nat) (dk dv : D) : mupM E φ g r dk dv κ = (g ∉ E.ro ∧ withO (look g φ.st) fun o => match o with
  | .map r' es => r' = r ∧ withO (unlook dk dv es) fun es' => κ { φ with st := Go.Dw.upd g (.map r es') φ.st }
  | _ => False) := rfl
def mupD (E : Env) (φ : St) (dm dk dv : D) (K : St → Prop) : Prop := match dm, dk with
  | .mapr g r, .int k n => mupM E φ g r (.int k n) dv K
  | .mapr g r, .str l => mupM E φ g r (.str l) dv K
  | _, _ => False
theorem mupD_int (g r : Nat) (k : IntKind) (n : Int) (dv : D) : mupD E φ (.mapr g r) (.int k n) dv κ = mupM E φ g r (.int k n) dv κ := rfl
theorem mupD_str (g r : Nat) (k : List UInt8) (dv : D) : mupD E φ (.mapr g r) (.str k) dv κ = mupM E φ g r (.str k) dv κ := rfl
theorem mup_int {t kt et : TypeId} {ik : IntKind} (hu : P.underlying t = some (.map kt et)) (hk : P.underlying kt = some (.int ik)) {ty : TypeId} {pos : String} {after : Array Edge} {gd : Option (Nat × Bool)} {m k v : Operand}
    (h : withO (ev E.G φ.fr m) fun dm => withO (ev E.G φ.fr k) fun dk => withO (ev E.G φ.fr v) fun dv => (match dk with | .int _ _ => True | _ => False) ∧ mupD E φ dm dk dv κ) :
    stepE P E ⟨none, .mapUpdate t m k v, ty, pos, after, gd⟩ φ κ := by
  obtain ⟨dm, h1, h⟩ := withO_elim h
  obtain ⟨dk, h2, h⟩ := withO_elim h
  obtain ⟨dv, h3, h4, h⟩ := withO_elim h
  simp only [stepE, h1, h2, h3, withO_some, hu]
  unfold mupD at h
  split at h
  · obtain ⟨h5, h⟩ := h
    obtain ⟨o, h6, h⟩ := withO_elim h
    refine ⟨h5, by simp [hk], ?_⟩
    rw [h6]
    cases o <;> first | exact h | exact h.elim
  · exact h4.elim
  · exact h.elim
theorem mup_str {t kt et : TypeId} (hu : P.underlying t = some (.map kt et)) (hk : P.underlying kt = some .string) {ty : TypeId} {pos : String} {after : Array Edge} {gd : Option (Nat × Bool)} {m k v : Operand}
    (h : withO (ev E.G φ.fr m) fun dm => withO (ev E.G φ.fr k) fun dk => withO (ev E.G φ.fr v) fun dv => (match dk with | .str _ => True | _ => False) ∧ mupD E φ dm dk dv κ) :
    stepE P E ⟨none, .mapUpdate t m k v, ty, pos, after, gd⟩ φ κ := by
  obtain ⟨dm, h1, h⟩ := withO_elim h
  obtain ⟨dk, h2, h⟩ := withO_elim h
  obtain ⟨dv, h3, h4, h⟩ := withO_elim h
  simp only [stepE, h1, h2, h3, withO_some, hu]
  unfold mupD at h
  split at h
  · exact h4.elim
  · obtain ⟨h5, h⟩ := h
    obtain ⟨o, h6, h⟩ := withO_elim h
    refine ⟨h5, by simp [hk], ?_⟩
    rw [h6]
    cases o <;> first | exact h | exact h.elim
  · exact h.elim
/-- A cell that holds a nil slice becomes a cell that holds a row of the body's own. -/
theorem Weak.ownNilC {N : Nat} {fr : List (Nat × D)} {st : List (Nat × O)} (c g b : Nat) (e : TypeId) (size : Nat) (hc : look c st = some (.cells b [.nil])) (hg : look g st = none) (hro : g ∉ E.ro) (hcro : c ∉ E.ro) (hcg : c ≠ g) :
    Weak E ⟨N, fr, st⟩ ⟨N, fr, upd c (.cells b [.own g none 0 0]) (upd g (.row none 0 0 e size []) st)⟩ := by
  intro a w h
  have hup := (h.upd (k := g) (o := .row none 0 0 e size []) (B := Non) (Ext.refl _ _) (fun _ _ hf => hf.elim) hro (fun b hb => by simp [O.blk] at hb)
    (fun M' hM => ⟨rfl, by simp, [], World.ownsRow_nil w 0 e size, by simpa using Rl.nil⟩)).1
  have hlc : look c (upd g (.row none 0 0 e size []) st) = some (.cells b [.nil]) := by rw [look_upd, if_neg (Ne.symm hcg)]; exact hc
  obtain ⟨cur, te, h1, h2⟩ := h.st.obj _ _ hc
  refine (hup.upd (k := c) (o := .cells b [.own g none 0 0]) (B := Non) (Ext.refl _ _) (fun _ _ hf => hf.elim) hcro (fun b' hb => .inl ⟨_, hlc, hb⟩) (fun M' hM => ⟨cur, te, h1, ?_⟩)).1
  obtain ⟨v, hv⟩ : ∃ v, cur.toList = [v] := by
    have hl := h2.1
    cases hcl : cur.toList with
    | nil => rw [hcl] at hl; simp at hl
    | cons v r => cases r with
      | nil => exact ⟨v, rfl⟩
      | cons _ _ => rw [hcl] at hl; simp at hl
  rw [hv] at h2 ⊢
  have hr := h2.head
  cases hr
  exact .cons (.own ..) .nil
theorem fillD_nil (place : Nat → Option (Nat × Nat)) (cs : List D) (Kc : List D → Prop) : fillD place [] cs Kc = Kc cs := rfl
theorem fillD_cons (place : Nat → Option (Nat × Nat)) (i : Nat) (d : D) (r : List (Nat × D)) (cs : List D) (Kc : List D → Prop) : fillD place ((i, d) :: r) cs Kc =
    (withO (place i) fun p => d.known = true ∧ d.cells.length = p.2 ∧ p.1 + p.2 ≤ cs.length ∧ fillD place r (cs.take p.1 ++ d.cells ++ cs.drop (p.1 + p.2)) Kc) := rfl
def findM (es : List (D × D)) (k zd : D) (ok : Bool) (K : D → Prop) : Prop := withO (findD k es) fun v => K (if ok then .tup [v.getD zd, .bool v.isSome] else v.getD zd)
theorem lookN_int {t kt et : TypeId} {ik : IntKind} {l : Bool × Nat × Nat} {zs : List D} (hu : P.underlying t = some (.map kt et)) (hk : P.underlying kt = some (.int ik)) (hz : zeroOf P et = some zs) (hl : layOf P et = some l) (ha : zeroAgg P et = some l.1)
    (g r : Nat) (k : IntKind) (n : Int) (ok : Bool) : lookN P S t (.mapr g r) (.int k n) ok K = (withO (look g S) fun o => match o with
    | .map r' es => r' = r ∧ findM es (.int k n) (if l.1 then .agg zs else zs.getD 0 .any) ok K
    | _ => False) := by
  simp only [lookN, hu, hk]
  cases look g S with
  | none => rfl
  | some o => cases o with
    | map r' es =>
      simp only [withO_some, true_and, findM]
      congr 1
      cases findD (.int k n) es with
      | none => rfl
      | some v => cases v with
        | some v => cases ok <;> rfl
        | none => simp only [withO_some, hz, hl, ha]; cases ok <;> simp
    | _ => rfl
theorem lookN_str {t kt et : TypeId} {l : Bool × Nat × Nat} {zs : List D} (hu : P.underlying t = some (.map kt et)) (hk : P.underlying kt = some .string) (hz : zeroOf P et = some zs) (hl : layOf P et = some l) (ha : zeroAgg P et = some l.1)
    (g r : Nat) (k : List UInt8) (ok : Bool) : lookN P S t (.mapr g r) (.str k) ok K = (withO (look g S) fun o => match o with
    | .map r' es => r' = r ∧ findM es (.str k) (if l.1 then .agg zs else zs.getD 0 .any) ok K
    | _ => False) := by
  simp only [lookN, hu, hk]
  cases look g S with
  | none => rfl
  | some o => cases o with
    | map r' es =>
      simp only [withO_some, true_and, findM]
      congr 1
      cases findD (.str k) es with
      | none => rfl
      | some v => cases v with
        | some v => cases ok <;> rfl
        | none => simp only [withO_some, hz, hl, ha]; cases ok <;> simp
    | _ => rfl
theorem sN_move (x : Operand) : stepN P G S ρ (.move x) K = (withO (ρ x) K) := rfl
theorem sD_move (dst : Option Tmp) (ty : TypeId) (pos : String) (after : Array Edge) (g : Option (Nat × Bool)) (x : Operand) : stepD P E ⟨dst, .move x, ty, pos, after, g⟩ φ κ = (withO (ev E.G φ.fr x) (fun d => okDst φ.N dst ∧ κ { φ with fr := putF dst d φ.fr })) := rfl
theorem sN_assign (x : Operand) : stepN P G S ρ (.assign x) K = (withO (ρ x) K) := rfl
theorem sD_assign (dst : Option Tmp) (ty : TypeId) (pos : String) (after : Array Edge) (g : Option (Nat × Bool)) (x : Operand) : stepD P E ⟨dst, .assign x, ty, pos, after, g⟩ φ κ = (withO (ev E.G φ.fr x) (fun d => okDst φ.N dst ∧ κ { φ with fr := putF dst d φ.fr })) := rfl
theorem sN_box (t : TypeId) (x : Operand) : stepN P G S ρ (.box t x) K = (withO (ρ x) fun d => d.known = true ∧ (K) (.rp d.cells)) := rfl
theorem sD_box (dst : Option Tmp) (ty : TypeId) (pos : String) (after : Array Edge) (g : Option (Nat × Bool)) (t : TypeId) (x : Operand) : stepD P E ⟨dst, .box t x, ty, pos, after, g⟩ φ κ = (withO (ev E.G φ.fr x) fun d => d.known = true ∧ (fun d => okDst φ.N dst ∧ κ { φ with fr := putF dst d φ.fr }) (.rp d.cells)) := rfl
theorem sN_load (t : TypeId) (x : Operand) : stepN P G S ρ (.load t x) K = (withO (ρ x) fun d => loadN P S t d K) := rfl
theorem sD_load (dst : Option Tmp) (ty : TypeId) (pos : String) (after : Array Edge) (g : Option (Nat × Bool)) (t : TypeId) (x : Operand) : stepD P E ⟨dst, .load t x, ty, pos, after, g⟩ φ κ = (withO (ev E.G φ.fr x) fun d => loadN P φ.st t d (fun d => okDst φ.N dst ∧ κ { φ with fr := putF dst d φ.fr })) := rfl
theorem sN_fieldAddr (t : TypeId) (x : Operand) (i : Nat) : stepN P G S ρ (.fieldAddr t x i) K = (withO (ρ x) fun d => fieldAddrN P t d i K) := rfl
theorem sD_fieldAddr (dst : Option Tmp) (ty : TypeId) (pos : String) (after : Array Edge) (g : Option (Nat × Bool)) (t : TypeId) (x : Operand) (i : Nat) : stepD P E ⟨dst, .fieldAddr t x i, ty, pos, after, g⟩ φ κ = (withO (ev E.G φ.fr x) fun d => fieldAddrN P t d i (fun d => okDst φ.N dst ∧ κ { φ with fr := putF dst d φ.fr })) := rfl
theorem sN_field (t : TypeId) (x : Operand) (i : Nat) : stepN P G S ρ (.field t x i) K = (withO (ρ x) fun d => fieldN P t d i K) := rfl
theorem sD_field (dst : Option Tmp) (ty : TypeId) (pos : String) (after : Array Edge) (g : Option (Nat × Bool)) (t : TypeId) (x : Operand) (i : Nat) : stepD P E ⟨dst, .field t x i, ty, pos, after, g⟩ φ κ = (withO (ev E.G φ.fr x) fun d => fieldN P t d i (fun d => okDst φ.N dst ∧ κ { φ with fr := putF dst d φ.fr })) := rfl
theorem sN_indexAddr (t : TypeId) (x i : Operand) : stepN P G S ρ (.indexAddr t x i) K = (withO (ρ x) fun d => withO (ρ i) fun n => indexAddrN P S t d n K) := rfl
theorem sD_indexAddr (dst : Option Tmp) (ty : TypeId) (pos : String) (after : Array Edge) (g : Option (Nat × Bool)) (t : TypeId) (x i : Operand) : stepD P E ⟨dst, .indexAddr t x i, ty, pos, after, g⟩ φ κ = (withO (ev E.G φ.fr x) fun d => withO (ev E.G φ.fr i) fun n => indexAddrN P φ.st t d n (fun d => okDst φ.N dst ∧ κ { φ with fr := putF dst d φ.fr })) := rfl
theorem sN_index (t : TypeId) (x i : Operand) : stepN P G S ρ (.index t x i) K = (withO (ρ x) fun d => withO (ρ i) fun n => indexN P t d n K) := rfl
theorem sD_index (dst : Option Tmp) (ty : TypeId) (pos : String) (after : Array Edge) (g : Option (Nat × Bool)) (t : TypeId) (x i : Operand) : stepD P E ⟨dst, .index t x i, ty, pos, after, g⟩ φ κ = (withO (ev E.G φ.fr x) fun d => withO (ev E.G φ.fr i) fun n => indexN P t d n (fun d => okDst φ.N dst ∧ κ { φ with fr := putF dst d φ.fr })) := rfl
theorem sN_slice (t : TypeId) (x : Operand) (lo hi : Option Operand) : stepN P G S ρ (.slice t x lo hi none) K = (withO (ρ x) fun d => withOpt (ρ) lo fun l => withOpt (ρ) hi fun h => sliceN P t d l h K) := rfl
theorem sD_slice (dst : Option Tmp) (ty : TypeId) (pos : String) (after : Array Edge) (g : Option (Nat × Bool)) (t : TypeId) (x : Operand) (lo hi : Option Operand) : stepD P E ⟨dst, .slice t x lo hi none, ty, pos, after, g⟩ φ κ = (withO (ev E.G φ.fr x) fun d => withOpt (ev E.G φ.fr) lo fun l => withOpt (ev E.G φ.fr) hi fun h => sliceN P t d l h (fun d => okDst φ.N dst ∧ κ { φ with fr := putF dst d φ.fr })) := rfl
theorem sN_binOp (o : BinOp) (t t2 : TypeId) (x y : Operand) : stepN P G S ρ (.binOp o t x y t2) K = (withO (ρ x) fun d => withO (ρ y) fun e => binD P o t d e K) := rfl
theorem sD_binOp (dst : Option Tmp) (ty : TypeId) (pos : String) (after : Array Edge) (g : Option (Nat × Bool)) (o : BinOp) (t t2 : TypeId) (x y : Operand) : stepD P E ⟨dst, .binOp o t x y t2, ty, pos, after, g⟩ φ κ = (withO (ev E.G φ.fr x) fun d => withO (ev E.G φ.fr y) fun e => binD P o t d e (fun d => okDst φ.N dst ∧ κ { φ with fr := putF dst d φ.fr })) := rfl
theorem sN_unOp (o : UnOp) (t : TypeId) (x : Operand) : stepN P G S ρ (.unOp o t x) K = (withO (ρ x) fun d => unN o d K) := rfl
theorem sD_unOp (dst : Option Tmp) (ty : TypeId) (pos : String) (after : Array Edge) (g : Option (Nat × Bool)) (o : UnOp) (t : TypeId) (x : Operand) : stepD P E ⟨dst, .unOp o t x, ty, pos, after, g⟩ φ κ = (withO (ev E.G φ.fr x) fun d => unN o d (fun d => okDst φ.N dst ∧ κ { φ with fr := putF dst d φ.fr })) := rfl
theorem sN_convert (s d : TypeId) (x : Operand) : stepN P G S ρ (.convert s d x) K = (withO (ρ x) fun e => convN P s d e K) := rfl
theorem sD_convert (dst : Option Tmp) (ty : TypeId) (pos : String) (after : Array Edge) (g : Option (Nat × Bool)) (s d : TypeId) (x : Operand) : stepD P E ⟨dst, .convert s d x, ty, pos, after, g⟩ φ κ = (withO (ev E.G φ.fr x) fun e => convN P s d e (fun d => okDst φ.N dst ∧ κ { φ with fr := putF dst d φ.fr })) := rfl
theorem sN_extract (x : Operand) (i : Nat) : stepN P G S ρ (.extract x i) K = (withO (ρ x) fun d => extrD d i K) := rfl
theorem sD_extract (dst : Option Tmp) (ty : TypeId) (pos : String) (after : Array Edge) (g : Option (Nat × Bool)) (x : Operand) (i : Nat) : stepD P E ⟨dst, .extract x i, ty, pos, after, g⟩ φ κ = (withO (ev E.G φ.fr x) fun d => extrD d i (fun d => okDst φ.N dst ∧ κ { φ with fr := putF dst d φ.fr })) := rfl
theorem sN_nilCheck (x : Operand) : stepN P G S ρ (.nilCheck x) K = (withO (ρ x) fun d => nilD d K) := rfl
theorem sD_nilCheck (dst : Option Tmp) (ty : TypeId) (pos : String) (after : Array Edge) (g : Option (Nat × Bool)) (x : Operand) : stepD P E ⟨dst, .nilCheck x, ty, pos, after, g⟩ φ κ = (withO (ev E.G φ.fr x) fun d => nilD d (fun d => okDst φ.N dst ∧ κ { φ with fr := putF dst d φ.fr })) := rfl
theorem sN_entry (x : Operand) : stepN P G S ρ (.entry x) K = (withO (ρ x) fun d => entryN S d K) := rfl
theorem sD_entry (dst : Option Tmp) (ty : TypeId) (pos : String) (after : Array Edge) (g : Option (Nat × Bool)) (x : Operand) : stepD P E ⟨dst, .entry x, ty, pos, after, g⟩ φ κ = (withO (ev E.G φ.fr x) fun d => entryN φ.st d (fun d => okDst φ.N dst ∧ κ { φ with fr := putF dst d φ.fr })) := rfl
theorem sN_makeFunc (f : FuncId) (xs ys : Array Operand) : stepN P G S ρ (.makeFunc (.func f) xs ys) K = (withAll (ρ) xs.toList fun ds => withAll (ρ) ys.toList fun es => (K) (.fn f ds es)) := rfl
theorem sD_makeFunc (dst : Option Tmp) (ty : TypeId) (pos : String) (after : Array Edge) (g : Option (Nat × Bool)) (f : FuncId) (xs ys : Array Operand) : stepD P E ⟨dst, .makeFunc (.func f) xs ys, ty, pos, after, g⟩ φ κ = (withAll (ev E.G φ.fr) xs.toList fun ds => withAll (ev E.G φ.fr) ys.toList fun es => (fun d => okDst φ.N dst ∧ κ { φ with fr := putF dst d φ.fr }) (.fn f ds es)) := rfl
theorem sN_build (t : TypeId) (ps : Array (Nat × Operand)) : stepN P G S ρ (.build t ps) K = (withAll (fun p => (ρ) p.2) ps.toList fun ds => withO (zeroOf P t) fun zs => buildD P t (ps.toList.map (·.1)) ds zs K) := rfl
theorem sD_build (dst : Option Tmp) (ty : TypeId) (pos : String) (after : Array Edge) (g : Option (Nat × Bool)) (t : TypeId) (ps : Array (Nat × Operand)) : stepD P E ⟨dst, .build t ps, ty, pos, after, g⟩ φ κ = (withAll (fun p => (ev E.G φ.fr) p.2) ps.toList fun ds => withO (zeroOf P t) fun zs => buildD P t (ps.toList.map (·.1)) ds zs (fun d => okDst φ.N dst ∧ κ { φ with fr := putF dst d φ.fr })) := rfl
theorem sN_buildSlice (t : TypeId) (n : Nat) (ps : Array (Nat × Operand)) : stepN P G S ρ (.buildSlice t n ps) K = (withAll (fun p => (ρ) p.2) ps.toList fun ds => buildSl P t n (ps.toList.map (·.1)) ds K) := rfl
theorem sD_buildSlice (dst : Option Tmp) (ty : TypeId) (pos : String) (after : Array Edge) (g : Option (Nat × Bool)) (t : TypeId) (n : Nat) (ps : Array (Nat × Operand)) : stepD P E ⟨dst, .buildSlice t n ps, ty, pos, after, g⟩ φ κ = (withAll (fun p => (ev E.G φ.fr) p.2) ps.toList fun ds => buildSl P t n (ps.toList.map (·.1)) ds (fun d => okDst φ.N dst ∧ κ { φ with fr := putF dst d φ.fr })) := rfl
theorem sN_lookup (t : TypeId) (m k : Operand) (ok : Bool) : stepN P G S ρ (.lookup t m k ok) K = (withO (ρ m) fun dm => withO (ρ k) fun dk => lookN P S t dm dk ok K) := rfl
theorem sD_lookup (dst : Option Tmp) (ty : TypeId) (pos : String) (after : Array Edge) (g : Option (Nat × Bool)) (t : TypeId) (m k : Operand) (ok : Bool) : stepD P E ⟨dst, .lookup t m k ok, ty, pos, after, g⟩ φ κ = (withO (ev E.G φ.fr m) fun dm => withO (ev E.G φ.fr k) fun dk => lookN P φ.st t dm dk ok (fun d => okDst φ.N dst ∧ κ { φ with fr := putF dst d φ.fr })) := rfl
def pickN (dc : D) (a b : Option D) (K : D → Prop) : Prop := match dc with | .bool t => split t (withO a K) (withO b K) | _ => False
theorem oD_move (ops : Array Oper) (dst : Option Tmp) (ty : TypeId) (pos : String) (after : Array Edge) (r : List Oper) (x : Operand) : opsD P E ops (⟨dst, .move x, ty, pos, after, none⟩ :: r) φ κ = (withO (ev E.G φ.fr x) (fun d => okDst φ.N dst ∧ opsD P E ops r { φ with fr := putF dst d φ.fr } κ)) := rfl
theorem oN_move (ops : Array Oper) (dst : Option Tmp) (ty : TypeId) (pos : String) (after : Array Edge) (r : List Oper) (x : Operand) : opsN P E ops (⟨dst, .move x, ty, pos, after, none⟩ :: r) φ κ = (withO (ev E.G φ.fr x) (fun d => okDst φ.N dst ∧ opsN P E ops r { φ with fr := putF dst d φ.fr } κ)) := rfl
theorem aD_move (dst : Option Tmp) (ty : TypeId) (pos : String) (after : Array Edge) (r : List Oper) (g : Option (Nat × Bool)) (x : Operand) : allocsD P E (⟨dst, .move x, ty, pos, after, g⟩ :: r) φ κ = allocsD P E r φ κ := rfl
theorem oD_assign (ops : Array Oper) (dst : Option Tmp) (ty : TypeId) (pos : String) (after : Array Edge) (r : List Oper) (x : Operand) : opsD P E ops (⟨dst, .assign x, ty, pos, after, none⟩ :: r) φ κ = (withO (ev E.G φ.fr x) (fun d => okDst φ.N dst ∧ opsD P E ops r { φ with fr := putF dst d φ.fr } κ)) := rfl
theorem oN_assign (ops : Array Oper) (dst : Option Tmp) (ty : TypeId) (pos : String) (after : Array Edge) (r : List Oper) (x : Operand) : opsN P E ops (⟨dst, .assign x, ty, pos, after, none⟩ :: r) φ κ = (withO (ev E.G φ.fr x) (fun d => okDst φ.N dst ∧ opsN P E ops r { φ with fr := putF dst d φ.fr } κ)) := rfl
theorem aD_assign (dst : Option Tmp) (ty : TypeId) (pos : String) (after : Array Edge) (r : List Oper) (g : Option (Nat × Bool)) (x : Operand) : allocsD P E (⟨dst, .assign x, ty, pos, after, g⟩ :: r) φ κ = allocsD P E r φ κ := rfl
theorem oD_box (ops : Array Oper) (dst : Option Tmp) (ty : TypeId) (pos : String) (after : Array Edge) (r : List Oper) (t : TypeId) (x : Operand) : opsD P E ops (⟨dst, .box t x, ty, pos, after, none⟩ :: r) φ κ = (withO (ev E.G φ.fr x) fun d => d.known = true ∧ (fun d => okDst φ.N dst ∧ opsD P E ops r { φ with fr := putF dst d φ.fr } κ) (.rp d.cells)) := rfl
theorem oN_box (ops : Array Oper) (dst : Option Tmp) (ty : TypeId) (pos : String) (after : Array Edge) (r : List Oper) (t : TypeId) (x : Operand) : opsN P E ops (⟨dst, .box t x, ty, pos, after, none⟩ :: r) φ κ = (withO (ev E.G φ.fr x) fun d => d.known = true ∧ (fun d => okDst φ.N dst ∧ opsN P E ops r { φ with fr := putF dst d φ.fr } κ) (.rp d.cells)) := rfl
theorem aD_box (dst : Option Tmp) (ty : TypeId) (pos : String) (after : Array Edge) (r : List Oper) (g : Option (Nat × Bool)) (t : TypeId) (x : Operand) : allocsD P E (⟨dst, .box t x, ty, pos, after, g⟩ :: r) φ κ = allocsD P E r φ κ := rfl
theorem oD_load (ops : Array Oper) (dst : Option Tmp) (ty : TypeId) (pos : String) (after : Array Edge) (r : List Oper) (t : TypeId) (x : Operand) : opsD P E ops (⟨dst, .load t x, ty, pos, after, none⟩ :: r) φ κ = (withO (ev E.G φ.fr x) fun d => loadN P φ.st t d (fun d => okDst φ.N dst ∧ opsD P E ops r { φ with fr := putF dst d φ.fr } κ)) := rfl
theorem oN_load (ops : Array Oper) (dst : Option Tmp) (ty : TypeId) (pos : String) (after : Array Edge) (r : List Oper) (t : TypeId) (x : Operand) : opsN P E ops (⟨dst, .load t x, ty, pos, after, none⟩ :: r) φ κ = (withO (ev E.G φ.fr x) fun d => loadN P φ.st t d (fun d => okDst φ.N dst ∧ opsN P E ops r { φ with fr := putF dst d φ.fr } κ)) := rfl
theorem aD_load (dst : Option Tmp) (ty : TypeId) (pos : String) (after : Array Edge) (r : List Oper) (g : Option (Nat × Bool)) (t : TypeId) (x : Operand) : allocsD P E (⟨dst, .load t x, ty, pos, after, g⟩ :: r) φ κ = allocsD P E r φ κ := rfl
theorem oD_fieldAddr (ops : Array Oper) (dst : Option Tmp) (ty : TypeId) (pos : String) (after : Array Edge) (r : List Oper) (t : TypeId) (x : Operand) (i : Nat) : opsD P E ops (⟨dst, .fieldAddr t x i, ty, pos, after, none⟩ :: r) φ κ = (withO (ev E.G φ.fr x) fun d => fieldAddrN P t d i (fun d => okDst φ.N dst ∧ opsD P E ops r { φ with fr := putF dst d φ.fr } κ)) := rfl
theorem oN_fieldAddr (ops : Array Oper) (dst : Option Tmp) (ty : TypeId) (pos : String) (after : Array Edge) (r : List Oper) (t : TypeId) (x : Operand) (i : Nat) : opsN P E ops (⟨dst, .fieldAddr t x i, ty, pos, after, none⟩ :: r) φ κ = (withO (ev E.G φ.fr x) fun d => fieldAddrN P t d i (fun d => okDst φ.N dst ∧ opsN P E ops r { φ with fr := putF dst d φ.fr } κ)) := rfl
theorem aD_fieldAddr (dst : Option Tmp) (ty : TypeId) (pos : String) (after : Array Edge) (r : List Oper) (g : Option (Nat × Bool)) (t : TypeId) (x : Operand) (i : Nat) : allocsD P E (⟨dst, .fieldAddr t x i, ty, pos, after, g⟩ :: r) φ κ = allocsD P E r φ κ := rfl
theorem oD_field (ops : Array Oper) (dst : Option Tmp) (ty : TypeId) (pos : String) (after : Array Edge) (r : List Oper) (t : TypeId) (x : Operand) (i : Nat) : opsD P E ops (⟨dst, .field t x i, ty, pos, after, none⟩ :: r) φ κ = (withO (ev E.G φ.fr x) fun d => fieldN P t d i (fun d => okDst φ.N dst ∧ opsD P E ops r { φ with fr := putF dst d φ.fr } κ)) := rfl
theorem oN_field (ops : Array Oper) (dst : Option Tmp) (ty : TypeId) (pos : String) (after : Array Edge) (r : List Oper) (t : TypeId) (x : Operand) (i : Nat) : opsN P E ops (⟨dst, .field t x i, ty, pos, after, none⟩ :: r) φ κ = (withO (ev E.G φ.fr x) fun d => fieldN P t d i (fun d => okDst φ.N dst ∧ opsN P E ops r { φ with fr := putF dst d φ.fr } κ)) := rfl
theorem aD_field (dst : Option Tmp) (ty : TypeId) (pos : String) (after : Array Edge) (r : List Oper) (g : Option (Nat × Bool)) (t : TypeId) (x : Operand) (i : Nat) : allocsD P E (⟨dst, .field t x i, ty, pos, after, g⟩ :: r) φ κ = allocsD P E r φ κ := rfl
theorem oD_indexAddr (ops : Array Oper) (dst : Option Tmp) (ty : TypeId) (pos : String) (after : Array Edge) (r : List Oper) (t : TypeId) (x i : Operand) : opsD P E ops (⟨dst, .indexAddr t x i, ty, pos, after, none⟩ :: r) φ κ = (withO (ev E.G φ.fr x) fun d => withO (ev E.G φ.fr i) fun n => indexAddrN P φ.st t d n (fun d => okDst φ.N dst ∧ opsD P E ops r { φ with fr := putF dst d φ.fr } κ)) := rfl
theorem oN_indexAddr (ops : Array Oper) (dst : Option Tmp) (ty : TypeId) (pos : String) (after : Array Edge) (r : List Oper) (t : TypeId) (x i : Operand) : opsN P E ops (⟨dst, .indexAddr t x i, ty, pos, after, none⟩ :: r) φ κ = (withO (ev E.G φ.fr x) fun d => withO (ev E.G φ.fr i) fun n => indexAddrN P φ.st t d n (fun d => okDst φ.N dst ∧ opsN P E ops r { φ with fr := putF dst d φ.fr } κ)) := rfl
theorem aD_indexAddr (dst : Option Tmp) (ty : TypeId) (pos : String) (after : Array Edge) (r : List Oper) (g : Option (Nat × Bool)) (t : TypeId) (x i : Operand) : allocsD P E (⟨dst, .indexAddr t x i, ty, pos, after, g⟩ :: r) φ κ = allocsD P E r φ κ := rfl
theorem oD_index (ops : Array Oper) (dst : Option Tmp) (ty : TypeId) (pos : String) (after : Array Edge) (r : List Oper) (t : TypeId) (x i : Operand) : opsD P E ops (⟨dst, .index t x i, ty, pos, after, none⟩ :: r) φ κ = (withO (ev E.G φ.fr x) fun d => withO (ev E.G φ.fr i) fun n => indexN P t d n (fun d => okDst φ.N dst ∧ opsD P E ops r { φ with fr := putF dst d φ.fr } κ)) := rfl
theorem oN_index (ops : Array Oper) (dst : Option Tmp) (ty : TypeId) (pos : String) (after : Array Edge) (r : List Oper) (t : TypeId) (x i : Operand) : opsN P E ops (⟨dst, .index t x i, ty, pos, after, none⟩ :: r) φ κ = (withO (ev E.G φ.fr x) fun d => withO (ev E.G φ.fr i) fun n => indexN P t d n (fun d => okDst φ.N dst ∧ opsN P E ops r { φ with fr := putF dst d φ.fr } κ)) := rfl
theorem aD_index (dst : Option Tmp) (ty : TypeId) (pos : String) (after : Array Edge) (r : List Oper) (g : Option (Nat × Bool)) (t : TypeId) (x i : Operand) : allocsD P E (⟨dst, .index t x i, ty, pos, after, g⟩ :: r) φ κ = allocsD P E r φ κ := rfl
theorem oD_slice (ops : Array Oper) (dst : Option Tmp) (ty : TypeId) (pos : String) (after : Array Edge) (r : List Oper) (t : TypeId) (x : Operand) (lo hi : Option Operand) : opsD P E ops (⟨dst, .slice t x lo hi none, ty, pos, after, none⟩ :: r) φ κ = (withO (ev E.G φ.fr x) fun d => withOpt (ev E.G φ.fr) lo fun l => withOpt (ev E.G φ.fr) hi fun h => sliceN P t d l h (fun d => okDst φ.N dst ∧ opsD P E ops r { φ with fr := putF dst d φ.fr } κ)) := rfl
theorem oN_slice (ops : Array Oper) (dst : Option Tmp) (ty : TypeId) (pos : String) (after : Array Edge) (r : List Oper) (t : TypeId) (x : Operand) (lo hi : Option Operand) : opsN P E ops (⟨dst, .slice t x lo hi none, ty, pos, after, none⟩ :: r) φ κ = (withO (ev E.G φ.fr x) fun d => withOpt (ev E.G φ.fr) lo fun l => withOpt (ev E.G φ.fr) hi fun h => sliceN P t d l h (fun d => okDst φ.N dst ∧ opsN P E ops r { φ with fr := putF dst d φ.fr } κ)) := rfl
theorem aD_slice (dst : Option Tmp) (ty : TypeId) (pos : String) (after : Array Edge) (r : List Oper) (g : Option (Nat × Bool)) (t : TypeId) (x : Operand) (lo hi : Option Operand) : allocsD P E (⟨dst, .slice t x lo hi none, ty, pos, after, g⟩ :: r) φ κ = allocsD P E r φ κ := rfl
theorem oD_binOp (ops : Array Oper) (dst : Option Tmp) (ty : TypeId) (pos : String) (after : Array Edge) (r : List Oper) (o : BinOp) (t t2 : TypeId) (x y : Operand) : opsD P E ops (⟨dst, .binOp o t x y t2, ty, pos, after, none⟩ :: r) φ κ = (withO (ev E.G φ.fr x) fun d => withO (ev E.G φ.fr y) fun e => binD P o t d e (fun d => okDst φ.N dst ∧ opsD P E ops r { φ with fr := putF dst d φ.fr } κ)) := rfl
theorem oN_binOp (ops : Array Oper) (dst : Option Tmp) (ty : TypeId) (pos : String) (after : Array Edge) (r : List Oper) (o : BinOp) (t t2 : TypeId) (x y : Operand) : opsN P E ops (⟨dst, .binOp o t x y t2, ty, pos, after, none⟩ :: r) φ κ = (withO (ev E.G φ.fr x) fun d => withO (ev E.G φ.fr y) fun e => binD P o t d e (fun d => okDst φ.N dst ∧ opsN P E ops r { φ with fr := putF dst d φ.fr } κ)) := rfl
theorem aD_binOp (dst : Option Tmp) (ty : TypeId) (pos : String) (after : Array Edge) (r : List Oper) (g : Option (Nat × Bool)) (o : BinOp) (t t2 : TypeId) (x y : Operand) : allocsD P E (⟨dst, .binOp o t x y t2, ty, pos, after, g⟩ :: r) φ κ = allocsD P E r φ κ := rfl
theorem oD_unOp (ops : Array Oper) (dst : Option Tmp) (ty : TypeId) (pos : String) (after : Array Edge) (r : List Oper) (o : UnOp) (t : TypeId) (x : Operand) : opsD P E ops (⟨dst, .unOp o t x, ty, pos, after, none⟩ :: r) φ κ = (withO (ev E.G φ.fr x) fun d => unN o d (fun d => okDst φ.N dst ∧ opsD P E ops r { φ with fr := putF dst d φ.fr } κ)) := rfl
theorem oN_unOp (ops : Array Oper) (dst : Option Tmp) (ty : TypeId) (pos : String) (after : Array Edge) (r : List Oper) (o : UnOp) (t : TypeId) (x : Operand) : opsN P E ops (⟨dst, .unOp o t x, ty, pos, after, none⟩ :: r) φ κ = (withO (ev E.G φ.fr x) fun d => unN o d (fun d => okDst φ.N dst ∧ opsN P E ops r { φ with fr := putF dst d φ.fr } κ)) := rfl
theorem aD_unOp (dst : Option Tmp) (ty : TypeId) (pos : String) (after : Array Edge) (r : List Oper) (g : Option (Nat × Bool)) (o : UnOp) (t : TypeId) (x : Operand) : allocsD P E (⟨dst, .unOp o t x, ty, pos, after, g⟩ :: r) φ κ = allocsD P E r φ κ := rfl
theorem oD_convert (ops : Array Oper) (dst : Option Tmp) (ty : TypeId) (pos : String) (after : Array Edge) (r : List Oper) (s d : TypeId) (x : Operand) : opsD P E ops (⟨dst, .convert s d x, ty, pos, after, none⟩ :: r) φ κ = (withO (ev E.G φ.fr x) fun e => convN P s d e (fun d => okDst φ.N dst ∧ opsD P E ops r { φ with fr := putF dst d φ.fr } κ)) := rfl
theorem oN_convert (ops : Array Oper) (dst : Option Tmp) (ty : TypeId) (pos : String) (after : Array Edge) (r : List Oper) (s d : TypeId) (x : Operand) : opsN P E ops (⟨dst, .convert s d x, ty, pos, after, none⟩ :: r) φ κ = (withO (ev E.G φ.fr x) fun e => convN P s d e (fun d => okDst φ.N dst ∧ opsN P E ops r { φ with fr := putF dst d φ.fr } κ)) := rfl
theorem aD_convert (dst : Option Tmp) (ty : TypeId) (pos : String) (after : Array Edge) (r : List Oper) (g : Option (Nat × Bool)) (s d : TypeId) (x : Operand) : allocsD P E (⟨dst, .convert s d x, ty, pos, after, g⟩ :: r) φ κ = allocsD P E r φ κ := rfl
theorem oD_extract (ops : Array Oper) (dst : Option Tmp) (ty : TypeId) (pos : String) (after : Array Edge) (r : List Oper) (x : Operand) (i : Nat) : opsD P E ops (⟨dst, .extract x i, ty, pos, after, none⟩ :: r) φ κ = (withO (ev E.G φ.fr x) fun d => extrD d i (fun d => okDst φ.N dst ∧ opsD P E ops r { φ with fr := putF dst d φ.fr } κ)) := rfl
theorem oN_extract (ops : Array Oper) (dst : Option Tmp) (ty : TypeId) (pos : String) (after : Array Edge) (r : List Oper) (x : Operand) (i : Nat) : opsN P E ops (⟨dst, .extract x i, ty, pos, after, none⟩ :: r) φ κ = (withO (ev E.G φ.fr x) fun d => extrD d i (fun d => okDst φ.N dst ∧ opsN P E ops r { φ with fr := putF dst d φ.fr } κ)) := rfl
theorem aD_extract (dst : Option Tmp) (ty : TypeId) (pos : String) (after : Array Edge) (r : List Oper) (g : Option (Nat × Bool)) (x : Operand) (i : Nat) : allocsD P E (⟨dst, .extract x i, ty, pos, after, g⟩ :: r) φ κ = allocsD P E r φ κ := rfl
theorem oD_nilCheck (ops : Array Oper) (dst : Option Tmp) (ty : TypeId) (pos : String) (after : Array Edge) (r : List Oper) (x : Operand) : opsD P E ops (⟨dst, .nilCheck x, ty, pos, after, none⟩ :: r) φ κ = (withO (ev E.G φ.fr x) fun d => nilD d (fun d => okDst φ.N dst ∧ opsD P E ops r { φ with fr := putF dst d φ.fr } κ)) := rfl
theorem oN_nilCheck (ops : Array Oper) (dst : Option Tmp) (ty : TypeId) (pos : String) (after : Array Edge) (r : List Oper) (x : Operand) : opsN P E ops (⟨dst, .nilCheck x, ty, pos, after, none⟩ :: r) φ κ = (withO (ev E.G φ.fr x) fun d => nilD d (fun d => okDst φ.N dst ∧ opsN P E ops r { φ with fr := putF dst d φ.fr } κ)) := rfl
theorem aD_nilCheck (dst : Option Tmp) (ty : TypeId) (pos : String) (after : Array Edge) (r : List Oper) (g : Option (Nat × Bool)) (x : Operand) : allocsD P E (⟨dst, .nilCheck x, ty, pos, after, g⟩ :: r) φ κ = allocsD P E r φ κ := rfl
theorem oD_entry (ops : Array Oper) (dst : Option Tmp) (ty : TypeId) (pos : String) (after : Array Edge) (r : List Oper) (x : Operand) : opsD P E ops (⟨dst, .entry x, ty, pos, after, none⟩ :: r) φ κ = (withO (ev E.G φ.fr x) fun d => entryN φ.st d (fun d => okDst φ.N dst ∧ opsD P E ops r { φ with fr := putF dst d φ.fr } κ)) := rfl
theorem oN_entry (ops : Array Oper) (dst : Option Tmp) (ty : TypeId) (pos : String) (after : Array Edge) (r : List Oper) (x : Operand) : opsN P E ops (⟨dst, .entry x, ty, pos, after, none⟩ :: r) φ κ = (withO (ev E.G φ.fr x) fun d => entryN φ.st d (fun d => okDst φ.N dst ∧ opsN P E ops r { φ with fr := putF dst d φ.fr } κ)) := rfl
theorem aD_entry (dst : Option Tmp) (ty : TypeId) (pos : String) (after : Array Edge) (r : List Oper) (g : Option (Nat × Bool)) (x : Operand) : allocsD P E (⟨dst, .entry x, ty, pos, after, g⟩ :: r) φ κ = allocsD P E r φ κ := rfl
theorem oD_makeFunc (ops : Array Oper) (dst : Option Tmp) (ty : TypeId) (pos : String) (after : Array Edge) (r : List Oper) (f : FuncId) (xs ys : Array Operand) : opsD P E ops (⟨dst, .makeFunc (.func f) xs ys, ty, pos, after, none⟩ :: r) φ κ = (withAll (ev E.G φ.fr) xs.toList fun ds => withAll (ev E.G φ.fr) ys.toList fun es => (fun d => okDst φ.N dst ∧ opsD P E ops r { φ with fr := putF dst d φ.fr } κ) (.fn f ds es)) := rfl
theorem oN_makeFunc (ops : Array Oper) (dst : Option Tmp) (ty : TypeId) (pos : String) (after : Array Edge) (r : List Oper) (f : FuncId) (xs ys : Array Operand) : opsN P E ops (⟨dst, .makeFunc (.func f) xs ys, ty, pos, after, none⟩ :: r) φ κ = (withAll (ev E.G φ.fr) xs.toList fun ds => withAll (ev E.G φ.fr) ys.toList fun es => (fun d => okDst φ.N dst ∧ opsN P E ops r { φ with fr := putF dst d φ.fr } κ) (.fn f ds es)) := rfl
theorem aD_makeFunc (dst : Option Tmp) (ty : TypeId) (pos : String) (after : Array Edge) (r : List Oper) (g : Option (Nat × Bool)) (f : FuncId) (xs ys : Array Operand) : allocsD P E (⟨dst, .makeFunc (.func f) xs ys, ty, pos, after, g⟩ :: r) φ κ = allocsD P E r φ κ := rfl
theorem oD_build (ops : Array Oper) (dst : Option Tmp) (ty : TypeId) (pos : String) (after : Array Edge) (r : List Oper) (t : TypeId) (ps : Array (Nat × Operand)) : opsD P E ops (⟨dst, .build t ps, ty, pos, after, none⟩ :: r) φ κ = (withAll (fun p => (ev E.G φ.fr) p.2) ps.toList fun ds => withO (zeroOf P t) fun zs => buildD P t (ps.toList.map (·.1)) ds zs (fun d => okDst φ.N dst ∧ opsD P E ops r { φ with fr := putF dst d φ.fr } κ)) := rfl
theorem oN_build (ops : Array Oper) (dst : Option Tmp) (ty : TypeId) (pos : String) (after : Array Edge) (r : List Oper) (t : TypeId) (ps : Array (Nat × Operand)) : opsN P E ops (⟨dst, .build t ps, ty, pos, after, none⟩ :: r) φ κ = (withAll (fun p => (ev E.G φ.fr) p.2) ps.toList fun ds => withO (zeroOf P t) fun zs => buildD P t (ps.toList.map (·.1)) ds zs (fun d => okDst φ.N dst ∧ opsN P E ops r { φ with fr := putF dst d φ.fr } κ)) := rfl
theorem aD_build (dst : Option Tmp) (ty : TypeId) (pos : String) (after : Array Edge) (r : List Oper) (g : Option (Nat × Bool)) (t : TypeId) (ps : Array (Nat × Operand)) : allocsD P E (⟨dst, .build t ps, ty, pos, after, g⟩ :: r) φ κ = allocsD P E r φ κ := rfl
theorem oD_buildSlice (ops : Array Oper) (dst : Option Tmp) (ty : TypeId) (pos : String) (after : Array Edge) (r : List Oper) (t : TypeId) (n : Nat) (ps : Array (Nat × Operand)) : opsD P E ops (⟨dst, .buildSlice t n ps, ty, pos, after, none⟩ :: r) φ κ = (withAll (fun p => (ev E.G φ.fr) p.2) ps.toList fun ds => buildSl P t n (ps.toList.map (·.1)) ds (fun d => okDst φ.N dst ∧ opsD P E ops r { φ with fr := putF dst d φ.fr } κ)) := rfl
theorem oN_buildSlice (ops : Array Oper) (dst : Option Tmp) (ty : TypeId) (pos : String) (after : Array Edge) (r : List Oper) (t : TypeId) (n : Nat) (ps : Array (Nat × Operand)) : opsN P E ops (⟨dst, .buildSlice t n ps, ty, pos, after, none⟩ :: r) φ κ = (withAll (fun p => (ev E.G φ.fr) p.2) ps.toList fun ds => buildSl P t n (ps.toList.map (·.1)) ds (fun d => okDst φ.N dst ∧ opsN P E ops r { φ with fr := putF dst d φ.fr } κ)) := rfl
theorem aD_buildSlice (dst : Option Tmp) (ty : TypeId) (pos : String) (after : Array Edge) (r : List Oper) (g : Option (Nat × Bool)) (t : TypeId) (n : Nat) (ps : Array (Nat × Operand)) : allocsD P E (⟨dst, .buildSlice t n ps, ty, pos, after, g⟩ :: r) φ κ = allocsD P E r φ κ := rfl
theorem oD_lookup (ops : Array Oper) (dst : Option Tmp) (ty : TypeId) (pos : String) (after : Array Edge) (r : List Oper) (t : TypeId) (m k : Operand) (ok : Bool) : opsD P E ops (⟨dst, .lookup t m k ok, ty, pos, after, none⟩ :: r) φ κ = (withO (ev E.G φ.fr m) fun dm => withO (ev E.G φ.fr k) fun dk => lookN P φ.st t dm dk ok (fun d => okDst φ.N dst ∧ opsD P E ops r { φ with fr := putF dst d φ.fr } κ)) := rfl
theorem oN_lookup (ops : Array Oper) (dst : Option Tmp) (ty : TypeId) (pos : String) (after : Array Edge) (r : List Oper) (t : TypeId) (m k : Operand) (ok : Bool) : opsN P E ops (⟨dst, .lookup t m k ok, ty, pos, after, none⟩ :: r) φ κ = (withO (ev E.G φ.fr m) fun dm => withO (ev E.G φ.fr k) fun dk => lookN P φ.st t dm dk ok (fun d => okDst φ.N dst ∧ opsN P E ops r { φ with fr := putF dst d φ.fr } κ)) := rfl
theorem aD_lookup (dst : Option Tmp) (ty : TypeId) (pos : String) (after : Array Edge) (r : List Oper) (g : Option (Nat × Bool)) (t : TypeId) (m k : Operand) (ok : Bool) : allocsD P E (⟨dst, .lookup t m k ok, ty, pos, after, g⟩ :: r) φ κ = allocsD P E r φ κ := rfl
theorem oD_pick (ops : Array Oper) (dst : Option Tmp) (ty : TypeId) (pos : String) (after : Array Edge) (r : List Oper) (c a b : Operand) : opsD P E ops (⟨dst, .pick c a b, ty, pos, after, none⟩ :: r) φ κ = (withO (ev E.G φ.fr c) fun dc => pickN dc (ev E.G φ.fr a) (ev E.G φ.fr b) (fun d => okDst φ.N dst ∧ opsD P E ops r { φ with fr := putF dst d φ.fr } κ)) := rfl
theorem oN_pick (ops : Array Oper) (dst : Option Tmp) (ty : TypeId) (pos : String) (after : Array Edge) (r : List Oper) (c a b : Operand) : opsN P E ops (⟨dst, .pick c a b, ty, pos, after, none⟩ :: r) φ κ = (withO (ev E.G φ.fr c) fun dc => pickN dc (ev E.G φ.fr a) (ev E.G φ.fr b) (fun d => okDst φ.N dst ∧ opsN P E ops r { φ with fr := putF dst d φ.fr } κ)) := rfl
theorem aD_pick (dst : Option Tmp) (ty : TypeId) (pos : String) (after : Array Edge) (r : List Oper) (g : Option (Nat × Bool)) (c a b : Operand) : allocsD P E (⟨dst, .pick c a b, ty, pos, after, g⟩ :: r) φ κ = allocsD P E r φ κ := rfl
theorem oD_len (ops : Array Oper) (dst : Option Tmp) (ty : TypeId) (pos : String) (after : Array Edge) (r : List Oper) (x : Operand) (t : TypeId) : opsD P E ops (⟨dst, .call { callee := .builtin .len, args := #[x], argTypes := #[t] }, ty, pos, after, none⟩ :: r) φ κ = (withO (ev E.G φ.fr x) fun d => lenN P φ.st t d (fun d => okDst φ.N dst ∧ opsD P E ops r { φ with fr := putF dst d φ.fr } κ)) := rfl
theorem oN_len (ops : Array Oper) (dst : Option Tmp) (ty : TypeId) (pos : String) (after : Array Edge) (r : List Oper) (x : Operand) (t : TypeId) : opsN P E ops (⟨dst, .call { callee := .builtin .len, args := #[x], argTypes := #[t] }, ty, pos, after, none⟩ :: r) φ κ = (withO (ev E.G φ.fr x) fun d => lenN P φ.st t d (fun d => okDst φ.N dst ∧ opsN P E ops r { φ with fr := putF dst d φ.fr } κ)) := rfl
theorem aD_len (dst : Option Tmp) (ty : TypeId) (pos : String) (after : Array Edge) (r : List Oper) (g : Option (Nat × Bool)) (x : Operand) (t : TypeId) : allocsD P E (⟨dst, .call { callee := .builtin .len, args := #[x], argTypes := #[t] }, ty, pos, after, g⟩ :: r) φ κ = allocsD P E r φ κ := rfl
theorem oN_call (ops : Array Oper) (dst : Option Tmp) (ty : TypeId) (pos : String) (after : Array Edge) (r : List Oper) (f : Operand) (xs : Array Operand) (ts : Array TypeId) : opsN P E ops (⟨dst, .call { callee := .value f, args := xs, argTypes := ts }, ty, pos, after, none⟩ :: r) φ κ = (withO (ev E.G φ.fr f) fun df => withAll (ev E.G φ.fr) xs.toList fun ds => callN P E.G φ.st df ds (fun d => okDst φ.N dst ∧ opsN P E ops r { φ with fr := putF dst d φ.fr } κ)) := rfl
theorem aD_call (dst : Option Tmp) (ty : TypeId) (pos : String) (after : Array Edge) (r : List Oper) (g : Option (Nat × Bool)) (f : Callee) (xs : Array Operand) (ts : Array TypeId) : allocsD P E (⟨dst, .call { callee := f, args := xs, argTypes := ts }, ty, pos, after, g⟩ :: r) φ κ = allocsD P E r φ κ := rfl
theorem oD_alloc (ops : Array Oper) (dst : Option Tmp) (ty : TypeId) (pos : String) (after : Array Edge) (r : List Oper) (t : TypeId) : opsD P E ops (⟨dst, .alloc t, ty, pos, after, none⟩ :: r) φ κ = stepD P E ⟨dst, .alloc t, ty, pos, after, none⟩ φ fun φ' => opsD P E ops r φ' κ := rfl
theorem oD_store (ops : Array Oper) (dst : Option Tmp) (ty : TypeId) (pos : String) (after : Array Edge) (r : List Oper) (t : TypeId) (a x : Operand) : opsD P E ops (⟨dst, .store t a x, ty, pos, after, none⟩ :: r) φ κ = stepD P E ⟨dst, .store t a x, ty, pos, after, none⟩ φ fun φ' => opsD P E ops r φ' κ := rfl
theorem oD_append (ops : Array Oper) (dst : Option Tmp) (ty : TypeId) (pos : String) (after : Array Edge) (r : List Oper) (xs : Array Operand) (ts : Array TypeId) : opsD P E ops (⟨dst, .call { callee := .builtin .append, args := xs, argTypes := ts }, ty, pos, after, none⟩ :: r) φ κ = stepD P E ⟨dst, .call { callee := .builtin .append, args := xs, argTypes := ts }, ty, pos, after, none⟩ φ fun φ' => opsD P E ops r φ' κ := rfl
theorem oD_makeMap (ops : Array Oper) (dst : Option Tmp) (ty : TypeId) (pos : String) (after : Array Edge) (r : List Oper) (t : TypeId) (x : Option Operand) : opsD P E ops (⟨dst, .makeMap t x, ty, pos, after, none⟩ :: r) φ κ = stepE P E ⟨dst, .makeMap t x, ty, pos, after, none⟩ φ fun φ' => opsD P E ops r φ' κ := rfl
theorem sD_makeMap (dst : Option Tmp) (ty : TypeId) (pos : String) (after : Array Edge) (g : Option (Nat × Bool)) (t : TypeId) (x : Option Operand) : stepD P E ⟨dst, .makeMap t x, ty, pos, after, g⟩ φ κ = stepE P E ⟨dst, .makeMap t x, ty, pos, after, g⟩ φ κ := rfl
theorem oD_mapUpdate (ops : Array Oper) (dst : Option Tmp) (ty : TypeId) (pos : String) (after : Array Edge) (r : List Oper) (t : TypeId) (a b c : Operand) : opsD P E ops (⟨dst, .mapUpdate t a b c, ty, pos, after, none⟩ :: r) φ κ = stepE P E ⟨dst, .mapUpdate t a b c, ty, pos, after, none⟩ φ fun φ' => opsD P E ops r φ' κ := rfl
theorem sD_mapUpdate (dst : Option Tmp) (ty : TypeId) (pos : String) (after : Array Edge) (g : Option (Nat × Bool)) (t : TypeId) (a b c : Operand) : stepD P E ⟨dst, .mapUpdate t a b c, ty, pos, after, g⟩ φ κ = stepE P E ⟨dst, .mapUpdate t a b c, ty, pos, after, g⟩ φ κ := rfl
theorem oD_makeSlice (ops : Array Oper) (dst : Option Tmp) (ty : TypeId) (pos : String) (after : Array Edge) (r : List Oper) (t : TypeId) (x y : Operand) : opsD P E ops (⟨dst, .makeSlice t x y, ty, pos, after, none⟩ :: r) φ κ = stepE P E ⟨dst, .makeSlice t x y, ty, pos, after, none⟩ φ fun φ' => opsD P E ops r φ' κ := rfl
theorem sD_makeSlice (dst : Option Tmp) (ty : TypeId) (pos : String) (after : Array Edge) (g : Option (Nat × Bool)) (t : TypeId) (x y : Operand) : stepD P E ⟨dst, .makeSlice t x y, ty, pos, after, g⟩ φ κ = stepE P E ⟨dst, .makeSlice t x y, ty, pos, after, g⟩ φ κ := rfl
theorem oD_range (ops : Array Oper) (dst : Option Tmp) (ty : TypeId) (pos : String) (after : Array Edge) (r : List Oper) (t : TypeId) (x : Operand) : opsD P E ops (⟨dst, .range t x, ty, pos, after, none⟩ :: r) φ κ = stepE P E ⟨dst, .range t x, ty, pos, after, none⟩ φ fun φ' => opsD P E ops r φ' κ := rfl
theorem sD_range (dst : Option Tmp) (ty : TypeId) (pos : String) (after : Array Edge) (g : Option (Nat × Bool)) (t : TypeId) (x : Operand) : stepD P E ⟨dst, .range t x, ty, pos, after, g⟩ φ κ = stepE P E ⟨dst, .range t x, ty, pos, after, g⟩ φ κ := rfl
theorem oD_next (ops : Array Oper) (dst : Option Tmp) (ty : TypeId) (pos : String) (after : Array Edge) (r : List Oper) (x : Operand) (b : Bool) : opsD P E ops (⟨dst, .next x b, ty, pos, after, none⟩ :: r) φ κ = stepE P E ⟨dst, .next x b, ty, pos, after, none⟩ φ fun φ' => opsD P E ops r φ' κ := rfl
theorem sD_next (dst : Option Tmp) (ty : TypeId) (pos : String) (after : Array Edge) (g : Option (Nat × Bool)) (x : Operand) (b : Bool) : stepD P E ⟨dst, .next x b, ty, pos, after, g⟩ φ κ = stepE P E ⟨dst, .next x b, ty, pos, after, g⟩ φ κ := rfl
theorem pickN_bool (t : Bool) (a b : Option D) : pickN (.bool t) a b K = split t (withO a K) (withO b K) := rfl
theorem sN_pick (c a b : Operand) : stepN P G S ρ (.pick c a b) K = withO (ρ c) fun dc => pickN dc (ρ a) (ρ b) K := rfl
theorem sD_pick (dst : Option Tmp) (ty : TypeId) (pos : String) (after : Array Edge) (g : Option (Nat × Bool)) (c a b : Operand) : stepD P E ⟨dst, .pick c a b, ty, pos, after, g⟩ φ κ = withO (ev E.G φ.fr c) fun dc => pickN dc (ev E.G φ.fr a) (ev E.G φ.fr b) (fun d => okDst φ.N dst ∧ κ { φ with fr := putF dst d φ.fr }) := rfl
theorem sN_len (x : Operand) (t : TypeId) : stepN P G S ρ (.call { callee := .builtin .len, args := #[x], argTypes := #[t] }) K = withO (ρ x) fun d => lenN P S t d K := rfl
theorem sD_len (dst : Option Tmp) (ty : TypeId) (pos : String) (after : Array Edge) (g : Option (Nat × Bool)) (x : Operand) (t : TypeId) : stepD P E ⟨dst, .call { callee := .builtin .len, args := #[x], argTypes := #[t] }, ty, pos, after, g⟩ φ κ = withO (ev E.G φ.fr x) fun d => lenN P φ.st t d (fun d => okDst φ.N dst ∧ κ { φ with fr := putF dst d φ.fr }) := rfl
theorem sN_call (f : Operand) (xs : Array Operand) (ts : Array TypeId) : stepN P G S ρ (.call { callee := .value f, args := xs, argTypes := ts }) K = withO (ρ f) fun df => withAll ρ xs.toList fun ds => callN P G S df ds K := rfl
theorem sliceN_str (t : TypeId) (l : List UInt8) (lo hi : Option D) : sliceN P t (.str l) lo hi K = (P.underlying t = some .string ∧ boundD hi l.length fun h => boundD lo 0 fun b => 0 ≤ b ∧ b ≤ h ∧ h ≤ l.length ∧ K (.str ((l.take h.toNat).drop b.toNat))) := rfl
theorem boundD_none (n : Nat) (Kn : Int → Prop) : boundD none n Kn = Kn n := rfl
theorem boundD_some (k : IntKind) (m : Int) (n : Nat) (Kn : Int → Prop) : boundD (some (.int k m)) n Kn = Kn m := rfl
theorem iB_add (k : IntKind) (a b : Int) : intBin .add k a b K = K (.int k (k.wrap (a + b))) := rfl
theorem iB_sub (k : IntKind) (a b : Int) : intBin .sub k a b K = K (.int k (k.wrap (a - b))) := rfl
theorem iB_mul (k : IntKind) (a b : Int) : intBin .mul k a b K = K (.int k (k.wrap (a * b))) := rfl
theorem iB_quo (k : IntKind) (a b : Int) : intBin .quo k a b K = (b ≠ 0 ∧ K (.int k (k.wrap (a.tdiv b)))) := rfl
theorem iB_rem (k : IntKind) (a b : Int) : intBin .rem k a b K = (b ≠ 0 ∧ K (.int k (a.tmod b))) := rfl
theorem iB_eql (k : IntKind) (a b : Int) : intBin .eql k a b K = K (.bool (decide (a = b))) := rfl
theorem iB_neq (k : IntKind) (a b : Int) : intBin .neq k a b K = K (.bool (decide (a ≠ b))) := rfl
theorem iB_lss (k : IntKind) (a b : Int) : intBin .lss k a b K = K (.bool (decide (a < b))) := rfl
theorem iB_leq (k : IntKind) (a b : Int) : intBin .leq k a b K = K (.bool (decide (a ≤ b))) := rfl
theorem iB_gtr (k : IntKind) (a b : Int) : intBin .gtr k a b K = K (.bool (decide (a > b))) := rfl
theorem iB_geq (k : IntKind) (a b : Int) : intBin .geq k a b K = K (.bool (decide (a ≥ b))) := rfl
theorem sB_add (a b : List UInt8) : strBin .add a b K = ((a.length + b.length : Int) ≤ IntKind.i64.max ∧ K (.str (a ++ b))) := rfl
theorem sB_eql (a b : List UInt8) : strBin .eql a b K = K (.bool (decide (a = b))) := rfl
theorem sB_neq (a b : List UInt8) : strBin .neq a b K = K (.bool (decide (a ≠ b))) := rfl
theorem sD_alloc (k : Nat) (t : TypeId) (ty : TypeId) (pos : String) (after : Array Edge) (g : Option (Nat × Bool)) : stepD P E ⟨some k, .alloc t, ty, pos, after, g⟩ φ κ = withO (zeroOf P t) fun zs => k ∉ E.ro ∧ k < φ.N ∧ ∀ b, κ { φ with fr := putF (some k) (.ref k b 0) φ.fr, st := Go.Dw.upd k (.cells b zs) φ.st } := rfl
def storeD (E : Env) (φ : St) (n : Nat) (da dx : D) (K : St → Prop) : Prop := dx.known = true ∧ dx.cells.all D.one = true ∧ dx.cells.length = n ∧
  match da with
  | .ref g b off => g ∉ E.ro ∧ match look g φ.st with
    | some (.cells b' cs) => b' = b ∧ off + n ≤ cs.length ∧ K { φ with st := Go.Dw.upd g (.cells b (cs.take off ++ dx.cells ++ cs.drop (off + n))) φ.st }
    | some (.row (some ad) m cap e size es) => ad.block = b ∧ n = size ∧ 0 < size ∧ off / size < es.length ∧ off / size * size = off ∧ K { φ with st := Go.Dw.upd g (.row (some ad) m cap e size (es.set (off / size) dx.cells)) φ.st }
    | _ => False
  | _ => False
theorem sD_store {t : TypeId} {l : Bool × Nat × Nat} (hl : layOf P t = some l) (ty : TypeId) (pos : String) (after : Array Edge) (g : Option (Nat × Bool)) (a x : Operand) :
    stepD P E ⟨none, .store t a x, ty, pos, after, g⟩ φ κ = withO (ev E.G φ.fr a) fun da => withO (ev E.G φ.fr x) fun dx => storeD E φ l.2.1 da dx κ := by
  show (withO (ev E.G φ.fr a) fun da => withO (ev E.G φ.fr x) fun dx => withO (layOf P t) fun l => _) = _
  rw [hl]
  simp only [storeD, List.all_eq_true]
  rfl
theorem storeD_ref (n g b off : Nat) (dx : D) : storeD E φ n (.ref g b off) dx κ = (dx.known = true ∧ dx.cells.all D.one = true ∧ dx.cells.length = n ∧ g ∉ E.ro ∧ match look g φ.st with
    | some (.cells b' cs) => b' = b ∧ off + n ≤ cs.length ∧ κ { φ with st := Go.Dw.upd g (.cells b (cs.take off ++ dx.cells ++ cs.drop (off + n))) φ.st }
    | some (.row (some ad) m cap e size es) => ad.block = b ∧ n = size ∧ 0 < size ∧ off / size < es.length ∧ off / size * size = off ∧ κ { φ with st := Go.Dw.upd g (.row (some ad) m cap e size (es.set (off / size) dx.cells)) φ.st }
    | _ => False) := rfl
theorem opsD_guardT {ops : Array Oper} {dst : Option Tmp} {op : Op} {ty : TypeId} {pos : String} {after : Array Edge} {j : Nat} {r : List Oper} {φ : St} {K : St → Prop} {t : Tmp} {b : Bool} (ht : (ops[j]?).bind (·.dst) = some t) (hd : look t φ.fr = some (.bool b))
    (h1 : b = true → stepD P E ⟨dst, op, ty, pos, after, some (j, true)⟩ φ fun φ' => opsD P E ops r φ' K) (h2 : b = false → okDst φ.N dst ∧ opsD P E ops r { φ with fr := putF dst (.tup []) φ.fr } K) :
    opsD P E ops (⟨dst, op, ty, pos, after, some (j, true)⟩ :: r) φ K := by
  rw [opsD_guard, ht, withO_some, hd, withO_some]
  cases b
  · exact ⟨(fun h => by cases h), fun _ => h2 rfl⟩
  · exact ⟨fun _ => h1 rfl, (fun h => by cases h)⟩
theorem opsD_guardF {ops : Array Oper} {dst : Option Tmp} {op : Op} {ty : TypeId} {pos : String} {after : Array Edge} {j : Nat} {r : List Oper} {φ : St} {K : St → Prop} {t : Tmp} {b : Bool} (ht : (ops[j]?).bind (·.dst) = some t) (hd : look t φ.fr = some (.bool b))
    (h1 : b = false → stepD P E ⟨dst, op, ty, pos, after, some (j, false)⟩ φ fun φ' => opsD P E ops r φ' K) (h2 : b = true → okDst φ.N dst ∧ opsD P E ops r { φ with fr := putF dst (.tup []) φ.fr } K) :
    opsD P E ops (⟨dst, op, ty, pos, after, some (j, false)⟩ :: r) φ K := by
  rw [opsD_guard, ht, withO_some, hd, withO_some]
  cases b
  · exact ⟨(fun h => by cases h), fun _ => h1 rfl⟩
  · exact ⟨fun _ => h2 rfl, (fun h => by cases h)⟩
theorem opsD_guardS {ops : Array Oper} {dst : Option Tmp} {op : Op} {ty : TypeId} {pos : String} {after : Array Edge} {j : Nat} {r : List Oper} {φ : St} {K : St → Prop} {t : Tmp} {want : Bool} (ht : (ops[j]?).bind (·.dst) = some t) (hd : look t φ.fr = some (.tup []))
    (h2 : okDst φ.N dst ∧ opsD P E ops r { φ with fr := putF dst (.tup []) φ.fr } K) :
    opsD P E ops (⟨dst, op, ty, pos, after, some (j, want)⟩ :: r) φ K := by
  rw [opsD_guard, ht, withO_some, hd, withO_some]
  exact h2
theorem opsN_guardT {ops : Array Oper} {dst : Option Tmp} {op : Op} {ty : TypeId} {pos : String} {after : Array Edge} {j : Nat} {r : List Oper} {φ : St} {K : St → Prop} {t : Tmp} {b : Bool} (ht : (ops[j]?).bind (·.dst) = some t) (hd : look t φ.fr = some (.bool b))
    (h1 : b = true → stepN P E.G φ.st (ev E.G φ.fr) op fun d => okDst φ.N dst ∧ opsN P E ops r { φ with fr := putF dst d φ.fr } K) (h2 : b = false → okDst φ.N dst ∧ opsN P E ops r { φ with fr := putF dst (.tup []) φ.fr } K) :
    opsN P E ops (⟨dst, op, ty, pos, after, some (j, true)⟩ :: r) φ K := by
  rw [opsN_guard, ht, withO_some, hd, withO_some]
  cases b
  · exact ⟨(fun h => by cases h), fun _ => h2 rfl⟩
  · exact ⟨fun _ => h1 rfl, (fun h => by cases h)⟩
theorem opsN_guardF {ops : Array Oper} {dst : Option Tmp} {op : Op} {ty : TypeId} {pos : String} {after : Array Edge} {j : Nat} {r : List Oper} {φ : St} {K : St → Prop} {t : Tmp} {b : Bool} (ht : (ops[j]?).bind (·.dst) = some t) (hd : look t φ.fr = some (.bool b))
    (h1 : b = false → stepN P E.G φ.st (ev E.G φ.fr) op fun d => okDst φ.N dst ∧ opsN P E ops r { φ with fr := putF dst d φ.fr } K) (h2 : b = true → okDst φ.N dst ∧ opsN P E ops r { φ with fr := putF dst (.tup []) φ.fr } K) :
    opsN P E ops (⟨dst, op, ty, pos, after, some (j, false)⟩ :: r) φ K := by
  rw [opsN_guard, ht, withO_some, hd, withO_some]
  cases b
  · exact ⟨(fun h => by cases h), fun _ => h1 rfl⟩
  · exact ⟨fun _ => h2 rfl, (fun h => by cases h)⟩
theorem opsN_guardS {ops : Array Oper} {dst : Option Tmp} {op : Op} {ty : TypeId} {pos : String} {after : Array Edge} {j : Nat} {r : List Oper} {φ : St} {K : St → Prop} {t : Tmp} {want : Bool} (ht : (ops[j]?).bind (·.dst) = some t) (hd : look t φ.fr = some (.tup []))
    (h2 : okDst φ.N dst ∧ opsN P E ops r { φ with fr := putF dst (.tup []) φ.fr } K) :
    opsN P E ops (⟨dst, op, ty, pos, after, some (j, want)⟩ :: r) φ K := by
  rw [opsN_guard, ht, withO_some, hd, withO_some]
  exact h2
theorem opsD_mark {ops : Array Oper} {o : Oper} {r : List Oper} {φ : St} {K : St → Prop} (h : opsD P E ops (o :: r) φ K) : opsD P E ops (o :: r) φ K := h
theorem opsN_mark {ops : Array Oper} {o : Oper} {r : List Oper} {φ : St} {K : St → Prop} (h : opsN P E ops (o :: r) φ K) : opsN P E ops (o :: r) φ K := h
theorem pickN_true (a b : Option D) : pickN (.bool true) a b K = withO a K := by
  show split true (withO a K) (withO b K) = _
  exact propext ⟨fun h => h.1 rfl, fun h => ⟨fun _ => h, fun h => by cases h⟩⟩
theorem pickN_false (a b : Option D) : pickN (.bool false) a b K = withO b K := by
  show split false (withO a K) (withO b K) = _
  exact propext ⟨fun h => h.2 rfl, fun h => ⟨(fun h => by cases h), fun _ => h⟩⟩
theorem pickN_intro {t : Bool} {a b : Option D} (h1 : t = true → withO a K) (h2 : t = false → withO b K) : pickN (.bool t) a b K := ⟨h1, h2⟩
theorem stepD_call (dst : Option Tmp) (f : Operand) (xs : Array Operand) (ts : Array TypeId) (ty : TypeId) (pos : String) (after : Array Edge) (g : Option (Nat × Bool)) (φ : St) (K : St → Prop) :
    stepD P E ⟨dst, .call { callee := .value f, args := xs, argTypes := ts }, ty, pos, after, g⟩ φ K = withO (ev E.G φ.fr f) fun df => withAll (ev E.G φ.fr) xs.toList fun ds =>
      (callN P E.G φ.st df ds fun d => okDst φ.N dst ∧ K { φ with fr := putF dst d φ.fr }) ∨ callE P E φ df ds dst K := rfl
theorem stepD_callN {dst : Option Tmp} {f : FuncId} {xs : Array Operand} {ts : Array TypeId} {ty : TypeId} {pos : String} {after : Array Edge} {g : Option (Nat × Bool)} {φ : St} {K : St → Prop}
    (h : okDst φ.N dst ∧ withAll (ev E.G φ.fr) xs.toList fun ds => callN P E.G φ.st (.fn f [] []) ds fun d => K { φ with fr := putF dst d φ.fr }) :
    stepD P E ⟨dst, .call { callee := .value (.func f), args := xs, argTypes := ts }, ty, pos, after, g⟩ φ K := by
  rw [stepD_call, ev_func, withO_some]
  exact withAll_mono (fun ds hd => Or.inl (callN_mono (fun d hd => ⟨h.1, hd⟩) hd)) h.2
theorem stepD_callE {dst : Option Tmp} {f : FuncId} {xs : Array Operand} {ts : Array TypeId} {ty : TypeId} {pos : String} {after : Array Edge} {g : Option (Nat × Bool)} {φ : St} {K : St → Prop}
    (h : withAll (ev E.G φ.fr) xs.toList fun ds => callE P E φ (.fn f [] []) ds dst K) :
    stepD P E ⟨dst, .call { callee := .value (.func f), args := xs, argTypes := ts }, ty, pos, after, g⟩ φ K := by
  rw [stepD_call, ev_func, withO_some]
  exact withAll_mono (fun ds hd => Or.inr hd) h
theorem opsD_callN {ops : Array Oper} {dst : Option Tmp} {f : FuncId} {xs : Array Operand} {ts : Array TypeId} {ty : TypeId} {pos : String} {after : Array Edge} {r : List Oper} {φ : St} {K : St → Prop}
    (h : okDst φ.N dst ∧ withAll (ev E.G φ.fr) xs.toList fun ds => callN P E.G φ.st (.fn f [] []) ds fun d => opsD P E ops r { φ with fr := putF dst d φ.fr } K) :
    opsD P E ops (⟨dst, .call { callee := .value (.func f), args := xs, argTypes := ts }, ty, pos, after, none⟩ :: r) φ K := stepD_callN (K := fun φ' => opsD P E ops r φ' K) h
theorem stepD_callV {dst : Option Tmp} {t : Tmp} {xs : Array Operand} {ts : Array TypeId} {ty : TypeId} {pos : String} {after : Array Edge} {g : Option (Nat × Bool)} {φ : St} {K : St → Prop}
    (h : okDst φ.N dst ∧ withO (look t φ.fr) fun df => withAll (ev E.G φ.fr) xs.toList fun ds => callN P E.G φ.st df ds fun d => K { φ with fr := putF dst d φ.fr }) :
    stepD P E ⟨dst, .call { callee := .value (.tmp t), args := xs, argTypes := ts }, ty, pos, after, g⟩ φ K := by
  rw [stepD_call]
  obtain ⟨df, hd, h2⟩ := withO_elim h.2
  rw [ev_tmp, hd, withO_some]
  exact withAll_mono (fun ds hd => Or.inl (callN_mono (fun d hd => ⟨h.1, hd⟩) hd)) h2
theorem opsD_callV {ops : Array Oper} {dst : Option Tmp} {t : Tmp} {xs : Array Operand} {ts : Array TypeId} {ty : TypeId} {pos : String} {after : Array Edge} {r : List Oper} {φ : St} {K : St → Prop}
    (h : okDst φ.N dst ∧ withO (look t φ.fr) fun df => withAll (ev E.G φ.fr) xs.toList fun ds => callN P E.G φ.st df ds fun d => opsD P E ops r { φ with fr := putF dst d φ.fr } K) :
    opsD P E ops (⟨dst, .call { callee := .value (.tmp t), args := xs, argTypes := ts }, ty, pos, after, none⟩ :: r) φ K := stepD_callV (K := fun φ' => opsD P E ops r φ' K) h
theorem opsD_callE {ops : Array Oper} {dst : Option Tmp} {f : FuncId} {xs : Array Operand} {ts : Array TypeId} {ty : TypeId} {pos : String} {after : Array Edge} {r : List Oper} {φ : St} {K : St → Prop}
    (h : withAll (ev E.G φ.fr) xs.toList fun ds => callE P E φ (.fn f [] []) ds dst fun φ' => opsD P E ops r φ' K) :
    opsD P E ops (⟨dst, .call { callee := .value (.func f), args := xs, argTypes := ts }, ty, pos, after, none⟩ :: r) φ K := stepD_callE (K := fun φ' => opsD P E ops r φ' K) h
theorem stepD_callVE {dst : Option Tmp} {t : Tmp} {xs : Array Operand} {ts : Array TypeId} {ty : TypeId} {pos : String} {after : Array Edge} {g : Option (Nat × Bool)} {φ : St} {K : St → Prop}
    (h : withO (look t φ.fr) fun df => withAll (ev E.G φ.fr) xs.toList fun ds => callE P E φ df ds dst K) :
    stepD P E ⟨dst, .call { callee := .value (.tmp t), args := xs, argTypes := ts }, ty, pos, after, g⟩ φ K := by
  rw [stepD_call]
  obtain ⟨df, hd, h2⟩ := withO_elim h
  rw [ev_tmp, hd, withO_some]
  exact withAll_mono (fun ds hd => Or.inr hd) h2
theorem opsD_callVE {ops : Array Oper} {dst : Option Tmp} {t : Tmp} {xs : Array Operand} {ts : Array TypeId} {ty : TypeId} {pos : String} {after : Array Edge} {r : List Oper} {φ : St} {K : St → Prop}
    (h : withO (look t φ.fr) fun df => withAll (ev E.G φ.fr) xs.toList fun ds => callE P E φ df ds dst fun φ' => opsD P E ops r φ' K) :
    opsD P E ops (⟨dst, .call { callee := .value (.tmp t), args := xs, argTypes := ts }, ty, pos, after, none⟩ :: r) φ K := stepD_callVE (K := fun φ' => opsD P E ops r φ' K) h
/-- A call that may turn the objects of ks, under their own keys. -/
theorem callE_same {f : FuncId} {first caps ds : List D} {dst : Option Tmp} (ks : List Nat) (S0 : List (Nat × O)) (post : D → List (Nat × O) → Prop) (hent : enters P f = true) (hdst : okDst φ.N dst) (hn : ks.Nodup) (hro : ∀ k ∈ ks, k ∉ E.ro)
    (hS : ren (ks.map fun k => (k, k)) φ.st = S0) (hc : CallTo P E.G f (first ++ ds ++ caps) S0 post)
    (hK : ∀ d S', post d S' → ∃ ks' : List Nat, ks'.Nodup ∧ (∀ k ∈ ks', k ∉ E.ro) ∧ κ { φ with fr := putF dst d φ.fr, st := ren (ks'.map fun k => (k, k)) S' ++ dropAll ks φ.st }) :
    callE P E φ (.fn f first caps) ds dst κ := by
  have e1 : ∀ l : List Nat, (l.map fun k => (k, k)).map (·.1) = l := fun l => by rw [List.map_map]; exact List.map_id l
  have e2 : ∀ l : List Nat, (l.map fun k => (k, k)).map (·.2) = l := fun l => by rw [List.map_map]; exact List.map_id l
  have e3 : swapK (ks.map fun k => (k, k)) = ks.map fun k => (k, k) := by unfold swapK; rw [List.map_map]; rfl
  refine callE_of (ks.map fun k => (k, k)) post hent hdst (LeL.refl _) (by rw [e1]; exact hn) (by rw [e2]; exact hn) (fun p hp => ?_) (by rw [e3, hS]; exact hc) (fun d S' hp => ?_)
  · obtain ⟨k, hk, rfl⟩ := List.mem_map.1 hp
    exact hro k hk
  · obtain ⟨ks', h1, h2, h3⟩ := hK d S' hp
    refine ⟨ks'.map fun k => (k, k), by rw [e1]; exact h1, fun p hp => ?_, by rw [e2]; exact h3⟩
    obtain ⟨k, hk, rfl⟩ := List.mem_map.1 hp
    exact h2 k hk
end
end Go.Dw

namespace Go.Dw
open Go Go.RowKit

section
variable {P : Program} {E : Env} {φ : St}

/-- The objects of some keys. -/
def keep : List Nat → List (Nat × O) → List (Nat × O)
  | [], _ => []
  | k :: r, S => match look k S with
    | some o => (k, o) :: keep r S
    | none => keep r S
theorem keep_nil (S : List (Nat × O)) : keep [] S = [] := rfl
theorem keep_cons (k : Nat) (r : List Nat) (S : List (Nat × O)) : keep (k :: r) S = match look k S with | some o => (k, o) :: keep r S | none => keep r S := rfl
theorem look_keep {g : Nat} {o : O} : ∀ {ks : List Nat} {S : List (Nat × O)}, look g (keep ks S) = some o → look g S = some o
  | [], S, h => by simp [keep, look] at h
  | k :: r, S, h => by
    simp only [keep] at h
    cases hk : look k S with
    | none => rw [hk] at h; exact look_keep h
    | some x =>
      rw [hk] at h
      simp only [look] at h
      split at h
      · rename_i hg; cases h; rw [← hg]; exact hk
      · exact look_keep h
theorem Weak.keep (ks : List Nat) : Weak E φ { φ with st := Go.Dw.keep ks φ.st } :=
  fun _ _ h => h.sub (fun _ _ hg => look_keep hg) (fun t d hd => ⟨d, hd, .refl d⟩)
theorem ret_keep {rs : List ResultVar} {K : D → St → Prop} (ks : List Nat) (h : retD P rs { φ with st := keep ks φ.st } fun d => K d { φ with st := keep ks φ.st }) : bodyS P E rs K .ret φ :=
  ⟨_, Weak.keep ks, h⟩
theorem end_keep {rs : List ResultVar} {K : D → St → Prop} (ks : List Nat) (h : retD P rs { φ with st := keep ks φ.st } fun d => K d { φ with st := keep ks φ.st }) : bodyS P E rs K .normal φ :=
  ⟨_, Weak.keep ks, h⟩
/-- The end of a body that turns objects. -/
def PostEnd (post : D → List (Nat × O) → Prop) : D → St → Prop := fun d φ => post d φ.st
theorem CallTo.of_walk {G : List (Nat × D)} {f : FuncId} {fn : Func} {c : Code} (hf : P.funcs[f]? = some fn) (hb : fn.body = some c) {ds : List D} {S : List (Nat × O)} (hn : ds.length ≤ fn.ntmps) {post : D → List (Nat × O) → Prop}
    (h : ∀ X B0 w0, Wp P ⟨G, X, B0, w0, []⟩ c (bodyS P ⟨G, X, B0, w0, []⟩ fn.results.toList (PostEnd post)) ⟨fn.ntmps, numF 0 ds, S⟩) : CallTo P G f ds S post :=
  CallTo.of_wp hf hb hn fun E hG hro => by
    obtain ⟨G', X, B0, w0, ro⟩ := E
    simp only at hG hro
    subst hG hro
    exact h X B0 w0
theorem ret_post {rs : List ResultVar} {post : D → List (Nat × O) → Prop} (ks : List Nat) (h : retD P rs { φ with st := keep ks φ.st } fun d => post d (keep ks φ.st)) : bodyS P E rs (PostEnd post) .ret φ := ret_keep ks h
theorem end_post {rs : List ResultVar} {post : D → List (Nat × O) → Prop} (ks : List Nat) (h : retD P rs { φ with st := keep ks φ.st } fun d => post d (keep ks φ.st)) : bodyS P E rs (PostEnd post) .normal φ := end_keep ks h
theorem ren_nil {α : Type} (S : List (Nat × α)) : ren [] S = [] := rfl
theorem ren_cons {α : Type} (k k' : Nat) (r : List (Nat × Nat)) (S : List (Nat × α)) : ren ((k, k') :: r) S = match look k S with | some o => (k', o) :: ren r S | none => ren r S := rfl
theorem dropAll_nil {α : Type} (S : List (Nat × α)) : dropAll [] S = S := rfl
theorem dropAll_cons {α : Type} (k : Nat) (r : List Nat) (S : List (Nat × α)) : dropAll (k :: r) S = dropAll r (dropK k S) := rfl
theorem swapK_nil : swapK [] = [] := rfl
theorem swapK_cons (k k' : Nat) (r : List (Nat × Nat)) : swapK ((k, k') :: r) = (k', k) :: swapK r := rfl
/-- More globals. -/
theorem CallR.glob {G : List (Nat × D)} {f : FuncId} {ds : List D} {S : List (Nat × O)} {d : D} (h : CallR P [] f ds S d) : CallR P G f ds S d :=
  fun X vs w h1 _ h3 => h X vs w h1 (fun g d hg => by simp [look] at hg) h3
theorem CallTo.glob {G : List (Nat × D)} {f : FuncId} {ds : List D} {S : List (Nat × O)} {post : D → List (Nat × O) → Prop} (h : CallTo P [] f ds S post) : CallTo P G f ds S post :=
  fun X vs w h1 _ h3 => h X vs w h1 (fun g d hg => by simp [look] at hg) h3
/-- A call that leaves all as it is, as a contract on objects. -/
theorem CallTo.of_R {G : List (Nat × D)} {f : FuncId} {ds : List D} {S : List (Nat × O)} {d : D} (h : CallR P G f ds S d) : CallTo P G f ds S fun d' S' => d' = d ∧ S' = S :=
  fun X vs w h1 h2 h3 => (h X vs w h1 h2 h3).mono fun e w' ⟨v, he, hx, hr⟩ => ⟨v, d, S, he, ⟨rfl, rfl⟩, hx.non, fun b hb => .inl hb, h1.ext hx, hr⟩
theorem convN_int {s t : TypeId} {x : TypeDesc} {k : IntKind} {K : D → Prop} (hs : P.underlying s = some x) (hd : P.underlying t = some (.int k)) (k' : IntKind) (n : Int) : convN P s t (.int k' n) K = K (.int k (k.wrap n)) := by simp [convN, hs, hd]
theorem convN_chr {s t : TypeId} {x : TypeDesc} {K : D → Prop} (hs : P.underlying s = some x) (hd : P.underlying t = some .string) (k' : IntKind) (n : Int) : convN P s t (.int k' n) K = K (.str (Utf8.encode n).data.toList) := by simp [convN, hs, hd]
theorem convN_str {s t : TypeId} {x : TypeDesc} {K : D → Prop} (hs : P.underlying s = some x) (hd : P.underlying t = some .string) (l : List UInt8) : convN P s t (.str l) K = K (.str l) := by simp [convN, hs, hd]
theorem indexN_str {t : TypeId} {K : D → Prop} (h : P.underlying t = some .string) (l : List UInt8) (ik : IntKind) (i : Int) : indexN P t (.str l) (.int ik i) K = (0 ≤ i ∧ i < l.length ∧ K (.int .u8 (l.getD i.toNat 0).toNat)) := by simp [indexN, h]
theorem withO_of {α : Type} {o : Option α} {d : α} {K : α → Prop} (h : o = some d) (hK : K d) : withO o K := by rw [h]; exact hK
theorem entryM_last {es : List (D × D)} {seen : List Nat} {i : Nat} {p : D × D} {K : D → Prop} (h : es[i]? = some p) (hK : K (.tup [p.1, p.2])) : entryM es (seen ++ [i]) K := by
  unfold entryM
  rw [show (seen ++ [i]).getLast? = some i by simp, withO_some, h]
  exact hK
theorem seen_le : ∀ (n : Nat) (seen : List Nat), seen.Nodup → (∀ i ∈ seen, i < n) → seen.length ≤ n
  | 0, [], _, _ => Nat.le_refl _
  | 0, a :: _, _, h => by have := h a List.mem_cons_self; omega
  | n + 1, seen, hn, h => by
    have h1 := seen_le n (seen.erase n) (hn.erase n) (fun i hi => by
      have h2 := h i (List.mem_of_mem_erase hi)
      have h3 : i ≠ n := fun e => by subst e; exact absurd hi (by rw [List.Nodup.mem_erase_iff hn]; simp)
      omega)
    have h4 : seen.length - 1 ≤ (seen.erase n).length := by rw [List.length_erase]; split <;> omega
    omega
/-- An element of a row of one's own. -/
theorem indexAddr_own {S : List (Nat × O)} {t e : TypeId} {n : Nat} {K : D → Prop} (h : elOf P t = some (e, n)) (g : Nat) (A : Option Addr) (m cap : Nat) (ik : IntKind) (i : Int) : indexAddrN P S t (.own g A m cap) (.int ik i) K =
    (0 ≤ i ∧ i < m ∧ withO (look g S) fun o => match o with | O.row A' m' cap' _ k _ => A' = A ∧ m' = m ∧ cap' = cap ∧ k = n ∧ K (.ref g (A.getD default).block (i.toNat * k)) | _ => False) := by
  simp only [indexAddrN, h, withO_some]
  congr 2
  cases look g S with
  | none => rfl
  | some o => cases o <;> rfl
theorem indexAddr_ref {S : List (Nat × O)} {t e : TypeId} {m n : Nat} {K : D → Prop} (h : arOf P t = some (m, e, n)) (g b off : Nat) (ik : IntKind) (i : Int) : indexAddrN P S t (.ref g b off) (.int ik i) K = (0 ≤ i ∧ i < m ∧ K (.ref g b (off + i.toNat * n))) := by
  simp only [indexAddrN, h, withO_some]
theorem indexAddr_rp {S : List (Nat × O)} {t e : TypeId} {m n : Nat} {K : D → Prop} (h : arOf P t = some (m, e, n)) (cs : List D) (ik : IntKind) (i : Int) : indexAddrN P S t (.rp cs) (.int ik i) K = (0 ≤ i ∧ i < m ∧ K (.rp (cs.drop (i.toNat * n)))) := by
  simp only [indexAddrN, h, withO_some]
def allOne (l : List (List D)) : Bool := l.all fun c => c.all D.one
theorem allOne_iff {l : List (List D)} : allOne l = true ↔ ∀ c ∈ l, ∀ d ∈ c, d.one = true := by simp [allOne, List.all_eq_true]
theorem allOne_nil : allOne [] = true := rfl
theorem allOne_cons (c : List D) (l : List (List D)) : allOne (c :: l) = (c.all D.one && allOne l) := rfl
theorem srcD_sl (S : List (Nat × O)) (g : Nat) (f : Bool) (k size : Nat) (es : List (List D)) (K : List (List D) → Prop) : srcD S g (.sl f k es) size K = (k = size ∧ K es) := rfl
theorem srcD_nil (S : List (Nat × O)) (g size : Nat) (K : List (List D) → Prop) : srcD S g .nil size K = K [] := rfl
theorem srcD_own (S : List (Nat × O)) (g g' : Nat) (A : Option Addr) (n cap size : Nat) (K : List (List D) → Prop) : srcD S g (.own g' A n cap) size K = (g' ≠ g ∧ withO (look g' S) fun o => match o with
    | O.row A' n' cap' _ k es => A' = A ∧ n' = n ∧ cap' = cap ∧ k = size ∧ K es | _ => False) := by
  simp only [srcD]
  cases look g' S with
  | none => rfl
  | some o => cases o <;> rfl
/-- What an append makes of a row of one's own, or of nil. -/
def appD (E : Env) (φ : St) (k e size bytes : Nat) (ds dx : D) (κ : St → Prop) : Prop := match ds with
  | .own g A n cap => g ∉ E.ro ∧ withO (look g φ.st) fun o => match o with
    | O.row A' n' cap' e' size' es => A' = A ∧ n' = n ∧ cap' = cap ∧ e' = e ∧ size' = size ∧ srcD φ.st g dx size fun es' => allOne es' = true ∧ Room (es.length + es'.length) bytes ∧
        ∀ A1 cap1, κ { φ with fr := putF (some k) (.own g A1 (es.length + es'.length) cap1) φ.fr, st := upd g (.row A1 (es.length + es'.length) cap1 e size (es ++ es')) φ.st }
    | _ => False
  | .nil => k ∉ E.ro ∧ look k φ.st = none ∧ srcD φ.st k dx size fun es' => allOne es' = true ∧ Room es'.length bytes ∧
        ∀ A1 cap1, κ { φ with fr := putF (some k) (.own k A1 es'.length cap1) φ.fr, st := upd k (.row A1 es'.length cap1 e size es') φ.st }
  | _ => False
theorem appD_own (k e size bytes : Nat) (g : Nat) (A : Option Addr) (n cap : Nat) (dx : D) (κ : St → Prop) : appD E φ k e size bytes (.own g A n cap) dx κ = (g ∉ E.ro ∧ withO (look g φ.st) fun o => match o with
    | O.row A' n' cap' e' size' es => A' = A ∧ n' = n ∧ cap' = cap ∧ e' = e ∧ size' = size ∧ srcD φ.st g dx size fun es' => allOne es' = true ∧ Room (es.length + es'.length) bytes ∧
        ∀ A1 cap1, κ { φ with fr := putF (some k) (.own g A1 (es.length + es'.length) cap1) φ.fr, st := upd g (.row A1 (es.length + es'.length) cap1 e size (es ++ es')) φ.st }
    | _ => False) := rfl
theorem appD_nil (k e size bytes : Nat) (dx : D) (κ : St → Prop) : appD E φ k e size bytes .nil dx κ = (k ∉ E.ro ∧ look k φ.st = none ∧ srcD φ.st k dx size fun es' => allOne es' = true ∧ Room es'.length bytes ∧
        ∀ A1 cap1, κ { φ with fr := putF (some k) (.own k A1 es'.length cap1) φ.fr, st := upd k (.row A1 es'.length cap1 e size es') φ.st }) := rfl
theorem ap_own {t e : TypeId} {size bytes : Nat} {a : Bool} {zs : List D} (he : elOf P t = some (e, size)) (hl : layOf P e = some (a, size, bytes)) (hz : zeroOf P e = some zs) (hzl : zs.length = size) (h0 : 0 < size)
    {k : Nat} {x y : Operand} {ty : TypeId} {pos : String} {after : Array Edge} {gd : Option (Nat × Bool)} {κ : St → Prop}
    (h : k < φ.N ∧ withO (ev E.G φ.fr x) fun ds => withO (ev E.G φ.fr y) fun dx => appD E φ k e size bytes ds dx κ) :
    stepD P E ⟨some k, .call { callee := .builtin .append, args := #[x, y], argTypes := #[t, t] }, ty, pos, after, gd⟩ φ κ := by
  obtain ⟨hk, h⟩ := h
  obtain ⟨ds, h1, h⟩ := withO_elim h
  obtain ⟨dx, h2, h⟩ := withO_elim h
  have hmono : ∀ {S : List (Nat × O)} {g : Nat} {K K' : List (List D) → Prop}, (∀ es, K es → K' es) → srcD S g dx size K → srcD S g dx size K' := fun {S g K K'} hkk hs => by
    unfold srcD at hs ⊢
    split at hs
    · exact ⟨hs.1, hkk _ hs.2⟩
    · exact hkk _ hs
    · refine ⟨hs.1, ?_⟩
      have hs := hs.2
      split at hs
      · exact ⟨hs.1, hs.2.1, hs.2.2.1, hs.2.2.2.1, hkk _ hs.2.2.2.2⟩
      · exact hs.elim
    · exact hs.elim
  have key : stepE P E ⟨some k, .call { callee := .builtin .append, args := #[x, y], argTypes := #[t, t] }, ty, pos, after, gd⟩ φ κ := by
    simp only [stepE, true_and]
    refine ⟨hk, ?_⟩
    rw [h1, withO_some, h2, withO_some, he, withO_some, hl, withO_some, hz, withO_some]
    refine ⟨rfl, hzl, h0, ?_⟩
    unfold appD at h
    split at h
    · obtain ⟨hro, h⟩ := h
      obtain ⟨o, ho, h⟩ := withO_elim h
      refine ⟨hro, ?_⟩
      rw [ho]
      cases o with
      | row A' n' cap' e' size' es =>
        obtain ⟨r1, r2, r3, r4, r5, h⟩ := h
        subst r4 r5
        exact ⟨r1, r2, r3, rfl, rfl, hmono (fun es' ⟨q1, q2, q3⟩ => ⟨allOne_iff.1 q1, q2, q3⟩) h⟩
      | _ => exact h.elim
    · obtain ⟨hro, hlk, h⟩ := h
      exact ⟨hro, hlk, hmono (fun es' ⟨q1, q2, q3⟩ => ⟨allOne_iff.1 q1, q2, q3⟩) h⟩
    · exact h.elim
  unfold stepD
  simp only [List.head?_cons, Option.bind_some, h1]
  unfold appD at h
  cases ds <;> first | exact h.elim | exact key
theorem opsD_append {ops : Array Oper} {k : Nat} {xs : Array Operand} {ts : Array TypeId} {ty : TypeId} {pos : String} {after : Array Edge} {r : List Oper} {κ : St → Prop}
    (h : stepD P E ⟨some k, .call { callee := .builtin .append, args := xs, argTypes := ts }, ty, pos, after, none⟩ φ fun φ' => opsD P E ops r φ' κ) :
    opsD P E ops (⟨some k, .call { callee := .builtin .append, args := xs, argTypes := ts }, ty, pos, after, none⟩ :: r) φ κ := h
/-- A row that holds something lies in a block. -/
theorem Wp.rowSome {c : Code} {Q : Exit → St → Prop} {g : Nat} {A : Option Addr} {n cap : Nat} {e : TypeId} {size : Nat} {es : List (List D)} (hl : look g φ.st = some (.row A n cap e size es)) (hne : es ≠ []) (h : ∀ b, A = some ⟨b, 0, none⟩ → Wp P E c Q φ) : Wp P E c Q φ := by
  intro a w hs
  obtain ⟨_, _, _, _, hA⟩ := (hs.st.obj _ _ hl).row_cells
  rcases hA with ⟨_, h0, _⟩ | ⟨b, h1, _⟩
  · exact absurd h0 hne
  · exact h b h1 a w hs
theorem Wp.scope {c : Code} {Q : Exit → St → Prop} (h : Wp P E c (noGotoS Q) φ) : Wp P E (.scope c) Q φ := by
  intro a w hs
  refine wp_scope_straight (wp_mono (h a w hs) ?_)
  rintro e a' w' ⟨φ', hq, hs'⟩
  cases e with
  | goto l => exact hq
  | _ => exact ⟨φ', hq, hs'⟩
theorem noGotoS_normal (Q : Exit → St → Prop) (φ : St) : noGotoS Q .normal φ = Q .normal φ := rfl
theorem noGotoS_ret (Q : Exit → St → Prop) (φ : St) : noGotoS Q .ret φ = Q .ret φ := rfl
theorem noGotoS_exit (i : Nat) (Q : Exit → St → Prop) (φ : St) : noGotoS Q (.exit i) φ = Q (.exit i) φ := rfl
/-- A contract of the kit's kind, as a contract on data. -/
theorem CallR.of_calls {f : FuncId} {ds : List D} {d : D} (h : ∀ (vs : Array Value) (w : World) (M : Nat → Prop), Rl w M vs.toList ds → Calls P f vs w fun e w' => ∃ v, e = .returned v ∧ Ext Non w w' ∧ R w' M v d) : CallR P [] f ds [] d :=
  fun X vs w _ _ h3 => h vs w (Mx X []) h3
/-- What is called where no objects are handed over may be given by any contract on data, whatever it returns. -/
theorem CallTo.of_some {G : List (Nat × D)} {f : FuncId} {ds : List D} {S : List (Nat × O)} {p : D → Prop} {d : D} (h : CallR P G f ds S d) (hp : p d) : CallTo P G f ds S fun d' S' => p d' ∧ S' = S :=
  (CallTo.of_R h).mono fun d' S' ⟨h1, h2⟩ => ⟨h1 ▸ hp, h2⟩
theorem Rl.strs {w : World} {M : Nat → Prop} {vs : Array Value} {l : List UInt8} {ds : List D} (h : Rl w M vs.toList (.str l :: ds)) : ∃ (s : ByteArray) (us : List Value), vs.toList = .string s :: us ∧ s.data.toList = l ∧ Rl w M us ds := by
  cases hv : vs.toList with
  | nil => rw [hv] at h; have := h.1; simp at this
  | cons v us =>
    rw [hv] at h
    have h1 := h.head
    cases h1 with
    | str s _ hs => exact ⟨s, us, rfl, hs, h.tail⟩
end
end Go.Dw

namespace Go.Dw
open Go Go.RowKit

section
variable {H : Type} {enc : TypeId × Value → H} {P : Program} {w : World} {base : Nat} {spare : Nat → Bool} {held : Bool} {fuel : Nat} {t : TypeId} {cs : List Value} {x : DataW H × List MemPlace}

theorem read_int {k : IntKind} (hu : P.underlying t = some (.int k)) (h : DataW.trod enc P w base spare held fuel t cs = some x) : ∃ z, cs = [.int k z] ∧ x.1 = .lit (.int k z) ∧ (Lit.int k z).wf = true := by
  cases fuel with
  | zero => simp [DataW.trod] at h
  | succ m =>
    unfold DataW.trod at h
    rw [hu] at h
    split at h <;> simp_all
    obtain ⟨⟨h1, h2⟩, h3⟩ := h
    subst h3
    rfl
theorem read_bool (hu : P.underlying t = some .bool) (h : DataW.trod enc P w base spare held fuel t cs = some x) : ∃ z, cs = [.bool z] ∧ x.1 = .lit (.bool z) := by
  cases fuel with
  | zero => simp [DataW.trod] at h
  | succ m =>
    unfold DataW.trod at h
    rw [hu] at h
    split at h <;> simp_all
    subst h; rfl
theorem read_str (hu : P.underlying t = some .string) (h : DataW.trod enc P w base spare held fuel t cs = some x) : ∃ s : ByteArray, cs = [.string s] ∧ x.1 = .lit (.string s.data.toList) ∧ s.size ≤ maxLen := by
  cases fuel with
  | zero => simp [DataW.trod] at h
  | succ m =>
    unfold DataW.trod at h
    rw [hu] at h
    split at h <;> simp_all
    obtain ⟨h1, h2⟩ := h
    subst h2
    rfl
theorem read_slice {α : Type} {e : TypeId} {size : Nat} (cells : α → List D) (Good : α → DataW H → Prop) (hu : P.underlying t = some (.slice e)) (hsz : P.cellsOf e = size) (h0 : 0 < size)
    (helem : ∀ m cs x, fuel = m + 1 → DataW.trod enc P w base spare held m e cs = some x → ∃ a, Rl w Non cs (cells a) ∧ (cells a).length = size ∧ Good a x.1) (h : DataW.trod enc P w base spare held fuel t cs = some x) :
    ∃ as : List α, Rl w Non cs [.sl false size (as.map cells)] ∧ ((x.1 = .nil ∧ as = []) ∨ ∃ els rest, x.1 = .slice els rest ∧ as.length = els.length ∧ ∀ (i : Nat) (a : α) (d : DataW H), as[i]? = some a → els[i]? = some d → Good a d) := by
  rcases DataW.trod_slice hu h with ⟨rfl, rfl⟩ | ⟨a, len, cap, elems, rest, n, hfuel, rfl, rfl, _, hle, hcap, hel, hget, _, _⟩
  · exact ⟨[], .cons ((Le.nil false size).sound .nil) .nil, .inl ⟨rfl, rfl⟩⟩
  · have key : ∀ i : Fin len, ∃ b : α, ∃ (cs' : List Value) (x' : DataW H × List MemPlace), w.cells? base (a.add (i * size)) size = some cs' ∧ elems[i.1]? = some x' ∧ Rl w Non cs' (cells b) ∧ (cells b).length = size ∧ Good b x'.1 := by
      intro i
      have hi := hget i.1 i.2
      rw [hsz] at hi
      have hx : elems[i.1]? = some elems[i.1] := List.getElem?_eq_getElem (by omega)
      rw [hx] at hi
      obtain ⟨cs', h1, h2⟩ := Option.bind_eq_some_iff.1 hi
      obtain ⟨b, h3, h4, h5⟩ := helem n cs' _ hfuel h2
      exact ⟨b, cs', _, h1, hx, h3, h4, h5⟩
    obtain ⟨f, hf⟩ := Classical.axiomOfChoice key
    refine ⟨List.ofFn f, .cons (R.sl_mk (ad := a) (by simp) (by simpa using hle) (by simp) (by simp; omega) (fun c hc => ?_) (fun hpos => ?_) (fun i c hc => ?_)) .nil, .inr ⟨_, _, rfl, by simp [hel], fun i b d hb hd => ?_⟩⟩
    · simp only [List.mem_map, List.mem_ofFn] at hc
      obtain ⟨_, ⟨j, rfl⟩, rfl⟩ := hc
      obtain ⟨_, _, _, _, _, h4, _⟩ := hf j
      exact h4
    · have hpos' : 0 < len := by simpa using hpos
      obtain ⟨cs', _, h1, _⟩ := hf ⟨0, hpos'⟩
      have hb := World.cells?_block h1 h0
      rw [add_block] at hb
      exact ⟨rfl, hb, fun hf => hf⟩
    · rw [List.getElem?_map] at hc
      have hil : i < len := by
        rcases Nat.lt_or_ge i len with h | h
        · exact h
        · rw [List.getElem?_eq_none (by simpa using h)] at hc; cases hc
      rw [List.getElem?_ofFn, dif_pos hil] at hc
      simp only [Option.map_some, Option.some.injEq] at hc
      subst hc
      obtain ⟨cs', x', h1, _, h3, h4, _⟩ := hf ⟨i, hil⟩
      obtain ⟨_, hl, hcell⟩ := World.cells?_some h1
      exact ⟨cs', h3, fun j v hv => by
        have hj : j < size := by rw [← hl]; exact (List.getElem?_eq_some_iff.1 hv).1
        rw [hcell j hj]; exact hv⟩
    · have hil : i < len := by
        have := (List.getElem?_eq_some_iff.1 hb).1
        simpa using this
      rw [List.getElem?_ofFn, dif_pos hil] at hb
      cases hb
      obtain ⟨cs', x', _, h2, _, _, h5⟩ := hf ⟨i, hil⟩
      rw [List.getElem?_map, h2] at hd
      cases hd
      exact h5
theorem read_struct {fs : Array Field} (hu : P.underlying t = some (.struct fs)) (h : DataW.trod enc P w base spare held fuel t cs = some x) :
    ∃ (xs : List (DataW H × List MemPlace)) (m : Nat), fuel = m + 1 ∧ x.1 = .agg (xs.map (·.1)) ∧ cs.length = P.cellsOf t ∧ xs.length = fs.size ∧
      ∀ (i off : Nat) (ty : TypeId) (n : Nat), fldOf P t i = some (off, ty, n) → P.cellsOf ty = n → ∃ y, xs[i]? = some y ∧ DataW.trod enc P w base spare held m ty ((cs.drop off).take n) = some y := by
  obtain ⟨xs, m, h1, rfl, h3, h4, h5⟩ := DataW.trod_struct hu h
  refine ⟨xs, m, h1, rfl, h3, h4, fun i off ty n hf hn => ?_⟩
  obtain ⟨fs', f, inf, g1, g2, g3, g4, _, _⟩ := fldOf_some hf
  rw [hu] at g1
  cases g1
  have hi : i < xs.length := by rw [h4]; exact (Array.getElem?_eq_some_iff.1 g2).1
  have := h5 i f g2
  rw [g3, g4, hn] at this
  exact ⟨xs[i], List.getElem?_eq_getElem hi, by rw [this, List.getElem?_eq_getElem hi]⟩
theorem Rl.str1 {M : Nat → Prop} (s : ByteArray) : Rl w M [.string s] [.str s.data.toList] := .cons (.str _ _ rfl) .nil
theorem Rl.int1 {M : Nat → Prop} (k : IntKind) (n : Int) : Rl w M [.int k n] [.int k n] := .cons (.int _ _) .nil
end
end Go.Dw
