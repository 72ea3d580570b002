/-
  The first part of a program logic over deep data: what a value in memory reads as (R), worlds that extend others (Ext), stores of mutable objects (Stor).
  It speaks of any program; no condition.
  The second part of a program logic over deep data: layouts, and what the single operations do to deep data.
  It speaks of any program; no condition.
  The third part of a program logic over deep data: the store of mutable objects, the state, contracts of calls, and the operations that leave the store alone.
  It speaks of any program; no condition.
-/
import Derived.WalkKit
import Derived.WalkSpells
namespace Go.Dw
open Go Go.RowKit

/-- Deep data. -/
inductive D where
  | int (k : IntKind) (n : Int)
  | bool (b : Bool)
  | str (s : List UInt8)
  | agg (cs : List D)
  | tup (cs : List D)
  | sl (full : Bool) (size : Nat) (es : List (List D))
  | nil
  | rp (cs : List D)
  | ref (g b off : Nat)
  | own (g : Nat) (A : Option Addr) (n cap : Nat)
  | mapr (g r : Nat)
  | imap (es : List (D × List D))
  | fn (f : FuncId) (first caps : List D)
  | pnil
  | mnil
  | fnil
  | inil
  | ifc (t : TypeId) (d : D)
  | it (g r : Nat)
  | any
  deriving Inhabited

/-- Value v reads in world w as d; the memory that it reaches without a mutable reference avoids M. -/
inductive R (w : World) (M : Nat → Prop) : Value → D → Prop
  | int (k : IntKind) (n : Int) : R w M (.int k n) (.int k n)
  | bool (b : Bool) : R w M (.bool b) (.bool b)
  | str (s : ByteArray) (l : List UInt8) (h : s.data.toList = l) : R w M (.string s) (.str l)
  | agg (cs : Array Value) (ds : List D) (hl : cs.size = ds.length) (h : ∀ (i : Nat) (v : Value) (d : D), cs[i]? = some v → ds[i]? = some d → R w M v d) : R w M (.agg cs) (.agg ds)
  | tup (cs : Array Value) (ds : List D) (hl : cs.size = ds.length) (h : ∀ (i : Nat) (v : Value) (d : D), cs[i]? = some v → ds[i]? = some d → R w M v d) : R w M (.tuple cs) (.tup ds)
  | sl (A : Option Addr) (cap : Nat) (full : Bool) (size : Nat) (es : List (List D)) (ad : Addr) (vs : Nat → Nat → Value)
      (hcap : es.length ≤ cap) (hfull : full = true → cap = es.length) (hmax : es.length ≤ maxLen) (hsz : ∀ e ∈ es, e.length = size)
      (hA : 0 < es.length → A = some ad ∧ ad.block < w.heap.size ∧ ¬ M ad.block)
      (hc : ∀ (i j : Nat) (e : List D) (d : D), es[i]? = some e → e[j]? = some d → w.cell? (ad.add (i * size + j)) = some (vs i j))
      (hr : ∀ (i j : Nat) (e : List D) (d : D), es[i]? = some e → e[j]? = some d → R w M (vs i j) d) : R w M (.slice A es.length cap) (.sl full size es)
  | nil : R w M (.slice none 0 0) .nil
  | rp (ad : Addr) (ds : List D) (vs : Nat → Value) (hb : ad.block < w.heap.size) (hM : ¬ M ad.block)
      (hc : ∀ (j : Nat) (d : D), ds[j]? = some d → w.cell? (ad.add j) = some (vs j))
      (hr : ∀ (j : Nat) (d : D), ds[j]? = some d → R w M (vs j) d) : R w M (.pointer (some ad)) (.rp ds)
  | ref (g b off : Nat) : R w M (.pointer (some ⟨b, off, none⟩)) (.ref g b off)
  | own (g : Nat) (A : Option Addr) (n cap : Nat) : R w M (.slice A n cap) (.own g A n cap)
  | mapr (g r : Nat) : R w M (.map (some r)) (.mapr g r)
  | fn (f : FuncId) (first caps : Array Value) (ds es : List D) (hl : first.size = ds.length) (hk : caps.size = es.length)
      (h : ∀ (i : Nat) (v : Value) (d : D), first[i]? = some v → ds[i]? = some d → R w M v d)
      (h' : ∀ (i : Nat) (v : Value) (d : D), caps[i]? = some v → es[i]? = some d → R w M v d) : R w M (.func (.func f) first caps) (.fn f ds es)
  | pnil : R w M (.pointer none) .pnil
  | mnil : R w M (.map none) .mnil
  | fnil : R w M .nilFunc .fnil
  | inil : R w M .nilIface .inil
  | ifc (t : TypeId) (v : Value) (d : D) (h : R w M v d) : R w M (.iface t v) (.ifc t d)
  | it (g r : Nat) : R w M (.pointer (some ⟨r, 0, none⟩)) (.it g r)
  | any (v : Value) : R w M v .any

/-- World w' extends w but for the blocks of B. -/
structure Ext (B : Nat → Prop) (w w' : World) : Prop where
  os : w'.os = w.os
  tape : w'.tape = w.tape
  output : w'.output = w.output
  size : w.heap.size ≤ w'.heap.size
  block : ∀ k, k < w.heap.size → ¬ B k → w'.heap[k]? = w.heap[k]?

def Non : Nat → Prop := fun _ => False

theorem Ext.refl (B : Nat → Prop) (w : World) : Ext B w w := ⟨rfl, rfl, rfl, Nat.le_refl _, fun _ _ _ => rfl⟩
theorem Ext.trans {B : Nat → Prop} {a b c : World} (h : Ext B a b) (k : Ext B b c) : Ext B a c :=
  ⟨k.os.trans h.os, k.tape.trans h.tape, k.output.trans h.output, Nat.le_trans h.size k.size, fun i hi hB => (k.block i (Nat.lt_of_lt_of_le hi h.size) hB).trans (h.block i hi hB)⟩
/-- Two steps of which the second may turn B', where what is new in B' lies behind the first world. -/
theorem Ext.trans' {B B' : Nat → Prop} {a b c : World} (h : Ext B a b) (k : Ext B' b c) (hB : ∀ i, B' i → B i ∨ a.heap.size ≤ i) : Ext B a c :=
  ⟨k.os.trans h.os, k.tape.trans h.tape, k.output.trans h.output, Nat.le_trans h.size k.size, fun i hi hn =>
    (k.block i (Nat.lt_of_lt_of_le hi h.size) (fun hb => by rcases hB i hb with h1 | h1; exact hn h1; omega)).trans (h.block i hi hn)⟩
theorem Ext.mono {B B' : Nat → Prop} {a b : World} (h : Ext B a b) (hB : ∀ i, i < a.heap.size → B i → B' i) : Ext B' a b :=
  ⟨h.os, h.tape, h.output, h.size, fun i hi hn => h.block i hi (fun hb => hn (hB i hi hb))⟩
theorem Ext.alloc (w : World) (o : Obj) : Ext Non w (w.alloc o) :=
  ⟨rfl, rfl, rfl, by simp, fun k hk _ => Below.heap_alloc _ _ _ hk⟩
theorem Ext.drew (w : World) : Ext Non w w.drew := ⟨rfl, rfl, rfl, Nat.le_refl _, fun _ _ _ => rfl⟩
theorem Ext.non {B : Nat → Prop} {a b : World} (h : Ext Non a b) : Ext B a b := h.mono (fun _ _ hf => hf.elim)

theorem Ext.cell {B : Nat → Prop} {w w' : World} (h : Ext B w w') {a : Addr} (hb : a.block < w.heap.size) (hB : ¬ B a.block) : w'.cell? a = w.cell? a :=
  World.cell?_of_block (h.block a.block hb hB)
theorem Ext.below {w w' : World} (h : Ext Non w w') : Below w.heap.size w w' :=
  ⟨h.os, h.tape, h.output, h.size, fun k hk => h.block k hk (fun hf => hf)⟩
theorem Ext.of_below {w w' : World} (h : Below w.heap.size w w') : Ext Non w w' :=
  ⟨h.os, h.tape, h.output, h.size, fun k hk _ => h.block k hk⟩

theorem add_block (a : Addr) (n : Nat) : (a.add n).block = a.block := by unfold Addr.add; split <;> rfl
theorem add_add (a : Addr) (i j : Nat) : (a.add i).add j = a.add (i + j) := by
  unfold Addr.add
  by_cases hi : i = 0 <;> by_cases hj : j = 0 <;> simp [hi, hj, Nat.add_assoc]
theorem add_lit (b o n : Nat) : (⟨b, o, none⟩ : Addr).add n = ⟨b, o + n, none⟩ := by unfold Addr.add; split <;> simp_all

theorem R.mono {w w' : World} {M M' B : Nat → Prop} {v : Value} {d : D} (h : R w M v d) (he : Ext B w w') (hB : ∀ b, b < w.heap.size → B b → M b)
    (hM : ∀ b, b < w.heap.size → ¬ M b → ¬ M' b) : R w' M' v d := by
  induction h with
  | int k n => exact .int k n
  | bool b => exact .bool b
  | str s l h => exact .str s l h
  | agg cs ds hl _ ih => exact .agg cs ds hl ih
  | tup cs ds hl _ ih => exact .tup cs ds hl ih
  | sl A cap full size es ad vs hcap hfull hmax hsz hA hc _ ih =>
    refine .sl A cap full size es ad vs hcap hfull hmax hsz (fun h0 => ?_) (fun i j e d hi hj => ?_) ih
    · obtain ⟨h1, h2, h3⟩ := hA h0
      exact ⟨h1, Nat.lt_of_lt_of_le h2 he.size, hM _ h2 h3⟩
    · have h0 : 0 < es.length := by
        have := (List.getElem?_eq_some_iff.1 hi).1
        omega
      obtain ⟨_, h2, h3⟩ := hA h0
      rw [he.cell (by rw [add_block]; exact h2) (by rw [add_block]; exact fun hb => h3 (hB _ h2 hb))]
      exact hc i j e d hi hj
  | nil => exact .nil
  | rp ad ds vs hb hn hc _ ih =>
    refine .rp ad ds vs (Nat.lt_of_lt_of_le hb he.size) (hM _ hb hn) (fun j d hj => ?_) ih
    rw [he.cell (by rw [add_block]; exact hb) (by rw [add_block]; exact fun hbb => hn (hB _ hb hbb))]
    exact hc j d hj
  | ref g b off => exact .ref g b off
  | own g A n cap => exact .own g A n cap
  | mapr g r => exact .mapr g r
  | fn f first caps ds es hl hk _ _ ih ih' => exact .fn f first caps ds es hl hk ih ih'
  | pnil => exact .pnil
  | mnil => exact .mnil
  | fnil => exact .fnil
  | inil => exact .inil
  | ifc t v d _ ih => exact .ifc t v d ih
  | it g r => exact .it g r
  | any v => exact .any v

/-- The same world, fewer mutable blocks. -/
theorem R.less {w : World} {M M' : Nat → Prop} {v : Value} {d : D} (h : R w M v d) (hM : ∀ b, M' b → M b) : R w M' v d :=
  h.mono (Ext.refl Non w) (fun _ _ hf => hf.elim) (fun _ _ hn hm => hn (hM _ hm))
theorem R.ext {w w' : World} {M B : Nat → Prop} {v : Value} {d : D} (h : R w M v d) (he : Ext B w w') (hB : ∀ b, B b → M b) : R w' M v d :=
  h.mono he (fun b _ hb => hB b hb) (fun _ _ h => h)

/-- Lists of values and data. -/
def Rl (w : World) (M : Nat → Prop) (vs : List Value) (ds : List D) : Prop :=
  vs.length = ds.length ∧ ∀ (i : Nat) (v : Value) (d : D), vs[i]? = some v → ds[i]? = some d → R w M v d

theorem Rl.nil {w : World} {M : Nat → Prop} : Rl w M [] [] := ⟨rfl, fun i v d h => by simp at h⟩
theorem Rl.cons {w : World} {M : Nat → Prop} {v : Value} {vs : List Value} {d : D} {ds : List D} (h : R w M v d) (hs : Rl w M vs ds) : Rl w M (v :: vs) (d :: ds) := by
  refine ⟨by simp [hs.1], fun i u e hu he => ?_⟩
  cases i with
  | zero => simp at hu he; subst hu; subst he; exact h
  | succ i => simp at hu he; exact hs.2 i u e hu he
theorem Rl.head {w : World} {M : Nat → Prop} {v : Value} {vs : List Value} {d : D} {ds : List D} (h : Rl w M (v :: vs) (d :: ds)) : R w M v d := h.2 0 v d rfl rfl
theorem Rl.tail {w : World} {M : Nat → Prop} {v : Value} {vs : List Value} {d : D} {ds : List D} (h : Rl w M (v :: vs) (d :: ds)) : Rl w M vs ds :=
  ⟨by have := h.1; simpa using this, fun i u e hu he => h.2 (i + 1) u e (by simpa using hu) (by simpa using he)⟩
theorem Rl.mono {w w' : World} {M M' B : Nat → Prop} {vs : List Value} {ds : List D} (h : Rl w M vs ds) (he : Ext B w w') (hB : ∀ b, b < w.heap.size → B b → M b)
    (hM : ∀ b, b < w.heap.size → ¬ M b → ¬ M' b) : Rl w' M' vs ds := ⟨h.1, fun i v d hv hd => (h.2 i v d hv hd).mono he hB hM⟩
theorem Rl.append {w : World} {M : Nat → Prop} {vs us : List Value} {ds es : List D} (h : Rl w M vs ds) (k : Rl w M us es) : Rl w M (vs ++ us) (ds ++ es) := by
  refine ⟨by simp [h.1, k.1], fun i v d hv hd => ?_⟩
  rcases Nat.lt_or_ge i vs.length with hi | hi
  · rw [List.getElem?_append_left hi] at hv
    rw [List.getElem?_append_left (by have := h.1; omega)] at hd
    exact h.2 i v d hv hd
  · rw [List.getElem?_append_right hi] at hv
    rw [List.getElem?_append_right (by have := h.1; omega), ← h.1] at hd
    exact k.2 _ v d hv hd
theorem Rl.take {w : World} {M : Nat → Prop} {vs : List Value} {ds : List D} (h : Rl w M vs ds) (n : Nat) : Rl w M (vs.take n) (ds.take n) := by
  refine ⟨by simp [h.1], fun i v d hv hd => ?_⟩
  rw [List.getElem?_take] at hv hd
  split at hv
  · rename_i hi; rw [if_pos hi] at hd; exact h.2 i v d hv hd
  · cases hv
theorem Rl.drop {w : World} {M : Nat → Prop} {vs : List Value} {ds : List D} (h : Rl w M vs ds) (n : Nat) : Rl w M (vs.drop n) (ds.drop n) := by
  refine ⟨by simp [h.1], fun i v d hv hd => ?_⟩
  rw [List.getElem?_drop] at hv hd
  exact h.2 _ v d hv hd
theorem Rl.set {w : World} {M : Nat → Prop} {vs : List Value} {ds : List D} (h : Rl w M vs ds) (n : Nat) {v : Value} {d : D} (hv : R w M v d) : Rl w M (vs.set n v) (ds.set n d) := by
  refine ⟨by simp [h.1], fun i u e hu he => ?_⟩
  rw [List.getElem?_set] at hu he
  by_cases hi : n = i
  · subst hi
    simp at hu he
    rw [← hu.2, ← he.2]
    exact hv
  · simp [hi] at hu he
    exact h.2 i u e hu he
/-- Splice: cells put in from place n on. -/
theorem Rl.splice {w : World} {M : Nat → Prop} {vs us : List Value} {ds es : List D} (h : Rl w M vs ds) (k : Rl w M us es) (n : Nat) :
    Rl w M (vs.take n ++ us ++ vs.drop (n + us.length)) (ds.take n ++ es ++ ds.drop (n + es.length)) := by
  have := ((h.take n).append k).append (h.drop (n + us.length))
  rwa [k.1] at this ⊢

theorem R.agg_iff {w : World} {M : Nat → Prop} {cs : Array Value} {ds : List D} : R w M (.agg cs) (.agg ds) ↔ Rl w M cs.toList ds := by
  constructor
  · intro h
    cases h with
    | agg _ _ hl h => exact ⟨by simpa using hl, fun i v d hv hd => h i v d (by simpa using hv) hd⟩
  · intro h
    exact .agg _ _ (by simpa using h.1) (fun i v d hv hd => h.2 i v d (by simpa using hv) hd)
theorem R.tup_iff {w : World} {M : Nat → Prop} {cs : Array Value} {ds : List D} : R w M (.tuple cs) (.tup ds) ↔ Rl w M cs.toList ds := by
  constructor
  · intro h
    cases h with
    | tup _ _ hl h => exact ⟨by simpa using hl, fun i v d hv hd => h i v d (by simpa using hv) hd⟩
  · intro h
    exact .tup _ _ (by simpa using h.1) (fun i v d hv hd => h.2 i v d (by simpa using hv) hd)

/-- Data of one cell. -/
def D.one : D → Bool
  | .agg _ | .tup _ | .any => false
  | _ => true
/-- The cells of a datum. -/
def D.cells : D → List D
  | .agg cs => cs
  | d => [d]
/-- A datum whose cells are known. -/
def D.known : D → Bool
  | .tup _ | .any => false
  | _ => true

theorem R.oneCell {w : World} {M : Nat → Prop} {v : Value} {d : D} (h : R w M v d) (h1 : d.one = true) : v.oneCell' = true := by
  cases h <;> simp_all [D.one, Value.oneCell']
theorem R.cells {w : World} {M : Nat → Prop} {v : Value} {d : D} (h : R w M v d) (h1 : d.known = true) : Rl w M v.cells.toList d.cells := by
  cases h with
  | agg cs ds hl h => exact R.agg_iff.1 (.agg cs ds hl h)
  | tup => simp [D.known] at h1
  | any => simp [D.known] at h1
  | int k n => exact .cons (.int k n) .nil
  | bool b => exact .cons (.bool b) .nil
  | str s l h => exact .cons (.str s l h) .nil
  | sl A cap full size es ad vs a b c d e f g => exact .cons (.sl A cap full size es ad vs a b c d e f g) .nil
  | nil => exact .cons .nil .nil
  | rp ad ds vs a b c d => exact .cons (.rp ad ds vs a b c d) .nil
  | ref g b off => exact .cons (.ref g b off) .nil
  | own g A n cap => exact .cons (.own g A n cap) .nil
  | mapr g r => exact .cons (.mapr g r) .nil
  | fn f first caps ds es hl hk h h' => exact .cons (.fn f first caps ds es hl hk h h') .nil
  | pnil => exact .cons .pnil .nil
  | mnil => exact .cons .mnil .nil
  | fnil => exact .cons .fnil .nil
  | inil => exact .cons .inil .nil
  | ifc t v d h => exact .cons (.ifc t v d h) .nil
  | it g r => exact .cons (.it g r) .nil

end Go.Dw

namespace Go.Dw
open Go Go.RowKit

/-- Is it an aggregate; cells; bytes. -/
def layOf (P : Program) (t : TypeId) : Option (Bool × Nat × Nat) :=
  match P.underlying t, P.info? t with
  | some d, some i => some ((match d with | .struct _ | .array _ _ => true | _ => false), i.size, i.bytes)
  | _, _ => none
/-- A struct's field: its offset, its type, its cells. -/
def fldOf (P : Program) (t : TypeId) (i : Nat) : Option (Nat × TypeId × Nat) :=
  match P.underlying t with
  | some (.struct fs) => (fs[i]?).bind fun f => (P.info? f.type).map fun inf => (f.offset, f.type, inf.size)
  | _ => none
/-- A slice's element type and its cells. -/
def elOf (P : Program) (t : TypeId) : Option (TypeId × Nat) :=
  match P.underlying t with
  | some (.slice e) => (P.info? e).map fun inf => (e, inf.size)
  | _ => none
/-- An array's length, element type and its cells. -/
def arOf (P : Program) (t : TypeId) : Option (Nat × TypeId × Nat) :=
  match P.underlying t with
  | some (.array n e) => (P.info? e).map fun inf => (n, e, inf.size)
  | _ => none

def ofCell : Value → D
  | .int k n => .int k n
  | .bool b => .bool b
  | .string s => .str s.data.toList
  | .slice none 0 0 => .nil
  | .pointer none => .pnil
  | .map none => .mnil
  | .nilFunc => .fnil
  | .nilIface => .inil
  | _ => .any
def ofVal : Value → D
  | .agg cs => .agg (cs.toList.map ofCell)
  | v => ofCell v

theorem range_map_get {α : Type} {n i : Nat} {f : Nat → α} {v : α} (h : ((List.range n).map f)[i]? = some v) : i < n ∧ v = f i := by
  rw [List.getElem?_map] at h
  cases hr : (List.range n)[i]? with
  | none => simp [hr] at h
  | some k =>
    have hi := (List.getElem?_eq_some_iff.1 hr).1
    have hk := (List.getElem?_eq_some_iff.1 hr).2
    simp at hi hk
    simp [hr] at h
    subst hk
    exact ⟨hi, h.symm⟩
section
variable {w : World} {M : Nat → Prop}
theorem R_ofCell (v : Value) : R w M v (ofCell v) := by
  unfold ofCell
  split <;> constructor
  rfl
theorem R_ofVal (v : Value) : R w M v (ofVal v) := by
  unfold ofVal
  split
  · rename_i cs
    refine .agg _ _ (by simp) (fun i v d hv hd => ?_)
    simp at hd
    obtain ⟨u, hu, rfl⟩ := hd
    rw [hv] at hu
    cases hu
    exact R_ofCell v
  · exact R_ofCell _

variable {P : Program}

theorem run_sizeOf_lay {t : TypeId} {a : Bool} {n b : Nat} (h : layOf P t = some (a, n, b)) : (sizeOf t).run P w = .ok n w := by
  unfold layOf at h
  cases hu : P.underlying t with
  | none => simp [hu] at h
  | some d =>
    cases hi : P.info? t with
    | none => simp [hu, hi] at h
    | some i =>
      simp [hu, hi] at h
      simp [sizeOf, typeInfo, hi, h]
theorem run_isAgg_lay {t : TypeId} {a : Bool} {n b : Nat} (h : layOf P t = some (a, n, b)) : (isAgg t).run P w = .ok a w := by
  unfold layOf at h
  cases hu : P.underlying t with
  | none => simp [hu] at h
  | some d =>
    cases hi : P.info? t with
    | none => simp [hu, hi] at h
    | some i =>
      simp [hu, hi] at h
      obtain ⟨h1, _⟩ := h
      simp only [isAgg, Sem.run_bind, run_underlying hu, Result.andThen_ok]
      subst h1
      cases d <;> rfl

/-- The cells that stand behind an address. -/
def CellsAt (w : World) (M : Nat → Prop) (ad : Addr) (ds : List D) : Prop :=
  ∃ vs : List Value, Rl w M vs ds ∧ ∀ (j : Nat) (v : Value), vs[j]? = some v → w.cell? (ad.add j) = some v

theorem CellsAt.drop {ad : Addr} {ds : List D} (h : CellsAt w M ad ds) (k : Nat) : CellsAt w M (ad.add k) (ds.drop k) := by
  obtain ⟨vs, h1, h2⟩ := h
  refine ⟨vs.drop k, h1.drop k, fun j v hv => ?_⟩
  rw [add_add]
  exact h2 _ v (by simpa using hv)
theorem CellsAt.take {ad : Addr} {ds : List D} (h : CellsAt w M ad ds) (k : Nat) : CellsAt w M ad (ds.take k) := by
  obtain ⟨vs, h1, h2⟩ := h
  refine ⟨vs.take k, h1.take k, fun j v hv => ?_⟩
  rw [List.getElem?_take] at hv
  split at hv
  · exact h2 _ v hv
  · cases hv

/-- What a load of type t makes of the cells behind an address. -/
def loadD (a : Bool) (n : Nat) (cs : List D) (K : D → Prop) : Prop :=
  match a with
  | true => n ≤ cs.length ∧ K (.agg (cs.take n))
  | false => match cs with | c :: _ => K c | [] => False
theorem loadD_agg (n : Nat) (cs : List D) (K : D → Prop) : loadD true n cs K = (n ≤ cs.length ∧ K (.agg (cs.take n))) := rfl
theorem loadD_one (n : Nat) (c : D) (cs : List D) (K : D → Prop) : loadD false n (c :: cs) K = K c := rfl

theorem run_loadVar_cells {t : TypeId} {a : Bool} {n b : Nat} (hl : layOf P t = some (a, n, b)) {ad : Addr} {cs : List D} (h : CellsAt w M ad cs) {K : D → Prop} (hK : loadD a n cs K) :
    ∃ v d, (loadVar t ad).run P w = .ok v w ∧ R w M v d ∧ K d ∧ (∀ K' : D → Prop, loadD a n cs K' → K' d) := by
  obtain ⟨vs, h1, h2⟩ := h
  cases a with
  | true =>
    obtain ⟨hn, hK⟩ := hK
    have hvl : n ≤ vs.length := by rw [h1.1]; exact hn
    have hlen : (vs.take n).length = n := by simp; omega
    have hrun := run_loadCells_list (P := P) w ad (vs.take n) (fun j v hv => by
      rw [List.getElem?_take] at hv
      split at hv
      · exact h2 _ v hv
      · cases hv)
    rw [hlen] at hrun
    refine ⟨.agg (vs.take n).toArray, .agg (cs.take n), ?_, R.agg_iff.2 (by simpa using h1.take n), hK, fun K' hK' => hK'.2⟩
    simp only [loadVar, Sem.run_bind, run_isAgg_lay hl, Result.andThen_ok, if_true, run_sizeOf_lay hl, hrun, Sem.run_pure]
  | false =>
    cases cs with
    | nil => exact hK.elim
    | cons c cs =>
      cases vs with
      | nil => simp [Rl] at h1
      | cons v vs =>
        have hc : w.cell? ad = some v := by simpa [Addr.add] using h2 0 v rfl
        refine ⟨v, c, ?_, h1.head, hK, fun K' hK' => hK'⟩
        simp only [loadVar, Sem.run_bind, run_isAgg_lay hl, Result.andThen_ok, Bool.false_eq_true, if_false, run_load, hc]

theorem R.rp_cells {v : Value} {cs : List D} (h : R w M v (.rp cs)) : ∃ ad, v = .pointer (some ad) ∧ ad.block < w.heap.size ∧ ¬ M ad.block ∧ CellsAt w M ad cs := by
  cases h with
  | rp ad ds vs hb hM hc hr =>
    refine ⟨ad, rfl, hb, hM, (List.range cs.length).map vs, ⟨by simp, fun i v d hv hd => ?_⟩, fun j v hv => ?_⟩
    · obtain ⟨_, rfl⟩ := range_map_get hv
      exact hr _ _ hd
    · obtain ⟨hj, rfl⟩ := range_map_get hv
      exact hc j (cs[j]) (by simp [hj])
theorem R.rp_mk {ad : Addr} {cs : List D} (hb : ad.block < w.heap.size) (hM : ¬ M ad.block) (h : CellsAt w M ad cs) : R w M (.pointer (some ad)) (.rp cs) := by
  obtain ⟨vs, h1, h2⟩ := h
  refine .rp ad cs (fun j => vs.getD j undef) hb hM (fun j d hd => ?_) (fun j d hd => ?_)
  · have hj := (List.getElem?_eq_some_iff.1 hd).1
    have : j < vs.length := by rw [h1.1]; exact hj
    exact h2 j _ (by simp [List.getD, List.getElem?_eq_getElem this])
  · have hj := (List.getElem?_eq_some_iff.1 hd).1
    have : j < vs.length := by rw [h1.1]; exact hj
    exact h1.2 j _ d (by simp [List.getD, List.getElem?_eq_getElem this]) hd

/-- The element i of a slice that reads as es: its cells. -/
theorem R.sl_elem {v : Value} {full : Bool} {size : Nat} {es : List (List D)} (h : R w M v (.sl full size es)) :
    ∃ A cap, v = .slice A es.length cap ∧ es.length ≤ cap ∧ (full = true → cap = es.length) ∧ es.length ≤ maxLen ∧ (∀ e ∈ es, e.length = size) ∧
      ∃ ad, (0 < es.length → A = some ad ∧ ad.block < w.heap.size ∧ ¬ M ad.block) ∧ ∀ (i : Nat) (e : List D), es[i]? = some e → CellsAt w M (ad.add (i * size)) e := by
  cases h with
  | sl A cap full size es ad vs hcap hfull hmax hsz hA hc hr =>
    refine ⟨A, cap, rfl, hcap, hfull, hmax, hsz, ad, hA, fun i e he => ⟨(List.range e.length).map (vs i), ⟨by simp, fun j v d hv hd => ?_⟩, fun j v hv => ?_⟩⟩
    · obtain ⟨_, rfl⟩ := range_map_get hv
      exact hr i j e d he hd
    · obtain ⟨hj, rfl⟩ := range_map_get hv
      rw [add_add]
      exact hc i j e (e[j]) he (by simp [hj])
theorem R.sl_mk {A : Option Addr} {cap n : Nat} {full : Bool} {size : Nat} {es : List (List D)} {ad : Addr} (hn : n = es.length) (hcap : es.length ≤ cap) (hfull : full = true → cap = es.length)
    (hmax : es.length ≤ maxLen) (hsz : ∀ e ∈ es, e.length = size) (hA : 0 < es.length → A = some ad ∧ ad.block < w.heap.size ∧ ¬ M ad.block)
    (h : ∀ (i : Nat) (e : List D), es[i]? = some e → CellsAt w M (ad.add (i * size)) e) : R w M (.slice A n cap) (.sl full size es) := by
  subst hn
  have hv : ∀ i, ∃ vs : List Value, ∀ e, es[i]? = some e → Rl w M vs e ∧ ∀ (j : Nat) (v : Value), vs[j]? = some v → w.cell? ((ad.add (i * size)).add j) = some v := by
    intro i
    cases he : es[i]? with
    | none => exact ⟨[], fun e h => by cases h⟩
    | some e =>
      obtain ⟨vs, h1, h2⟩ := h i e he
      exact ⟨vs, fun e' h => by cases h; exact ⟨h1, h2⟩⟩
  have hch := Classical.axiomOfChoice hv
  obtain ⟨f, hf⟩ := hch
  refine .sl A cap full size es ad (fun i j => (f i).getD j undef) hcap hfull hmax hsz hA (fun i j e d he hd => ?_) (fun i j e d he hd => ?_)
  · obtain ⟨h1, h2⟩ := hf i e he
    have hj : j < (f i).length := by rw [h1.1]; exact (List.getElem?_eq_some_iff.1 hd).1
    rw [← add_add]
    exact h2 j _ (by simp [List.getD, List.getElem?_eq_getElem hj])
  · obtain ⟨h1, h2⟩ := hf i e he
    have hj : j < (f i).length := by rw [h1.1]; exact (List.getElem?_eq_some_iff.1 hd).1
    exact h1.2 j _ d (by simp [List.getD, List.getElem?_eq_getElem hj]) hd

theorem CellsAt.mono {w' : World} {M' B : Nat → Prop} {ad : Addr} {ds : List D} (h : CellsAt w M ad ds) (hb : ad.block < w.heap.size) (hn : ¬ M ad.block) (he : Ext B w w') (hB : ∀ b, b < w.heap.size → B b → M b)
    (hM : ∀ b, b < w.heap.size → ¬ M b → ¬ M' b) : CellsAt w' M' ad ds := by
  obtain ⟨vs, h1, h2⟩ := h
  refine ⟨vs, h1.mono he hB hM, fun j v hv => ?_⟩
  rw [he.cell (by rw [add_block]; exact hb) (by rw [add_block]; exact fun hbb => hn (hB _ hb hbb))]
  exact h2 j v hv

/-- A new block: the cells that it holds. -/
theorem CellsAt.new {vs : List Value} {ds : List D} (h : Rl w M vs ds) (t : TypeId) (M' : Nat → Prop) (hM : ∀ b, b < w.heap.size → ¬ M b → ¬ M' b) :
    CellsAt (w.alloc (.cells vs.toArray t)) M' ⟨w.heap.size, 0, none⟩ ds := by
  refine ⟨vs, h.mono (Ext.alloc w _) (fun _ _ hf => hf.elim) hM, fun j v hv => ?_⟩
  rw [add_lit]
  simpa using hv
end
end Go.Dw

namespace Go.Dw
open Go Go.RowKit

/-- Mutable objects. -/
inductive O where
  | cells (b : Nat) (cs : List D)
  | row (A : Option Addr) (n cap : Nat) (e : TypeId) (size : Nat) (es : List (List D))
  | map (r : Nat) (es : List (D × D))
  | sit (r : Nat) (s : List UInt8) (pos : Nat)
  | mit (r gm mr n : Nat) (seen : List Nat)
  deriving Inhabited

def O.blk : O → Option Nat
  | .cells b _ => some b
  | .row A _ _ _ _ _ => A.map (·.block)
  | .map r _ => some r
  | .sit r _ _ => some r
  | .mit r _ _ _ _ => some r

def look {α : Type} (t : Nat) : List (Nat × α) → Option α
  | [] => none
  | (k, d) :: r => if k = t then some d else look t r
def upd {α : Type} (t : Nat) (d : α) : List (Nat × α) → List (Nat × α)
  | [] => [(t, d)]
  | (k, x) :: r => if k = t then (t, d) :: r else (k, x) :: upd t d r
def dropK {α : Type} (t : Nat) : List (Nat × α) → List (Nat × α)
  | [] => []
  | (k, x) :: r => if k = t then dropK t r else (k, x) :: dropK t r

theorem look_upd {α : Type} (t s : Nat) (d : α) (l : List (Nat × α)) : look s (upd t d l) = if t = s then some d else look s l := by
  induction l with
  | nil => simp [upd, look]
  | cons p l ih =>
    obtain ⟨k, x⟩ := p
    simp only [upd]
    by_cases hk : k = t
    · subst hk
      simp only [if_true, look]
      by_cases hs : k = s <;> simp [hs]
    · simp only [if_neg hk, look, ih]
      by_cases hs : k = s
      · subst hs; simp [Ne.symm hk]
      · simp [hs]
theorem look_dropK {α : Type} (t s : Nat) (l : List (Nat × α)) : look s (dropK t l) = if t = s then none else look s l := by
  induction l with
  | nil => simp [dropK, look]
  | cons p l ih =>
    obtain ⟨k, x⟩ := p
    simp only [dropK]
    by_cases hk : k = t
    · subst hk
      simp only [if_true, ih, look]
      by_cases hs : k = s <;> simp [hs]
    · simp only [if_neg hk, look, ih]
      by_cases hs : k = s
      · subst hs; simp [Ne.symm hk]
      · simp [hs]

/-- The mutable blocks. -/
def Mx (X : Nat → Prop) (S : List (Nat × O)) (b : Nat) : Prop := X b ∨ ∃ g o, look g S = some o ∧ o.blk = some b

def ObjR (w : World) (M : Nat → Prop) : O → Prop
  | .cells b cs => ∃ cur e, w.heap[b]? = some (.cells cur e (0, 0)) ∧ Rl w M cur.toList cs
  | .row A n cap e size es => n = es.length ∧ (∀ x ∈ es, x.length = size) ∧ ∃ xs, w.ownsRow 0 e size (.slice A n cap) es.length xs ∧ Rl w M xs es.flatten
  | .map r es => ∃ ents, w.heap[r]? = some (.map ents ents.size) ∧ ents.size = es.length ∧ (∀ (i : Nat) (me : MapEntry), ents[i]? = some me → me.born = i) ∧ ∀ (i : Nat) (me : MapEntry) (p : D × D), ents[i]? = some me → es[i]? = some p → R w M me.key p.1 ∧ R w M me.val p.2
  | .sit r s pos => ∃ bs : ByteArray, w.heap[r]? = some (.stringIter bs pos) ∧ bs.data.toList = s
  | .mit r _ mr n seen => ∃ (sa : Array Nat) (last : Nat), w.heap[r]? = some (.mapIter (some mr) n sa last) ∧ sa.toList = seen ∧ n = last

structure Stor (w : World) (X : Nat → Prop) (S : List (Nat × O)) : Prop where
  obj : ∀ g o, look g S = some o → ObjR w (Mx X S) o
  one : ∀ g g' o o' b, look g S = some o → look g' S = some o' → o.blk = some b → o'.blk = some b → g = g'
  x : ∀ b, X b → b < w.heap.size
  sep : ∀ g o b, look g S = some o → o.blk = some b → ¬ X b

theorem ObjR.lt {w : World} {M : Nat → Prop} {o : O} (h : ObjR w M o) : ∀ b, o.blk = some b → b < w.heap.size := by
  intro b hb
  cases o with
  | cells b' cs =>
    obtain ⟨cur, e, h1, _⟩ := h
    simp [O.blk] at hb
    subst hb
    exact (Array.getElem?_eq_some_iff.1 h1).1
  | row A n cap e size es =>
    obtain ⟨_, _, xs, h1, _⟩ := h
    refine (h1.lt b ?_).2
    cases A with
    | none => simp [O.blk] at hb
    | some ad => simpa [O.blk, Value.ownBlock] using hb
  | map r es =>
    obtain ⟨ents, h1, _⟩ := h
    simp [O.blk] at hb
    subst hb
    exact (Array.getElem?_eq_some_iff.1 h1).1
  | sit r s pos =>
    obtain ⟨bs, h1, _⟩ := h
    simp [O.blk] at hb
    subst hb
    exact (Array.getElem?_eq_some_iff.1 h1).1
  | mit r gm mr n seen =>
    obtain ⟨sa, last, h1, _⟩ := h
    simp [O.blk] at hb
    subst hb
    exact (Array.getElem?_eq_some_iff.1 h1).1

theorem Stor.lt {w : World} {X : Nat → Prop} {S : List (Nat × O)} (h : Stor w X S) {b : Nat} (hb : Mx X S b) : b < w.heap.size := by
  rcases hb with hx | ⟨g, o, hg, hb⟩
  · exact h.x b hx
  · exact (h.obj g o hg).lt b hb

theorem ObjR.mono {w w' : World} {M M' B : Nat → Prop} {o : O} (h : ObjR w M o) (he : Ext B w w') (hB : ∀ b, b < w.heap.size → B b → M b)
    (hM : ∀ b, b < w.heap.size → ¬ M b → ¬ M' b) (ho : ∀ b, o.blk = some b → ¬ B b) : ObjR w' M' o := by
  cases o with
  | cells b cs =>
    obtain ⟨cur, e, h1, h2⟩ := h
    have hb := (Array.getElem?_eq_some_iff.1 h1).1
    exact ⟨cur, e, (he.block b hb (ho b rfl)).trans h1, h2.mono he hB hM⟩
  | row A n cap e size es =>
    obtain ⟨h0, h00, xs, h1, h2⟩ := h
    refine ⟨h0, h00, xs, ?_, h2.mono he hB hM⟩
    refine ⟨h1.1, ?_⟩
    rcases h1.2 with hn | ⟨g, cap', cur, hv, hg, hh, rest⟩
    · exact .inl hn
    · injection hv with hA hn hc
      subst hA
      exact .inr ⟨g, cap', cur, by rw [hn, hc], hg, (he.block g (Array.getElem?_eq_some_iff.1 hh).1 (ho g rfl)).trans hh, rest⟩
  | map r es =>
    obtain ⟨ents, h1, h2, h4, h3⟩ := h
    have hb := (Array.getElem?_eq_some_iff.1 h1).1
    exact ⟨ents, (he.block r hb (ho r rfl)).trans h1, h2, h4, fun i me p hi hp => ⟨(h3 i me p hi hp).1.mono he hB hM, (h3 i me p hi hp).2.mono he hB hM⟩⟩
  | sit r s pos =>
    obtain ⟨bs, h1, h2⟩ := h
    have hb := (Array.getElem?_eq_some_iff.1 h1).1
    exact ⟨bs, (he.block r hb (ho r rfl)).trans h1, h2⟩
  | mit r gm mr n seen =>
    obtain ⟨sa, last, h1, h2⟩ := h
    have hb := (Array.getElem?_eq_some_iff.1 h1).1
    exact ⟨sa, last, (he.block r hb (ho r rfl)).trans h1, h2⟩

theorem Stor.ext {w w' : World} {X : Nat → Prop} {S : List (Nat × O)} (h : Stor w X S) (he : Ext Non w w') : Stor w' X S :=
  ⟨fun g o hg => (h.obj g o hg).mono he (fun _ _ hf => hf.elim) (fun _ _ hn => hn) (fun _ _ hf => hf), h.one, fun b hb => Nat.lt_of_lt_of_le (h.x b hb) he.size, h.sep⟩

/-- Package-level variables that read as listed. -/
def Glob (G : List (Nat × D)) (w : World) (M : Nat → Prop) : Prop := ∀ g d, look g G = some d → R w M (.pointer (some ⟨g, 0, none⟩)) d

theorem Glob.mono {G : List (Nat × D)} {w w' : World} {M M' B : Nat → Prop} (h : Glob G w M) (he : Ext B w w') (hB : ∀ b, b < w.heap.size → B b → M b)
    (hM : ∀ b, b < w.heap.size → ¬ M b → ¬ M' b) : Glob G w' M' := fun g d hg => (h g d hg).mono he hB hM

/-- THE CONTRACT OF A CALL: called with values that read as ds, in a world with the store S (and further blocks X that it can't reach), function f returns a value and leaves a store of which 'post' speaks; nothing else has turned. -/
def CallTo (P : Program) (G : List (Nat × D)) (f : FuncId) (ds : List D) (S : List (Nat × O)) (post : D → List (Nat × O) → Prop) : Prop :=
  ∀ (X : Nat → Prop) (vs : Array Value) (w : World), Stor w X S → Glob G w (Mx X S) → Rl w (Mx X S) vs.toList ds →
    Calls P f vs w fun e w' => ∃ v d S', e = .returned v ∧ post d S' ∧ Ext (Mx Non S) w w' ∧ (∀ b, Mx Non S' b → Mx Non S b ∨ w.heap.size ≤ b) ∧ Stor w' X S' ∧ R w' (Mx X S') v d

theorem CallTo.mono {P : Program} {G : List (Nat × D)} {f : FuncId} {ds : List D} {S : List (Nat × O)} {post post' : D → List (Nat × O) → Prop} (h : CallTo P G f ds S post) (hp : ∀ d S', post d S' → post' d S') :
    CallTo P G f ds S post' := fun X vs w h1 h2 h3 => (h X vs w h1 h2 h3).mono fun e w' ⟨v, d, S', he, hpost, rest⟩ => ⟨v, d, S', he, hp _ _ hpost, rest⟩

/-- A call that leaves the store as it is and gives d. -/
def CallD (P : Program) (G : List (Nat × D)) (f : FuncId) (ds : List D) (S : List (Nat × O)) (d : D) : Prop := CallTo P G f ds S fun d' S' => d' = d ∧ S' = S

/-- Weaker data. -/
inductive Le : D → D → Prop
  | refl (d : D) : Le d d
  | any (d : D) : Le d .any
  | nil (f : Bool) (s : Nat) : Le .nil (.sl f s [])
  | sl (s : Nat) (es : List (List D)) : Le (.sl true s es) (.sl false s es)
  | empty (f f' : Bool) (s s' : Nat) : Le (.sl f s []) (.sl (f && f') s' [])
  | agg (ds es : List D) (hl : ds.length = es.length) (h : ∀ (i : Nat) (d e : D), ds[i]? = some d → es[i]? = some e → Le d e) : Le (.agg ds) (.agg es)
  | tup (ds es : List D) (hl : ds.length = es.length) (h : ∀ (i : Nat) (d e : D), ds[i]? = some d → es[i]? = some e → Le d e) : Le (.tup ds) (.tup es)
  | rp (ds es : List D) (hl : ds.length = es.length) (h : ∀ (i : Nat) (d e : D), ds[i]? = some d → es[i]? = some e → Le d e) : Le (.rp ds) (.rp es)
  | key (g g' b off : Nat) : Le (.ref g b off) (.ref g' b off)
  | keyo (g g' : Nat) (A : Option Addr) (n cap : Nat) : Le (.own g A n cap) (.own g' A n cap)
  | keym (g g' r : Nat) : Le (.mapr g r) (.mapr g' r)
  | fn (f : FuncId) (ds es ds' es' : List D) (hl : ds.length = ds'.length) (hk : es.length = es'.length) (h : ∀ (i : Nat) (d e : D), ds[i]? = some d → ds'[i]? = some e → Le d e)
      (h' : ∀ (i : Nat) (d e : D), es[i]? = some d → es'[i]? = some e → Le d e) : Le (.fn f ds es) (.fn f ds' es')
  | trans (a b c : D) (h : Le a b) (k : Le b c) : Le a c

theorem Le.sound {d e : D} (h : Le d e) : ∀ {w : World} {M : Nat → Prop} {v : Value}, R w M v d → R w M v e := by
  induction h with
  | refl d => exact fun h => h
  | any d => exact fun _ => .any _
  | nil f s =>
    intro w M v h
    cases h
    exact R.sl none 0 f s [] default (fun _ _ => default) (by simp) (by simp) (by simp) (by simp) (by simp) (by simp) (by simp)
  | sl s es =>
    intro w M v h
    cases h with
    | sl A cap full size es ad vs hcap hfull hmax hsz hA hc hr => exact .sl A cap false s es ad vs hcap (by simp) hmax hsz hA hc hr
  | empty f f' s s' =>
    intro w M v h
    cases h with
    | sl A cap full size es ad vs hcap hfull hmax hsz hA hc hr =>
      exact .sl A cap _ s' [] ad vs hcap (by cases f <;> simp_all) hmax (by simp) (by simp) (by simp) (by simp)
  | agg ds es hl _ ih =>
    intro w M v h
    cases h with
    | agg cs ds hl' h =>
      refine .agg _ _ (by omega) (fun i v e hv he => ?_)
      have hi : i < ds.length := by rw [hl]; exact (List.getElem?_eq_some_iff.1 he).1
      exact ih i _ e (List.getElem?_eq_getElem hi) he (h i v _ hv (List.getElem?_eq_getElem hi))
  | tup ds es hl _ ih =>
    intro w M v h
    cases h with
    | tup cs ds hl' h =>
      refine .tup _ _ (by omega) (fun i v e hv he => ?_)
      have hi : i < ds.length := by rw [hl]; exact (List.getElem?_eq_some_iff.1 he).1
      exact ih i _ e (List.getElem?_eq_getElem hi) he (h i v _ hv (List.getElem?_eq_getElem hi))
  | rp ds es hl _ ih =>
    intro w M v h
    cases h with
    | rp ad ds vs hb hM hc hr =>
      have key : ∀ (j : Nat) (e : D), es[j]? = some e → ∃ d, ds[j]? = some d := fun j e he => by
        have hj : j < ds.length := by rw [hl]; exact (List.getElem?_eq_some_iff.1 he).1
        exact ⟨_, List.getElem?_eq_getElem hj⟩
      refine .rp ad es vs hb hM (fun j e he => ?_) (fun j e he => ?_)
      · obtain ⟨d, hd⟩ := key j e he; exact hc j d hd
      · obtain ⟨d, hd⟩ := key j e he; exact ih j d e hd he (hr j d hd)
  | key g g' b off => intro w M v h; cases h; exact .ref ..
  | keyo g g' A n cap => intro w M v h; cases h; exact .own ..
  | keym g g' r => intro w M v h; cases h; exact .mapr ..
  | fn f ds es ds' es' hl hk _ _ ih ih' =>
    intro w M v h
    cases h with
    | fn f first caps ds es hl' hk' h h' =>
      refine .fn f first caps ds' es' (by omega) (by omega) (fun i v e hv he => ?_) (fun i v e hv he => ?_)
      · have hi : i < ds.length := by rw [hl]; exact (List.getElem?_eq_some_iff.1 he).1
        exact ih i _ e (List.getElem?_eq_getElem hi) he (h i v _ hv (List.getElem?_eq_getElem hi))
      · have hi : i < es.length := by rw [hk]; exact (List.getElem?_eq_some_iff.1 he).1
        exact ih' i _ e (List.getElem?_eq_getElem hi) he (h' i v _ hv (List.getElem?_eq_getElem hi))
  | trans a b c _ _ ih ih' => exact fun h => ih' (ih h)

inductive LeL : List D → List D → Prop
  | nil : LeL [] []
  | cons {d e : D} {ds es : List D} (h : Le d e) (k : LeL ds es) : LeL (d :: ds) (e :: es)
theorem LeL.refl : ∀ ds : List D, LeL ds ds
  | [] => .nil
  | d :: ds => .cons (.refl d) (LeL.refl ds)
theorem LeL.len {ds es : List D} (h : LeL ds es) : ds.length = es.length := by
  induction h with
  | nil => rfl
  | cons _ _ ih => simp [ih]
theorem LeL.get {ds es : List D} (h : LeL ds es) : ∀ (i : Nat) (d e : D), ds[i]? = some d → es[i]? = some e → Le d e := by
  induction h with
  | nil => intro i d e h; simp at h
  | cons h _ ih =>
    intro i d e hd he
    cases i with
    | zero => simp at hd he; subst hd; subst he; exact h
    | succ i => simp at hd he; exact ih i d e hd he
theorem Le.aggs {ds es : List D} (h : LeL ds es) : Le (.agg ds) (.agg es) := .agg _ _ h.len h.get
theorem Le.rps {ds es : List D} (h : LeL ds es) : Le (.rp ds) (.rp es) := .rp _ _ h.len h.get
theorem Le.tups {ds es : List D} (h : LeL ds es) : Le (.tup ds) (.tup es) := .tup _ _ h.len h.get
theorem LeL.sound {ds es : List D} (h : LeL ds es) {w : World} {M : Nat → Prop} {vs : List Value} (hr : Rl w M vs ds) : Rl w M vs es := by
  refine ⟨hr.1.trans h.len, fun i v e hv he => ?_⟩
  have hi : i < ds.length := by rw [h.len]; exact (List.getElem?_eq_some_iff.1 he).1
  exact (h.get i _ e (List.getElem?_eq_getElem hi) he).sound (hr.2 i v _ hv (List.getElem?_eq_getElem hi))

end Go.Dw
