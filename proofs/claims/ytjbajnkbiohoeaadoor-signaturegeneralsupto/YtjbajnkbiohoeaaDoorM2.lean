/-
  Facts on the way to the statement of this claim: contracts of the program's functions and what they reckon. No condition beyond those that each theorem bears.
-/
import Derived.Test.YtjbajnkbiohoeaaDoorM1
import Derived.Test.YtjbajnkbiohoeaaDoorShelf
namespace Go.Proofs.YtjbajnkbiohoeaaDoor
open Go Go.Dw
def chars : List UInt8 := [46, 40, 41, 35, 32]
theorem dec_chars {k : Nat} (h : k < 5) : Utf8.decode ⟨chars.toArray⟩ k = ((chars.getD k 0).toNat, 1) := by
  have : k = 0 ∨ k = 1 ∨ k = 2 ∨ k = 3 ∨ k = 4 := by omega
  rcases this with rfl | rfl | rfl | rfl | rfl <;> decide +kernel
theorem chars_small {k : Nat} (h : k < 5) : (chars.getD k 0).toNat < 128 := by
  have : k = 0 ∨ k = 1 ∨ k = 2 ∨ k = 3 ∨ k = 4 := by omega
  rcases this with rfl | rfl | rfl | rfl | rfl <;> decide
theorem dec_pos (s : ByteArray) (i : Nat) : 1 ≤ (Utf8.decode s i).2 := by
  unfold Utf8.decode
  simp only
  repeat' split
  all_goals simp
theorem byte_hi {n : Nat} (h : n < 128) : 128 ≤ (UInt8.ofNat (128 + n)).toNat := by
  have : (UInt8.ofNat (128 + n)).toNat = 128 + n := by simp; omega
  omega
theorem enc_shape {c : Int} (h : 128 ≤ c) : ∃ (pre : List UInt8) (b : UInt8), (Utf8.encode c).data.toList = pre ++ [b] ∧ (pre.length = 1 ∨ pre.length = 2 ∨ pre.length = 3) ∧ 128 ≤ b.toNat := by
  have key : ∀ n : Nat, 128 ≤ n → ∃ (pre : List UInt8) (b : UInt8), (if n < 0x80 then (⟨#[UInt8.ofNat n]⟩ : ByteArray)
      else if n < 0x800 then ⟨#[UInt8.ofNat (0xC0 + n / 64), UInt8.ofNat (0x80 + n % 64)]⟩
      else if n < 0x10000 then ⟨#[UInt8.ofNat (0xE0 + n / 4096), UInt8.ofNat (0x80 + n / 64 % 64), UInt8.ofNat (0x80 + n % 64)]⟩
      else ⟨#[UInt8.ofNat (0xF0 + n / 262144), UInt8.ofNat (0x80 + n / 4096 % 64), UInt8.ofNat (0x80 + n / 64 % 64), UInt8.ofNat (0x80 + n % 64)]⟩).data.toList = pre ++ [b] ∧ (pre.length = 1 ∨ pre.length = 2 ∨ pre.length = 3) ∧ 128 ≤ b.toNat := by
    intro n hn
    have hb := byte_hi (n := n % 64) (by omega)
    rw [if_neg (by omega)]
    split
    · exact ⟨[_], _, rfl, .inl rfl, hb⟩
    · split
      · exact ⟨[_, _], _, rfl, .inr (.inl rfl), hb⟩
      · exact ⟨[_, _, _], _, rfl, .inr (.inr rfl), hb⟩
  have hr : 128 ≤ Utf8.runeError := by decide
  unfold Utf8.encode
  simp only
  split
  · exact key _ (by omega)
  · exact key _ hr
theorem noIndex {b : UInt8} (h : 128 ≤ b.toNat) {k : Nat} (hk : k ≤ 5) : Lib.indexByte (chars.drop k) b = -1 := by
  have e : ∀ x : UInt8, x.toNat < 128 → (x == b) = false := fun x hx => by
    rw [beq_eq_false_iff_ne]; rintro rfl; omega
  have : k = 0 ∨ k = 1 ∨ k = 2 ∨ k = 3 ∨ k = 4 ∨ k = 5 := by omega
  rcases this with rfl | rfl | rfl | rfl | rfl | rfl <;> simp [chars, Lib.indexByte, e]
theorem call26 (l : List UInt8) (c : Int) : CallR Tryd.prog [] 26 [.str l, .int .u8 c] [] (.int .i64 (Lib.indexByte l c.toNat.toUInt8)) := CallR.of_calls fun vs w M h => by
  obtain ⟨s, us, h1, h2, h3⟩ := Rl.strs h
  have : vs = #[.string s, .int .u8 c] := by
    rw [← Array.toList_inj, h1]
    cases us with
    | nil => have := h3.1; simp at this
    | cons u us =>
      have hu := h3.head
      cases hu
      cases us with
      | nil => rfl
      | cons _ _ => have := h3.1; simp at this
  subst this; subst h2
  exact (Tryd.strings_IndexByte s c w).mono fun e w' ⟨he, hw⟩ => ⟨_, he, hw ▸ Ext.refl _ _, .int _ _⟩
theorem call27 (c : Int) : CallR Tryd.prog [] 27 [.int .i32 c] [] (.bool (Lib.validRune c)) := CallR.of_calls fun vs w M h => by
  have : vs = #[.int .i32 c] := by
    rw [← Array.toList_inj]
    cases hv : vs.toList with
    | nil => rw [hv] at h; have := h.1; simp at this
    | cons u us =>
      rw [hv] at h
      have hu := h.head
      cases hu
      cases us with
      | nil => rfl
      | cons _ _ => have := h.1; simp at this
  subst this
  exact (Tryd.utf8_ValidRune c w).mono fun e w' ⟨he, hw⟩ => ⟨_, he, hw ▸ Ext.refl _ _, .bool _⟩
theorem call22a {c : Int} (h0 : 0 ≤ c) (h1 : c < 128) (l : List UInt8) : CallR Tryd.prog [] 22 [.str l, .int .i32 c] [] (.int .i64 (Lib.indexByte l c.toNat.toUInt8)) := CallR.of_calls fun vs w M h => by
  obtain ⟨s, us, e1, h2, h3⟩ := Rl.strs h
  have : vs = #[.string s, .int .i32 c] := by
    rw [← Array.toList_inj, e1]
    cases us with
    | nil => have := h3.1; simp at this
    | cons u us =>
      have hu := h3.head
      cases hu
      cases us with
      | nil => rfl
      | cons _ _ => have := h3.1; simp at this
  subst this; subst h2
  exact (Tryd.strings_IndexRune_ascii s c w h0 h1).mono fun e w' ⟨he, hw⟩ => ⟨_, he, hw ▸ Ext.refl _ _, .int _ _⟩
theorem call23 (n : Int) : CallR Tryd.prog [] 23 [.int .i64 n] [] (.bool (decide (8 < n))) := CallR.of_calls fun vs w M h => by
  have : vs = #[.int .i64 n] := by
    rw [← Array.toList_inj]
    cases hv : vs.toList with
    | nil => rw [hv] at h; have := h.1; simp at this
    | cons u us =>
      rw [hv] at h
      have hu := h.head
      cases hu
      cases us with
      | nil => rfl
      | cons _ _ => have := h.1; simp at this
  subst this
  exact (Tryd.strings_shouldUseASCIISet n w).mono fun e w' ⟨he, hw⟩ => ⟨_, he, hw ▸ Ext.refl _ _, .bool _⟩
theorem info59 : (Tryd.prog.info? 59).map (fun i => (i.zero, i.size)) = some (some (.agg (Array.replicate 256 (.bool false))), 256) := by kernel_rfl
theorem call21long {l : List UInt8} (h8 : 8 < l.length) (hl : l.length < 4294967281) : CallR Tryd.prog [] 21 [.str l, .str chars] [] (.int .i64 (Lib.indexAny l chars)) := CallR.of_calls fun vs w M h => by
  obtain ⟨s, us, e1, h2, h3⟩ := Rl.strs h
  obtain ⟨u, us', e2, h4, h5⟩ := Rl.strs (vs := us.toArray) (by simpa using h3)
  have : vs = #[.string s, .string u] := by
    rw [← Array.toList_inj, e1]
    have e3 : us = .string u :: us' := by simpa using e2
    rw [e3]
    cases us' with
    | nil => rfl
    | cons _ _ => have := h5.1; simp at this
  subst this; subst h2
  have hu : u.data.toList = chars := h4
  have hus : u.size = 5 := by show u.data.size = 5; rw [← Array.length_toList, hu]; rfl
  refine (Tryd.strings_IndexAny_long (zero_of_info info59).1 s u w (by omega) (by show 8 < s.data.size; simpa using h8) (by show s.data.size < _; simpa using hl) (by omega) (fun j b hb => ?_)).mono fun e w' ⟨he, hw⟩ => ⟨_, he, ?_, hu ▸ .int _ _⟩
  · rw [hu] at hb
    have hj : j < 5 := (List.getElem?_eq_some_iff.1 hb).1
    have := chars_small hj
    rw [List.getD, hb] at this
    exact this
  · subst hw
    exact (Ext.alloc w _).trans (Ext.alloc _ _)
end Go.Proofs.YtjbajnkbiohoeaaDoor

namespace Go.Proofs.YtjbajnkbiohoeaaDoor
open Go Go.Dw
structure Pr where
  cls : List UInt8
  ty : Ty
structure Sc where
  vars : Int
  preds : List Pr
  ty : Ty
def Pr.cells (p : Pr) : List D := .str p.cls :: p.ty.cells
def Sc.cells (s : Sc) : List D := .int .i64 s.vars :: .sl false 5 (s.preds.map Pr.cells) :: s.ty.cells
def tyD (t : Ty) : List D := [.int .i64 t.kind, .str t.name, .int .i64 t.var, .sl false 4 (Ty.cellsL t.args)]
theorem Pr.cells_eq (p : Pr) : p.cells = [.str p.cls, .int .i64 p.ty.kind, .str p.ty.name, .int .i64 p.ty.var, .sl false 4 (Ty.cellsL p.ty.args)] := by unfold Pr.cells; rw [Ty.cells_eq]
theorem Sc.cells_eq (s : Sc) : s.cells = [.int .i64 s.vars, .sl false 5 (s.preds.map Pr.cells), .int .i64 s.ty.kind, .str s.ty.name, .int .i64 s.ty.var, .sl false 4 (Ty.cellsL s.ty.args)] := by unfold Sc.cells; rw [Ty.cells_eq]
def Pr.ok (p : Pr) : Prop := p.ty.ok ∧ p.ty.wt ≤ 1000000000000 ∧ p.cls.length < 4294967281
def Sc.ok (s : Sc) : Prop := s.ty.ok ∧ s.ty.wt ≤ 1000000000000 ∧ s.preds.length ≤ 1000000000000 ∧ ∀ p ∈ s.preds, p.ok
theorem preds_at {ps pre suf : List Pr} {a : Pr} (h : ps = pre ++ a :: suf) : (ps.map Pr.cells).getD (Int.toNat (pre.length : Int)) [] = a.cells := by
  rw [h]; simp
end Go.Proofs.YtjbajnkbiohoeaaDoor

namespace Go.Proofs.YtjbajnkbiohoeaaDoor
open Go Go.Dw
def nd (f : Fd) : Prop := (f.map (·.1)).Nodup
theorem fget_none {v : Int} : ∀ {f : Fd}, fget f v = none ↔ v ∉ f.map (·.1)
  | [] => by simp [fget]
  | (k, t) :: r => by
    simp only [fget, List.map_cons, List.mem_cons, not_or]
    by_cases h : v = k
    · simp [h]
    · simp only [h, if_false, not_false_eq_true, true_and]; exact fget_none
theorem fget_mem {v : Int} {t : Ty} : ∀ {f : Fd}, nd f → (fget f v = some t ↔ (v, t) ∈ f)
  | [], _ => by simp [fget]
  | (k, u) :: r, h => by
    unfold nd at h
    simp only [List.map_cons, List.nodup_cons] at h
    have ih := fget_mem (v := v) (t := t) (f := r) h.2
    simp only [fget, List.mem_cons, Prod.mk.injEq]
    by_cases hk : v = k
    · subst hk
      simp only [if_true, Option.some.injEq, true_and]
      constructor
      · intro e; exact .inl e.symm
      · rintro (e | e)
        · exact e.symm
        · exact absurd (List.mem_map.2 ⟨_, e, rfl⟩) h.1
    · simp only [hk, if_false, false_and, false_or]; exact ih
theorem fget_perm {f g : Fd} (hf : nd f) (hg : nd g) (h : ∀ p, p ∈ f ↔ p ∈ g) (v : Int) : fget f v = fget g v := by
  cases hv : fget f v with
  | some t => exact ((fget_mem hg).2 ((h _).1 ((fget_mem hf).1 hv))).symm
  | none =>
    refine (fget_none.2 fun hm => ?_).symm
    obtain ⟨p, hp, e⟩ := List.mem_map.1 hm
    exact fget_none.1 hv (List.mem_map.2 ⟨p, (h p).2 hp, e⟩)
theorem nd_append {f : Fd} {v : Int} {t : Ty} (h : nd f) (hv : fget f v = none) : nd (f ++ [(v, t)]) := by
  unfold nd at *
  rw [List.map_append, List.nodup_append]
  refine ⟨h, by simp, fun a ha b hb => ?_⟩
  simp at hb
  subst hb
  rintro rfl
  exact fget_none.1 hv ha
theorem fget_append {f : Fd} {v : Int} {t : Ty} (w : Int) (hv : fget f v = none) : fget (f ++ [(v, t)]) w = if w = v then some t else fget f w := by
  induction f with
  | nil => simp only [List.nil_append, fget]
  | cons p f ih =>
    obtain ⟨k, u⟩ := p
    simp only [fget] at hv
    split at hv
    · cases hv
    · rename_i hk
      simp only [List.cons_append, fget, ih hv]
      by_cases h1 : w = k
      · subst h1; simp [Ne.symm hk]
      · simp [h1]
mutual
theorem inst_nd : ∀ (a b : Ty) (f : Fd), nd f → nd (inst a b f).2
  | .mk k n v l, b, f, hf => by
    unfold inst
    split
    · split
      · exact hf
      · rename_i h; exact nd_append hf h
    · split
      · exact hf
      · split
        · exact hf
        · exact instL_nd l b.args f hf
theorem instL_nd : ∀ (l s : List Ty) (f : Fd), nd f → nd (instL l s f).2
  | [], s, f, hf => by unfold instL; exact hf
  | a :: l, [], f, hf => by unfold instL; exact hf
  | a :: l, b :: s, f, hf => by
    simp only [instL]
    have h1 := inst_nd a b f hf
    split
    · exact instL_nd l s _ h1
    · exact h1
end
mutual
theorem inst_congr : ∀ (a b : Ty) (f g : Fd), (∀ v, fget f v = fget g v) → (inst a b f).1 = (inst a b g).1 ∧ ∀ v, fget (inst a b f).2 v = fget (inst a b g).2 v
  | .mk k n v l, b, f, g, h => by
    unfold inst
    split
    · rw [← h v]
      cases hv : fget f v with
      | some t => exact ⟨rfl, h⟩
      | none => exact ⟨rfl, fun w => by rw [fget_append w hv, fget_append w (by rw [← h]; exact hv), h w]⟩
    · split
      · exact ⟨rfl, h⟩
      · split
        · exact ⟨rfl, h⟩
        · exact instL_congr l b.args f g h
theorem instL_congr : ∀ (l s : List Ty) (f g : Fd), (∀ v, fget f v = fget g v) → (instL l s f).1 = (instL l s g).1 ∧ ∀ v, fget (instL l s f).2 v = fget (instL l s g).2 v
  | [], s, f, g, h => by unfold instL; exact ⟨rfl, h⟩
  | a :: l, [], f, g, h => by unfold instL; exact ⟨rfl, h⟩
  | a :: l, b :: s, f, g, h => by
    simp only [instL]
    obtain ⟨h1, h2⟩ := inst_congr a b f g h
    rw [← h1]
    split
    · exact instL_congr l s _ _ h2
    · exact ⟨rfl, h2⟩
end
/-- The matching of one predicate, with what is found so far. -/
def fitP (f : Fd) (p q : Pr) : Bool := decide (q.cls = p.cls) && (inst p.ty q.ty f).1
def gen (a b : Sc) : Bool := (inst a.ty b.ty []).1 && a.preds.all fun p => b.preds.any fun q => fitP (inst a.ty b.ty []).2 p q
theorem es_length (f : Fd) : (es f).length = f.length := by simp [es]
theorem es_get {f : Fd} {i : Nat} {p : D × D} (h : (es f)[i]? = some p) : ∃ k t, f[i]? = some (k, t) ∧ p = (.int .i64 k, .agg t.cells) := by
  unfold es at h
  rw [List.getElem?_map] at h
  cases hf : f[i]? with
  | none => rw [hf] at h; cases h
  | some x => rw [hf] at h; cases h; exact ⟨x.1, x.2, rfl, rfl⟩
/-- The entries that have been seen. -/
def pick (f : Fd) (seen : List Nat) : Fd := seen.filterMap fun i => f[i]?
theorem pick_snoc {f : Fd} {seen : List Nat} {i : Nat} {x : Int × Ty} (h : f[i]? = some x) : pick f (seen ++ [i]) = pick f seen ++ [x] := by simp [pick, h]
theorem pick_mem {f : Fd} {seen : List Nat} {x : Int × Ty} : x ∈ pick f seen ↔ ∃ i ∈ seen, f[i]? = some x := by simp [pick]
theorem key_inj {f : Fd} (h : nd f) {i j : Nat} {k : Int} {t u : Ty} (hi : f[i]? = some (k, t)) (hj : f[j]? = some (k, u)) : i = j := by
  have hi' : (f.map (·.1))[i]? = some k := by rw [List.getElem?_map, hi]; rfl
  have hj' : (f.map (·.1))[j]? = some k := by rw [List.getElem?_map, hj]; rfl
  have h1 := (List.getElem?_eq_some_iff.1 hi').1
  exact (List.getElem?_inj h1 h).1 (hi'.trans hj'.symm)
theorem pick_none {f : Fd} (h : nd f) {seen : List Nat} {i : Nat} {k : Int} {t : Ty} (hi : f[i]? = some (k, t)) (hs : i ∉ seen) : fget (pick f seen) k = none := by
  refine fget_none.2 fun hm => ?_
  obtain ⟨⟨k', u⟩, hp, e⟩ := List.mem_map.1 hm
  simp only at e
  subst e
  obtain ⟨j, hj, hfj⟩ := pick_mem.1 hp
  exact hs (key_inj h hi hfj ▸ hj)
theorem pick_all {f : Fd} (h : nd f) {seen : List Nat} (hn : nd (pick f seen)) (hall : ∀ i, i < f.length → i ∈ seen) (v : Int) : fget (pick f seen) v = fget f v :=
  fget_perm hn h (fun p => by
    rw [pick_mem]
    constructor
    · rintro ⟨i, _, hi⟩; exact List.mem_of_getElem? hi
    · intro hp
      obtain ⟨i, hi⟩ := List.mem_iff_getElem?.1 hp
      exact ⟨i, hall i (List.getElem?_eq_some_iff.1 hi).1, hi⟩) v
theorem pick_ok {f : Fd} (h : okF f) (seen : List Nat) : okF (pick f seen) := fun p hp => by
  obtain ⟨i, _, hi⟩ := pick_mem.1 hp
  exact h p (List.mem_of_getElem? hi)
end Go.Proofs.YtjbajnkbiohoeaaDoor

namespace Go.Proofs.YtjbajnkbiohoeaaDoor
open Go Go.Dw
def isDig (b : UInt8) : Prop := 48 ≤ b.toNat ∧ b.toNat < 58
theorem dig_dig {k : Nat} (h : k < 10) : isDig (UInt8.ofNat (48 + k)) ∧ (UInt8.ofNat (48 + k)).toNat = 48 + k := by
  have : (UInt8.ofNat (48 + k)).toNat = 48 + k := by simp; omega
  unfold isDig
  omega
theorem dec_dig : ∀ n : Nat, ∀ b ∈ dec n, isDig b := by
  intro n
  induction n using Nat.strongRecOn with
  | _ n ih =>
    intro b hb
    by_cases h : n < 10
    · rw [dec_small h, List.mem_singleton] at hb
      subst hb
      exact (dig_dig h).1
    · rw [dec_big h, dec_small (Nat.mod_lt n (by decide))] at hb
      rcases List.mem_append.1 hb with hb | hb
      · exact ih (n / 10) (by omega) b hb
      · rw [List.mem_singleton] at hb
        subst hb
        exact (dig_dig (Nat.mod_lt n (by decide : 0 < 10))).1
theorem dec_ne (n : Nat) : dec n ≠ [] := by
  by_cases h : n < 10
  · rw [dec_small h]; simp
  · rw [dec_big h, dec_small (Nat.mod_lt n (by decide))]; simp
theorem dec_inj : ∀ n m : Nat, dec n = dec m → n = m := by
  intro n
  induction n using Nat.strongRecOn with
  | _ n ih =>
    intro m h
    by_cases hn : n < 10 <;> by_cases hm : m < 10
    · rw [dec_small hn, dec_small hm] at h
      have h1 := (dig_dig hn).2
      have h2 := (dig_dig hm).2
      simp only [List.cons.injEq, and_true] at h
      rw [h] at h1
      omega
    · rw [dec_small hn, dec_big hm, dec_small (Nat.mod_lt m (by decide))] at h
      have h1 := congrArg List.length h
      have h2 : 0 < (dec (m / 10)).length := List.length_pos_iff.2 (dec_ne _)
      simp at h1
      exact absurd h1 (dec_ne _)
    · rw [dec_small hm, dec_big hn, dec_small (Nat.mod_lt n (by decide))] at h
      have h1 := congrArg List.length h
      simp at h1
      exact absurd h1 (dec_ne _)
    · rw [dec_big hn, dec_big hm, dec_small (Nat.mod_lt n (by decide)), dec_small (Nat.mod_lt m (by decide))] at h
      have h1 := List.append_inj' h rfl
      have h2 := ih (n / 10) (by omega) (m / 10) h1.1
      have h3 := (dig_dig (Nat.mod_lt n (by decide : 0 < 10))).2
      have h4 := (dig_dig (Nat.mod_lt m (by decide : 0 < 10))).2
      have h5 := h1.2
      simp only [List.cons.injEq, and_true] at h5
      rw [h5] at h3
      omega
theorem num_inj {a b : Int} (h : num a = num b) : a = b := by
  unfold num at h
  split at h <;> split at h
  · simp only [List.cons.injEq, true_and] at h
    have := dec_inj _ _ h; omega
  · have h1 := dec_dig b.natAbs 45 (by rw [← h]; simp)
    unfold isDig at h1; simp at h1
  · have h1 := dec_dig a.natAbs 45 (by rw [h]; simp)
    unfold isDig at h1; simp at h1
  · have := dec_inj _ _ h; omega
theorem num_low58 (n : Int) : ∀ b ∈ num n, b.toNat < 58 := by
  intro b hb
  unfold num at hb
  split at hb
  · rcases List.mem_cons.1 hb with rfl | hb
    · decide
    · exact (dec_dig _ b hb).2
  · exact (dec_dig _ b hb).2
/-- What stands before the first mark is told by the whole. -/
theorem split_mark {x y : List UInt8} {c d : UInt8} {u v : List UInt8} (hx : ∀ b ∈ x, b.toNat < 58) (hy : ∀ b ∈ y, b.toNat < 58) (hc : 58 ≤ c.toNat) (hd : 58 ≤ d.toNat) (h : x ++ c :: u = y ++ d :: v) : x = y ∧ c = d ∧ u = v := by
  induction x generalizing y with
  | nil =>
    cases y with
    | nil => simp at h; exact ⟨rfl, h.1, h.2⟩
    | cons b y =>
      simp at h
      have := hy b List.mem_cons_self
      rw [← h.1] at this; omega
  | cons a x ih =>
    cases y with
    | nil =>
      simp at h
      have := hx a List.mem_cons_self
      rw [h.1] at this; omega
    | cons b y =>
      simp at h
      obtain ⟨h1, h2, h3⟩ := ih (fun b hb => hx b (List.mem_cons_of_mem _ hb)) (fun b hb => hy b (List.mem_cons_of_mem _ hb)) h.2
      exact ⟨by rw [h.1, h1], h2, h3⟩
theorem textL_mark (l : List Ty) (u : List UInt8) : ∃ c r, Ty.textL l ++ 62 :: u = c :: r ∧ 58 ≤ c.toNat := by
  cases l with
  | nil => exact ⟨62, u, rfl, by decide⟩
  | cons a l => exact ⟨59, a.text ++ Ty.textL l ++ 62 :: u, by simp [Ty.textL], by decide⟩
mutual
theorem text_inj : ∀ (a b : Ty) (u v : List UInt8), a.text ++ u = b.text ++ v → same a b = true ∧ u = v
  | .mk k n x l, .mk k' n' x' l', u, v, h => by
    simp only [Ty.text, List.append_assoc, List.cons_append, List.nil_append] at h
    obtain ⟨h1, _, h2⟩ := split_mark (num_low58 k) (num_low58 k') (by decide) (by decide) h
    have hk := num_inj h1
    subst hk
    unfold same
    simp only [decide_true, Bool.true_and]
    by_cases h0 : k = 0
    · subst h0
      have ht : tag 0 = false := by decide
      simp only [if_true, ht, Bool.false_eq_true, if_false, List.nil_append] at h2
      obtain ⟨c, r, e1, hc⟩ := textL_mark l u
      obtain ⟨d, s, e2, hd⟩ := textL_mark l' v
      rw [e1, e2] at h2
      obtain ⟨g1, g2, g3⟩ := split_mark (num_low58 x) (num_low58 x') hc hd h2
      have hx := num_inj g1
      subst hx
      obtain ⟨g4, g5⟩ := textL_inj l l' u v (by rw [e1, e2, g2, g3])
      simp [g4, g5]
    · by_cases ht : tag k = true
      · simp only [if_neg h0, ht, if_true, List.nil_append, List.append_assoc, List.cons_append] at h2
        obtain ⟨g1, _, g3⟩ := split_mark (num_low58 _) (num_low58 _) (by decide) (by decide) h2
        have hlen := num_inj g1
        have hlen' : n.length = n'.length := by omega
        obtain ⟨g4, g5⟩ := List.append_inj g3 hlen'
        obtain ⟨g6, g7⟩ := textL_inj l l' u v g5
        simp [g4, g6, g7, h0]
      · have ht' : tag k = false := by simpa using ht
        simp only [if_neg h0, ht', Bool.false_eq_true, if_false, List.nil_append] at h2
        obtain ⟨g6, g7⟩ := textL_inj l l' u v h2
        unfold tag at ht'
        simp only [Bool.or_eq_false_iff, beq_eq_false_iff_ne] at ht'
        simp [g6, g7, h0, ht'.1, ht'.2]
theorem textL_inj : ∀ (l s : List Ty) (u v : List UInt8), Ty.textL l ++ 62 :: u = Ty.textL s ++ 62 :: v → sameL l s = true ∧ u = v
  | [], [], u, v, h => by simp [Ty.textL] at h; exact ⟨by simp [sameL], h⟩
  | [], b :: s, u, v, h => by simp [Ty.textL] at h
  | a :: l, [], u, v, h => by simp [Ty.textL] at h
  | a :: l, b :: s, u, v, h => by
    simp only [Ty.textL, List.append_assoc, List.cons_append, List.nil_append, List.cons.injEq, true_and] at h
    obtain ⟨h1, h2⟩ := text_inj a b _ _ h
    obtain ⟨h3, h4⟩ := textL_inj l s u v h2
    exact ⟨by simp [sameL, h1, h3], h4⟩
end
mutual
theorem text_same : ∀ (a b : Ty), same a b = true → a.text = b.text
  | .mk k n x l, .mk k' n' x' l', h => by
    unfold same at h
    simp only [Bool.and_eq_true, decide_eq_true_eq, Bool.or_eq_true] at h
    obtain ⟨⟨⟨h1, h2⟩, h3⟩, h4⟩ := h
    subst h1
    simp only [Ty.text, textL_same l l' h4]
    congr 3
    · congr 1
      by_cases h0 : k = 0
      · rw [if_pos h0, if_pos h0]
        rcases h2 with h2 | h2
        · exact absurd h0 h2
        · rw [h2]
      · rw [if_neg h0, if_neg h0]
    · by_cases ht : tag k = true
      · rw [if_pos ht, if_pos ht]
        rcases h3 with h3 | h3
        · unfold tag at ht
          simp only [Bool.or_eq_true, beq_iff_eq] at ht
          rcases ht with ht | ht
          · exact absurd ht h3.1
          · exact absurd ht h3.2
        · rw [h3]
      · rw [if_neg ht, if_neg ht]
theorem textL_same : ∀ (l s : List Ty), sameL l s = true → Ty.textL l = Ty.textL s
  | [], [], _ => rfl
  | [], b :: s, h => by simp [sameL] at h
  | a :: l, [], h => by simp [sameL] at h
  | a :: l, b :: s, h => by
    simp only [sameL, Bool.and_eq_true] at h
    simp only [Ty.textL, text_same a b h.1, textL_same l s h.2]
end
theorem text_eq_same (a b : Ty) : decide (a.text = b.text) = same a b := by
  cases h : same a b with
  | true => exact decide_eq_true (text_same a b h)
  | false =>
    refine decide_eq_false fun he => ?_
    have := (text_inj a b [] [] (by simp [he])).1
    rw [h] at this; cases this
theorem num_eq (a b : Int) : decide (num a = num b) = decide (a = b) := by
  by_cases h : a = b
  · simp [h]
  · rw [decide_eq_false h, decide_eq_false fun e => h (num_inj e)]
theorem fget_app {v : Int} {r : Fd} : ∀ {f : Fd}, fget f v = none → fget (f ++ r) v = fget r v
  | [], _ => rfl
  | (k, t) :: f, h => by
    simp only [fget] at h
    split at h
    · cases h
    · rename_i hk
      simp only [List.cons_append, fget, if_neg hk]
      exact fget_app h
theorem inst_fl {a b : Ty} {f : Fd} (h0 : ¬ a.kind = 0) (h : ¬ (a.args.length : Int) = b.args.length) : inst a b f = (false, f) := by
  rw [inst_eq, if_neg h0]
  split
  · rfl
  · unfold instA; rw [if_pos (by omega)]
def rowsF (f : Fd) : List (List D) := f.map fun p => [.str (num p.1), .str p.2.text]
theorem rowsF_length (f : Fd) : (rowsF f).length = f.length := by simp [rowsF]
theorem rowsF_append (f g : Fd) : rowsF (f ++ g) = rowsF f ++ rowsF g := by simp [rowsF]
theorem rowsF_one (f : Fd) : allOne (rowsF f) = true := by
  rw [allOne_iff]
  intro c hc d hd
  obtain ⟨p, _, rfl⟩ := List.mem_map.1 hc
  simp at hd
  rcases hd with rfl | rfl <;> rfl
theorem rowsF_drop {f pre suf : Fd} {v : Int} {t : Ty} (h : f = pre ++ (v, t) :: suf) : (rowsF f).flatten.drop (pre.length * 2) = .str (num v) :: .str t.text :: (rowsF suf).flatten := by
  rw [h, rowsF_append, List.flatten_append, List.drop_append]
  have hl : (rowsF pre).flatten.length = pre.length * 2 := by
    clear h
    induction pre with
    | nil => rfl
    | cons p pre ih => simp only [rowsF, List.map_cons, List.flatten_cons, List.length_append, List.length_cons, List.length_nil] at ih ⊢; omega
  rw [List.drop_eq_nil_of_le (by omega), hl, Nat.sub_self]
  rfl
theorem inst_len : ∀ (m : Nat) (a b : Ty) (f : Fd), a.wt ≤ m → (inst a b f).2.length ≤ f.length + a.wt := by
  intro m
  induction m using Nat.strongRecOn with
  | _ m ih =>
  intro a b f hm
  have hL : ∀ (l s : List Ty) (f : Fd), (∀ c ∈ l, c.wt < a.wt) → (instL l s f).2.length ≤ f.length + Ty.wtL l := by
    intro l
    induction l with
    | nil => intro s f _; unfold instL; simp [Ty.wtL]
    | cons c l ihl =>
      intro s f hc
      cases s with
      | nil => unfold instL; simp
      | cons d s =>
        simp only [instL, Ty.wtL]
        have h1 := ih c.wt (by have := hc c List.mem_cons_self; omega) c d f (Nat.le_refl _)
        split
        · have := ihl s (inst c d f).2 (fun e he => hc e (List.mem_cons_of_mem _ he)); omega
        · simp only; omega
  rw [inst_eq]
  have hw := a.wt_eq
  split
  · split <;> simp; omega
  · split
    · simp
    · unfold instA
      split
      · simp
      · have := hL a.args b.args f (fun c hc => wt_arg hc); omega
end Go.Proofs.YtjbajnkbiohoeaaDoor
