/-
  The twentieth part of a program logic over deep data: a region that draws its order: one walk in the order of the text serves every order, where the operations leave the store alone but for a last part that waits for all before it.
  It speaks of any program; no condition.
  The twenty-first part of a program logic over deep data: a region that draws its order, walked once.
  It speaks of any program that follows 'mixedOrders'.
-/
import Derived.Test.YtjbajnkbiohoeaaDoorDw5
namespace Go.Dw
open Go Go.RowKit

/-- What an operation waits for: a bit for each operation before it, transitively. -/
def maskOf (acc : List Nat) (o : Oper) : Nat := o.after.toList.foldl (fun s e => if Region.binds .any e then s ||| 2 ^ e.on ||| acc.getD e.on 0 else s) 0
def masks : List Oper → List Nat → List Nat
  | [], acc => acc
  | o :: r, acc => masks r (acc ++ [maskOf acc o])
/-- The slots that an operation looks at, and the one that it writes. -/
def Oper.sees (ops : Array Oper) (o : Oper) : List Tmp :=
  (o.op.operands.toList.filterMap fun | .tmp t => some t | _ => none) ++ (match o.guard with | some (j, _) => ((ops[j]?).bind (·.dst)).toList | none => [])
def waitsFor (ms : List Nat) (j i : Nat) : Bool := (ms.getD j 0).testBit i
/-- An operation that looks at slots alone and leaves the world as it is. -/
def floats (o : Oper) : Bool := o.guard.isNone && match o.op with | .move _ | .assign _ | .extract _ _ => true | _ => false
/-- It may be taken as soon as it may come up: no other operation meets it but those that wait for it. -/
def flo (l : List Oper) (i : Nat) : Bool := Region.noSelect l.toArray && match l[i]? with
  | some o => floats o && (List.range l.length).all fun j => j == i || waitsFor (masks l []) i j || match l[j]? with
      | some oj => oj.after.any (fun e => Region.binds .any e && e.on == i) || o.apart l.toArray oj
      | none => true
  | none => false
/-- Earlier edges only; operations that meet in a slot are ordered; from k on each waits for all before it (or that one floats). -/
def anyOk (l : List Oper) (k : Nat) : Bool :=
  let ms := masks l []
  let n := l.length
  (List.range n).all fun j =>
    match l[j]? with
    | none => true
    | some oj =>
      (oj.after.all fun e => !Region.binds .any e || decide (e.on < j)) &&
      (List.range j).all fun i =>
        match l[i]? with
        | none => true
        | some oi =>
          waitsFor ms j i || ((decide (j < k) || decide (i < k) && flo l i) && (match oi.dst with | some t => !(Oper.sees l.toArray oj).contains t && oj.dst != some t | none => true) && (match oj.dst with | some t => !(Oper.sees l.toArray oi).contains t | none => true))

/-- The slots of memory made anew in the first k operations are written once. -/
def allocOk (l : List Oper) (k : Nat) : Bool :=
  (List.range k).all fun i => match l[i]? with
    | some ⟨some s, .alloc _, _, _, _, none⟩ => (List.range k).all fun j => i == j || (match l[j]? with | some o => o.dst != some s | none => true)
    | _ => true
theorem allocOk_spec {l : List Oper} {k : Nat} (h : allocOk l k = true) {i j : Nat} {o o' : Oper} {t : TypeId} {s : Tmp} (hi : i < k) (hj : j < k) (ho : l[i]? = some o) (ho' : l[j]? = some o') (hop : o.op = .alloc t) (hg : o.guard = none)
    (hd : o.dst = some s) (hij : i ≠ j) : o'.dst ≠ some s := by
  have h1 := List.all_eq_true.1 h i (List.mem_range.2 hi)
  obtain ⟨d0, op0, ty0, p0, a0, g0⟩ := o
  simp only at hop hg hd
  subst hop hg hd
  rw [ho] at h1
  simp only at h1
  have h2 := List.all_eq_true.1 h1 j (List.mem_range.2 hj)
  rw [ho'] at h2
  simp only [Bool.or_eq_true, beq_iff_eq, bne_iff_ne] at h2
  rcases h2 with h2 | h2
  · exact absurd h2 hij
  · exact h2

theorem foldl_mask (acc : List Nat) (i : Nat) : ∀ (es : List Edge) (s : Nat), (es.foldl (fun s e => if Region.binds .any e then s ||| 2 ^ e.on ||| acc.getD e.on 0 else s) s).testBit i = true →
    s.testBit i = true ∨ ∃ e ∈ es, Region.binds .any e = true ∧ (e.on = i ∨ (acc.getD e.on 0).testBit i = true)
  | [], s, h => .inl h
  | e :: es, s, h => by
    simp only [List.foldl_cons] at h
    rcases foldl_mask acc i es _ h with h | ⟨e', h1, h2⟩
    · split at h
      · rename_i hb
        simp only [Nat.testBit_or, Bool.or_eq_true] at h
        rcases h with (h | h) | h
        · exact .inl h
        · refine .inr ⟨e, List.mem_cons_self, hb, .inl ?_⟩
          rw [Nat.testBit_two_pow] at h
          simpa using h
        · exact .inr ⟨e, List.mem_cons_self, hb, .inr h⟩
      · exact .inl h
    · exact .inr ⟨e', List.mem_cons_of_mem _ h1, h2⟩

/-- Whoever is listed has all that it waits for listed. -/
def Closed (l : List Oper) (L : Nat → Bool) : Prop := ∀ j o, l[j]? = some o → L j = true → ∀ e ∈ o.after, Region.binds .any e = true → L e.on = true

theorem masks_good (l : List Oper) {L : Nat → Bool} (hL : Closed l L) : ∀ (r pre : List Oper) (acc : List Nat), l = pre ++ r → acc.length = pre.length →
    (∀ j o, pre[j]? = some o → (∀ e ∈ o.after, Region.binds .any e = true → L e.on = true) → ∀ i, waitsFor acc j i = true → L i = true) →
    ∀ j o, l[j]? = some o → (∀ e ∈ o.after, Region.binds .any e = true → L e.on = true) → ∀ i, waitsFor (masks r acc) j i = true → L i = true
  | [], pre, acc, hl, _, h => by
    intro j o hj
    rw [hl, List.append_nil] at hj
    exact h j o hj
  | o :: r, pre, acc, hl, hlen, h => by
    refine masks_good l hL r (pre ++ [o]) (acc ++ [maskOf acc o]) (by simp [hl]) (by simp [hlen]) ?_
    intro j oj hj he i hw
    unfold waitsFor at hw
    rcases Nat.lt_or_ge j pre.length with hlt | hge
    · rw [List.getElem?_append_left hlt] at hj
      refine h j oj hj he i ?_
      unfold waitsFor
      rw [List.getD, List.getElem?_append_left (by omega)] at hw
      exact hw
    · have hjp : j = pre.length := by
        have := (List.getElem?_eq_some_iff.1 hj).1
        simp at this; omega
      subst hjp
      simp at hj
      subst hj
      have : (acc ++ [maskOf acc o]).getD pre.length 0 = maskOf acc o := by rw [← hlen]; simp [List.getD]
      rw [this] at hw
      rcases foldl_mask acc i _ _ hw with h0 | ⟨e, h1, h2, h3⟩
      · simp at h0
      · have hle := he e (by simpa using h1) h2
        rcases h3 with rfl | h3
        · exact hle
        · -- e.on is an earlier operation, listed; so what it waits for is listed
          rcases Nat.lt_or_ge e.on pre.length with hlt | hge'
          · have hpe : pre[e.on]? = some pre[e.on] := List.getElem?_eq_getElem hlt
            have hle' : l[e.on]? = some pre[e.on] := by rw [hl, List.getElem?_append_left hlt, hpe]
            exact h e.on _ hpe (hL e.on _ hle' hle) i h3
          · have hno : acc.getD e.on 0 = 0 := by simp [List.getD, List.getElem?_eq_none (show acc.length ≤ e.on by omega)]
            rw [hno] at h3
            simp at h3


section
variable {P : Program} {E : Env} {K : St → Prop}

/-- The first k operations, each of which leaves the store alone, in the order of the text. -/
def opsN (P : Program) (E : Env) (ops : Array Oper) : List Oper → St → (St → Prop) → Prop
  | [], φ, K => K φ
  | o :: r, φ, K => match o.guard with
    | none => match o.op with
      | .alloc t => withO (zeroOf P t) fun _ => okDst φ.N o.dst ∧ opsN P E ops r { φ with fr := putF o.dst .any φ.fr } K
      | op => stepN P E.G φ.st (ev E.G φ.fr) op fun d => okDst φ.N o.dst ∧ opsN P E ops r { φ with fr := putF o.dst d φ.fr } K
    | some (j, want) => withO ((ops[j]?).bind (·.dst)) fun t => withO (look t φ.fr) fun d =>
      match d with
      | .bool b => gsplit want b (stepN P E.G φ.st (ev E.G φ.fr) o.op fun d => okDst φ.N o.dst ∧ opsN P E ops r { φ with fr := putF o.dst d φ.fr } K)
          (okDst φ.N o.dst ∧ opsN P E ops r { φ with fr := putF o.dst (.tup []) φ.fr } K)
      | .tup [] => okDst φ.N o.dst ∧ opsN P E ops r { φ with fr := putF o.dst (.tup []) φ.fr } K
      | _ => False

/-- Operation o, seen from frame fr, gives d. -/
def Gives (P : Program) (E : Env) (ops : Array Oper) (N : Nat) (S : List (Nat × O)) (fr : List (Nat × D)) (o : Oper) (d : D) : Prop :=
  okDst N o.dst ∧
  ((Neu P E.G S (ev E.G fr) o d ∧ (∀ t, o.op = .alloc t → o.guard ≠ none) ∧ (o.guard = none ∨ ∃ j want t, o.guard = some (j, want) ∧ (ops[j]?).bind (·.dst) = some t ∧ look t fr = some (.bool want))) ∨
   (d = .any ∧ o.guard = none ∧ ∃ t zs, o.op = .alloc t ∧ zeroOf P t = some zs) ∨
   (d = .tup [] ∧ ∃ j want t, o.guard = some (j, want) ∧ (ops[j]?).bind (·.dst) = some t ∧ (look t fr = some (.bool !want) ∨ look t fr = some (.tup []))))

/-- The frames of the walk in the order of the text. -/
def frames (fr : List (Nat × D)) : List (Oper × D) → List (Nat × D)
  | [] => fr
  | (o, d) :: r => frames (putF o.dst d fr) r

theorem opsN_gives {ops : Array Oper} : ∀ (l : List Oper) (φ : St), opsN P E ops l φ K → ∃ ds : List D, ds.length = l.length ∧ K { φ with fr := frames φ.fr (l.zip ds) } ∧
    ∀ i o d, l[i]? = some o → ds[i]? = some d → Gives P E ops φ.N φ.st (frames φ.fr ((l.zip ds).take i)) o d
  | [], φ, h => ⟨[], rfl, h, fun i o d h => by simp at h⟩
  | o :: r, φ, h => by
    have cons : ∀ d, Gives P E ops φ.N φ.st φ.fr o d → opsN P E ops r { φ with fr := putF o.dst d φ.fr } K → ∃ ds : List D, ds.length = (o :: r).length ∧ K { φ with fr := frames φ.fr ((o :: r).zip ds) } ∧
        ∀ i o' d, (o :: r)[i]? = some o' → ds[i]? = some d → Gives P E ops φ.N φ.st (frames φ.fr (((o :: r).zip ds).take i)) o' d := by
      intro d hg hn
      obtain ⟨ds, h1, h2, h3⟩ := opsN_gives r _ hn
      refine ⟨d :: ds, by simp [h1], h2, fun i o' e ho he => ?_⟩
      cases i with
      | zero => simp at ho he; subst ho; subst he; exact hg
      | succ i => exact h3 i o' e (by simpa using ho) (by simpa using he)
    obtain ⟨Gp, hGp⟩ : ∃ Gp : Prop, Gp = (∃ ds : List D, ds.length = (o :: r).length ∧ K { φ with fr := frames φ.fr ((o :: r).zip ds) } ∧
        ∀ i o' d, (o :: r)[i]? = some o' → ds[i]? = some d → Gives P E ops φ.N φ.st (frames φ.fr (((o :: r).zip ds).take i)) o' d) := ⟨_, rfl⟩
    rw [← hGp] at cons ⊢
    simp only [opsN] at h
    cases hgd : o.guard with
    | none =>
      rw [hgd] at h
      simp only at h
      split at h
      · rename_i t hop
        obtain ⟨zs, hz, h⟩ := withO_elim h
        exact cons .any ⟨h.1, .inr (.inl ⟨rfl, hgd, t, zs, hop, hz⟩)⟩ h.2
      · rename_i hop
        obtain ⟨d, h1, h2, h3⟩ := stepN_sound h
        exact cons d ⟨h2, .inl ⟨h1, fun t ht => (hop t ht).elim, .inl hgd⟩⟩ h3
    | some p =>
      obtain ⟨j, want⟩ := p
      rw [hgd] at h
      obtain ⟨t, ht, h⟩ := withO_elim h
      obtain ⟨d, hd, h⟩ := withO_elim h
      have hstep : d = .bool want → (stepN P E.G φ.st (ev E.G φ.fr) o.op fun d => okDst φ.N o.dst ∧ opsN P E ops r { φ with fr := putF o.dst d φ.fr } K) → Gp := fun hw hh => by
        obtain ⟨e, h1, h2, h3⟩ := stepN_sound hh
        exact cons e ⟨h2, .inl ⟨h1, fun _ _ => by rw [hgd]; simp, .inr ⟨j, want, t, hgd, ht, by rw [hd, hw]⟩⟩⟩ h3
      have hskip : (d = .bool (!want) ∨ d = .tup []) → (okDst φ.N o.dst ∧ opsN P E ops r { φ with fr := putF o.dst (.tup []) φ.fr } K) → Gp := fun hw ⟨h2, h3⟩ =>
        cons (.tup []) ⟨h2, .inr (.inr ⟨rfl, j, want, t, hgd, ht, by rcases hw with hw | hw <;> rw [hd, hw] <;> simp⟩)⟩ h3
      split at h
      · rename_i b
        cases want <;> simp only [gsplit, split] at h <;> cases b
        · exact hstep rfl (h.2 rfl)
        · exact hskip (.inl rfl) (h.1 rfl)
        · exact hskip (.inl rfl) (h.2 rfl)
        · exact hstep rfl (h.1 rfl)
      · exact hskip (.inr rfl) h
      · exact h.elim

theorem look_putF {dst : Option Tmp} {d : D} {fr : List (Nat × D)} {t : Nat} : look t (putF dst d fr) = if dst = some t then some d else look t fr := by
  cases dst with
  | none => simp [putF]
  | some s => simp [putF, look]

/-- What the frame holds in slot t: the last writer's value. -/
theorem look_frames (t : Nat) : ∀ (l : List (Oper × D)) (fr : List (Nat × D)) (d : D), look t (frames fr l) = some d →
    (∃ (j : Nat) (o : Oper), l[j]? = some (o, d) ∧ o.dst = some t ∧ ∀ (j' : Nat) (o' : Oper) (d' : D), j < j' → l[j']? = some (o', d') → o'.dst ≠ some t) ∨ ((∀ (j : Nat) (o : Oper) (d' : D), l[j]? = some (o, d') → o.dst ≠ some t) ∧ look t fr = some d)
  | [], fr, d, h => .inr ⟨fun j o d' h => by simp at h, h⟩
  | (o, e) :: l, fr, d, h => by
    simp only [frames] at h
    rcases look_frames t l _ d h with ⟨j, o', h1, h2, h3⟩ | ⟨h1, h2⟩
    · refine .inl ⟨j + 1, o', by simpa using h1, h2, fun j' o'' d' hj hl => ?_⟩
      cases j' with
      | zero => omega
      | succ j' => exact h3 j' o'' d' (by omega) (by simpa using hl)
    · rw [look_putF] at h2
      split at h2
      · rename_i hd
        cases h2
        refine .inl ⟨0, o, rfl, hd, fun j' o'' d' hj hl => ?_⟩
        cases j' with
        | zero => omega
        | succ j' => exact h1 j' o'' d' (by simpa using hl)
      · rename_i hd
        refine .inr ⟨fun j o' d' hl => ?_, h2⟩
        cases j with
        | zero => simp at hl; rw [← hl.1]; exact hd
        | succ j => exact h1 j o' d' (by simpa using hl)

/-- What slot t holds once the operations of L have been carried out. -/
def Cur (fr : List (Nat × D)) (l : List (Oper × D)) (L : Nat → Bool) (t : Nat) (d : D) : Prop :=
  (∃ (i : Nat) (o : Oper), l[i]? = some (o, d) ∧ L i = true ∧ o.dst = some t ∧ ∀ (j : Nat) (o' : Oper) (d' : D), i < j → l[j]? = some (o', d') → L j = true → o'.dst ≠ some t) ∨
  ((∀ (j : Nat) (o' : Oper) (d' : D), l[j]? = some (o', d') → L j = true → o'.dst ≠ some t) ∧ look t fr = some d)

theorem Oper.sees_tmp {ops : Array Oper} {o : Oper} {t : Nat} (h : Operand.tmp t ∈ o.op.operands.toList) : t ∈ Oper.sees ops o := by
  unfold Oper.sees
  exact List.mem_append.2 (.inl (List.mem_filterMap.2 ⟨_, h, rfl⟩))
theorem Oper.sees_guard {ops : Array Oper} {o : Oper} {j t : Nat} {want : Bool} (h : o.guard = some (j, want)) (ht : (ops[j]?).bind (·.dst) = some t) : t ∈ Oper.sees ops o := by
  unfold Oper.sees
  rw [h]
  simp only [ht]
  exact List.mem_append.2 (.inr (by simp))

structure Ordered (l : List Oper) (k : Nat) : Prop where
  edge : ∀ j o, l[j]? = some o → ∀ e ∈ o.after, Region.binds .any e = true → e.on < j
  meet : ∀ i j oi oj t, i < j → l[i]? = some oi → l[j]? = some oj → (oi.dst = some t ∧ (t ∈ Oper.sees l.toArray oj ∨ oj.dst = some t) ∨ oj.dst = some t ∧ t ∈ Oper.sees l.toArray oi) → waitsFor (masks l []) j i = true
  tail : ∀ i j, i < j → j < l.length → k ≤ j → waitsFor (masks l []) j i = true ∨ (i < k ∧ flo l i = true)

theorem anyOk_spec {l : List Oper} {k : Nat} (h : anyOk l k = true) : Ordered l k := by
  have key : ∀ j oj, l[j]? = some oj → (oj.after.all fun e => !Region.binds .any e || decide (e.on < j)) = true ∧ ∀ i oi, i < j → l[i]? = some oi →
      waitsFor (masks l []) j i = true ∨ ((j < k ∨ i < k ∧ flo l i = true) ∧ (match oi.dst with | some t => !(Oper.sees l.toArray oj).contains t && oj.dst != some t | none => true) = true ∧ (match oj.dst with | some t => !(Oper.sees l.toArray oi).contains t | none => true) = true) := by
    intro j oj hj
    unfold anyOk at h
    have hlt := (List.getElem?_eq_some_iff.1 hj).1
    have := List.all_eq_true.1 h j (List.mem_range.2 hlt)
    simp only [hj, Bool.and_eq_true] at this
    refine ⟨this.1, fun i oi hi hoi => ?_⟩
    have h2 := List.all_eq_true.1 this.2 i (List.mem_range.2 hi)
    simp only [hoi, Bool.or_eq_true, Bool.and_eq_true, decide_eq_true_eq] at h2
    rcases h2 with h2 | ⟨⟨h2, h3⟩, h4⟩
    · exact .inl h2
    · exact .inr ⟨h2, h3, h4⟩
  refine ⟨fun j o hj e he hb => ?_, fun i j oi oj t hij hi hj hm => ?_, fun i j hij hj hk => ?_⟩
  · have := (key j o hj).1
    rw [Array.all_eq_true_iff_forall_mem] at this
    have h2 := this e he
    simpa [hb] using h2
  · rcases (key j oj hj).2 i oi hij hi with h1 | ⟨_, h2, h3⟩
    · exact h1
    · exfalso
      rcases hm with ⟨ht, hm⟩ | ⟨ht, hm⟩
      · rw [ht] at h2
        simp only [Bool.and_eq_true, Bool.not_eq_true', List.contains_eq_mem, decide_eq_false_iff_not, bne_iff_ne] at h2
        rcases hm with hm | hm
        · exact h2.1 hm
        · exact h2.2 hm
      · rw [ht] at h3
        simp only [Bool.not_eq_true', List.contains_eq_mem, decide_eq_false_iff_not] at h3
        exact h3 hm
  · have hi : i < l.length := by omega
    rcases (key j _ (List.getElem?_eq_getElem hj)).2 i _ hij (List.getElem?_eq_getElem hi) with h1 | ⟨h1, _⟩
    · exact .inl h1
    · rcases h1 with h1 | h1
      · omega
      · exact .inr h1

end
end Go.Dw

namespace Go.Dw
open Go Go.RowKit

section
variable {P : Program} {E : Env} {K : St → Prop}

/-- One operation of opsD, wherever it comes up. -/
theorem opD_wp {ops : Array Oper} {o : Oper} {r : List Oper} {φ : St} {a : Act} {w : World} (h : opsD P E ops (o :: r) φ K) (hs : Sig E φ a w) {next : Act → World → Prop} {Q : Exit → Act → World → Prop}
    (hn : ∀ φ' a' w', opsD P E ops r φ' K → Sig E φ' a' w' → next a' w') :
    if Region.wanted o (yielded ops a.tmps) then o.wp P a w next Q ∨ (o.asks P a w ∧ LetsOut Q) else next (a.put o.dst undef) w := by
  simp only [opsD] at h
  cases hg : o.guard with
  | none =>
    rw [hg] at h
    rw [if_pos (by simp [Region.wanted, hg])]
    exact .inl (stepD_wp h hs hn)
  | some p =>
    obtain ⟨j, want⟩ := p
    rw [hg] at h
    obtain ⟨t, ht, h⟩ := withO_elim h
    obtain ⟨d, hd, h⟩ := withO_elim h
    have hr := hs.fr t d hd
    have hy : yielded ops a.tmps j = match a.tmps[t]? with | some (.bool b) => some b | _ => none := by
      simp only [yielded, ht, Option.bind_some]
      cases a.tmps[t]? with
      | none => rfl
      | some v => cases v <;> rfl
    have hskip : Region.wanted o (yielded ops a.tmps) = false → (okDst φ.N o.dst ∧ opsD P E ops r { φ with fr := putF o.dst (.tup []) φ.fr } K) →
        if Region.wanted o (yielded ops a.tmps) then o.wp P a w next Q ∨ (o.asks P a w ∧ LetsOut Q) else next (a.put o.dst undef) w := by
      intro hw ⟨h1, h2⟩
      rw [hw]
      exact hn _ _ _ h2 (hs.put (Ext.refl Non w) R_undef h1)
    have hstep : Region.wanted o (yielded ops a.tmps) = true → (stepD P E o φ fun φ' => opsD P E ops r φ' K) →
        if Region.wanted o (yielded ops a.tmps) then o.wp P a w next Q ∨ (o.asks P a w ∧ LetsOut Q) else next (a.put o.dst undef) w := by
      intro hw h1
      rw [if_pos hw]
      exact .inl (stepD_wp h1 hs hn)
    split at h
    · rename_i b
      generalize hv : a.tmps.getD t undef = v at hr
      cases hr
      have ht' := getD_some hv (by simp [undef])
      rw [ht'] at hy
      simp only at hy
      cases want with
      | true =>
        simp only [gsplit, split] at h
        cases b with
        | true => exact hstep (by simp [Region.wanted, hg, hy]) (h.1 rfl)
        | false => exact hskip (by simp [Region.wanted, hg, hy]) (h.2 rfl)
      | false =>
        simp only [gsplit, split] at h
        cases b with
        | true => exact hskip (by simp [Region.wanted, hg, hy]) (h.1 rfl)
        | false => exact hstep (by simp [Region.wanted, hg, hy]) (h.2 rfl)
    · generalize hv : a.tmps.getD t undef = v at hr
      cases hr with
      | tup cs ds hl _ =>
        have hcs : cs = #[] := by rw [← Array.size_eq_zero_iff, hl]; rfl
        subst hcs
        refine hskip ?_ h
        have : yielded ops a.tmps j = none := by
          rw [hy]
          rw [Array.getD_eq_getD_getElem?] at hv
          cases ht' : a.tmps[t]? with
          | none => rfl
          | some u => simp [ht'] at hv; subst hv; rfl
        simp [Region.wanted, hg, this]
    · exact h.elim

def Lst (listed : Array Bool) (i : Nat) : Bool := listed.getD i false

theorem Lst_set {listed : Array Bool} {i j : Nat} (hi : i < listed.size) : Lst (listed.setIfInBounds i true) j = if i = j then true else Lst listed j := by
  unfold Lst
  by_cases h : i = j
  · subst h; simp [hi]
  · rw [if_neg h]; exact getD_set_ne false h
theorem unl_iff {listed : Array Bool} {n i : Nat} (hn : listed.size = n) (hi : i < n) : listed.getD i true = false ↔ Lst listed i = false := by
  unfold Lst
  subst hn
  simp [hi]

theorem closed_set {l : List Oper} {listed : Array Bool} {i : Nat} {o : Oper} (hi : i < listed.size) (ho : l[i]? = some o) (hL : Closed l (Lst listed)) (he : ∀ e ∈ o.after, Region.binds .any e = true → listed.getD e.on false = true) :
    Closed l (Lst (listed.setIfInBounds i true)) := by
  intro j oj hj hl e he' hb
  rw [Lst_set hi] at hl ⊢
  split
  · rfl
  · by_cases hij : i = j
    · subst hij
      rw [ho] at hj
      cases hj
      exact he e he' hb
    · rw [if_neg hij] at hl
      exact hL j oj hj hl e he' hb

/-- The last part, in order. -/
theorem any_tail {l : List Oper} {k : Nat} (hO : Ordered l k) {Q : Exit → Act → World → Prop} (hQ : ∀ φ' a' w', K φ' → Sig E φ' a' w' → Q .normal a' w') :
    ∀ (fuel : Nat) (listed : Array Bool) (a : Act) (w : World) (m : Nat) (φ : St), listed.size = l.length → k ≤ m → m + fuel = l.length → (∀ i, i < l.length → (Lst listed i = true ↔ i < m)) → Closed l (Lst listed) →
      opsD P E l.toArray (l.drop m) φ K → Sig E φ a w → wpAny P .any l.toArray Q fuel listed a w := by
  intro fuel
  induction fuel with
  | zero =>
    intro listed a w m φ hsz hkm hm hL hC h hs
    have hnil : Region.ready .any l.toArray listed = [] := by
      apply List.eq_nil_iff_forall_not_mem.2
      intro j hj
      obtain ⟨h0, o, ho, _⟩ := mem_ready.1 hj
      have hjl : j < l.length := by simpa using (Array.getElem?_eq_some_iff.1 ho).1
      have h2 := (unl_iff hsz hjl).1 h0
      rw [(hL j hjl).2 (by omega)] at h2
      cases h2
    refine ⟨hnil, hQ φ a w ?_ hs⟩
    rw [List.drop_eq_nil_of_le (by omega)] at h
    exact h
  | succ fuel ih =>
    intro listed a w m φ hsz hkm hm hL hC h hs
    have hml : m < l.length := by omega
    have hmr : m ∈ Region.ready .any l.toArray listed := by
      refine mem_ready.2 ⟨(unl_iff hsz hml).2 ?_, l[m], by simp [hml], fun e he hb => ?_⟩
      · cases hb : Lst listed m with
        | false => rfl
        | true => have := (hL m hml).1 hb; omega
      · have h1 := hO.edge m _ (List.getElem?_eq_getElem hml) e he hb
        exact (hL e.on (by omega)).2 h1
    refine ⟨fun h0 => (by rw [h0] at hmr; cases hmr), fun j hj => ?_⟩
    obtain ⟨h0, o, ho, he⟩ := mem_ready.1 hj
    have hjl : j < l.length := by simpa using (Array.getElem?_eq_some_iff.1 ho).1
    have hju := (unl_iff hsz hjl).1 h0
    have hjm : j = m := by
      rcases Nat.lt_trichotomy j m with h1 | h1 | h1
      · rw [(hL j hjl).2 h1] at hju; cases hju
      · exact h1
      · have h2 := (hO.tail m j h1 hjl (by omega)).resolve_right (fun h => by omega)
        have h3 := masks_good l hC l [] [] rfl rfl (fun j o h => by simp at h) j o (by simpa using ho) he m h2
        have := (hL m hml).1 h3
        omega
    subst hjm
    have hol : l[j]? = some o := by simpa using ho
    have hdrop : l.drop j = o :: l.drop (j + 1) := by
      rw [List.drop_eq_getElem_cons hjl]
      congr 1
      rw [List.getElem?_eq_getElem hjl] at hol
      exact Option.some.inj hol
    rw [hdrop] at h
    unfold wpOp
    simp only [ho]
    refine opD_wp h hs fun φ' a' w' h' hs' => ?_
    refine ih _ a' w' (j + 1) φ' (by simpa using hsz) (by omega) (by omega) (fun i hi => ?_) (closed_set (by omega) hol hC he) h' hs'
    rw [Lst_set (by omega)]
    by_cases hij : j = i
    · subst hij; simp
    · rw [if_neg hij, hL i hi]; omega

/-- What the frame of the text's order holds in a slot that the next operation names is what is there now. -/
theorem cur_of_frames {l : List Oper} {k : Nat} (hO : Ordered l k) {ds : List D} (hds : ds.length = (l.take k).length) {fr : List (Nat × D)} {L : Nat → Bool} (hC : Closed l L) (hLk : ∀ i, L i = true → i < k) {i : Nat} {o : Oper}
    (ho : l[i]? = some o) (hun : L i = false) (he : ∀ e ∈ o.after, Region.binds .any e = true → L e.on = true) {t : Nat} (ht : t ∈ Oper.sees l.toArray o ∨ o.dst = some t) {d : D}
    (h : look t (frames fr (((l.take k).zip ds).take i)) = some d) : Cur fr ((l.take k).zip ds) L t d := by
  have hzip : ∀ j o' d', ((l.take k).zip ds)[j]? = some (o', d') → l[j]? = some o' ∧ j < k := by
    intro j o' d' hj
    have h1 := (List.getElem?_zip_eq_some.1 hj).1
    rw [List.getElem?_take] at h1
    split at h1
    · exact ⟨h1, by assumption⟩
    · cases h1
  have before : ∀ j o', j < i → l[j]? = some o' → o'.dst = some t → L j = true := by
    intro j o' hj hl hd
    have hw := hO.meet j i o' o t hj hl ho (.inl ⟨hd, ht⟩)
    exact masks_good l hC l [] [] rfl rfl (fun j o h => by simp at h) i o ho he j hw
  have after : ∀ j o', i < j → l[j]? = some o' → o'.dst = some t → L j = true → False := by
    intro j o' hj hl hd hLj
    have hw := hO.meet i j o o' t hj ho hl (by
      rcases ht with ht | ht
      · exact .inr ⟨hd, ht⟩
      · exact .inl ⟨ht, .inr hd⟩)
    have := masks_good l hC l [] [] rfl rfl (fun j o h => by simp at h) j o' hl (hC j o' hl hLj) i hw
    rw [hun] at this
    cases this
  rcases look_frames t _ fr d h with ⟨j, o', h1, h2, h3⟩ | ⟨h1, h2⟩
  · rw [List.getElem?_take] at h1
    split at h1
    · rename_i hji
      obtain ⟨hl, hjk⟩ := hzip j o' d h1
      refine .inl ⟨j, o', h1, before j o' hji hl h2, h2, fun j' o'' d' hjj hj' hLj' hd' => ?_⟩
      obtain ⟨hl', _⟩ := hzip j' o'' d' hj'
      rcases Nat.lt_trichotomy j' i with h5 | h5 | h5
      · exact h3 j' o'' d' hjj (by rw [List.getElem?_take, if_pos h5]; exact hj') hd'
      · subst h5; rw [hun] at hLj'; cases hLj'
      · exact after j' o'' h5 hl' hd' hLj'
    · cases h1
  · refine .inr ⟨fun j' o'' d' hj' hLj' hd' => ?_, h2⟩
    obtain ⟨hl', _⟩ := hzip j' o'' d' hj'
    rcases Nat.lt_trichotomy j' i with h5 | h5 | h5
    · exact h1 j' o'' d' (by rw [List.getElem?_take, if_pos h5]; exact hj') hd'
    · subst h5; rw [hun] at hLj'; cases hLj'
    · exact after j' o'' h5 hl' hd' hLj'

/-- Memory made anew in a region that draws its order becomes objects. -/
def allocsD (P : Program) (E : Env) : List Oper → St → (St → Prop) → Prop
  | [], φ, K => K φ
  | o :: r, φ, K => match o.op, o.guard, o.dst with
    | .alloc t, none, some k => withO (zeroOf P t) fun zs => k ∉ E.ro ∧ k < φ.N ∧ ∀ b, allocsD P E r { φ with fr := putF (some k) (.ref k b 0) φ.fr, st := upd k (.cells b zs) φ.st } K
    | _, _, _ => allocsD P E r φ K

abbrev Env.at (E : Env) (X : Nat → Prop) : Env := { E with X := X }

theorem Sig.less {E : Env} {φ : St} {a : Act} {w : World} {X : Nat → Prop} (h : Sig (E.at X) φ a w) (hX : ∀ b, E.X b → X b) : Sig E φ a w := by
  have hM : ∀ b, Mx E.X φ.st b → Mx X φ.st b := by
    rintro b (h | h)
    · exact .inl (hX b h)
    · exact .inr h
  exact ⟨h.defers, h.size, fun t d ht => (h.fr t d ht).less hM, ⟨fun g o hg => (h.st.obj g o hg).mono (Ext.refl Non w) (fun _ _ hf => hf.elim) (fun _ _ hn hm => hn (hM _ hm)) (fun _ _ hf => hf), h.st.one,
    fun b hb => h.st.x b (hX b hb), fun g o b h1 h2 h3 => h.st.sep g o b h1 h2 (hX b h3)⟩, h.ext, h.own, fun g d hg => (h.gl g d hg).less hM⟩

/-- A step that makes a block, kept apart. -/
theorem Sig.grow {E : Env} {φ : St} {a : Act} {w : World} {X : Nat → Prop} (h : Sig (E.at X) φ a w) (c : Obj) {dst : Option Tmp} (hd : okDst φ.N dst) {v : Value} :
    Sig (E.at fun b => X b ∨ b = w.heap.size) { φ with fr := [] } (a.put dst v) (w.alloc c) := by
  have hx := Ext.alloc w c
  have hM : ∀ b, b < w.heap.size → ¬ Mx X φ.st b → ¬ Mx (fun b => X b ∨ b = w.heap.size) φ.st b := by
    rintro b hb hn ((h | rfl) | h)
    · exact hn (.inl h)
    · omega
    · exact hn (.inr h)
  refine ⟨by cases dst <;> exact h.defers, ?_, fun t d ht => by simp [look] at ht, ⟨fun g o hg => (h.st.obj g o hg).mono hx (fun _ _ hf => hf.elim) hM (fun _ _ hf => hf), h.st.one, fun b hb => ?_, fun g o b h1 h2 h3 => ?_⟩, h.ext.trans hx.non, h.own,
    fun g d hg => (h.gl g d hg).mono hx (fun _ _ hf => hf.elim) hM⟩
  · cases dst with
    | none => exact h.size
    | some t => simpa [Act.put] using h.size
  · rcases hb with hb | rfl
    · exact Nat.lt_of_lt_of_le (h.st.x b hb) hx.size
    · exact (Array.getElem?_eq_some_iff.1 (heap_alloc_new w c)).1
  · rcases h3 with h3 | rfl
    · exact h.st.sep g o b h1 h2 h3
    · have := (h.st.obj g o h1).lt _ h2; omega

/-- A block kept apart becomes an object. -/
theorem Sig.take {E : Env} {φ : St} {a : Act} {w : World} {X X' : Nat → Prop} (h : Sig (E.at X) φ a w) {k b : Nat} {cur : Array Value} {t : TypeId} {zs : List D} (hX : ∀ c, X' c → X c) (hb : X b) (hb' : ¬ X' b) (hk : k ∉ E.ro)
    (h0 : E.w0.heap.size ≤ b) (hv : a.tmps.getD k undef = .pointer (some ⟨b, 0, none⟩)) (hh : w.heap[b]? = some (.cells cur t (0, 0))) (hz : ∀ M, Rl w M cur.toList zs) :
    Sig (E.at X') { φ with fr := putF (some k) (.ref k b 0) φ.fr, st := Go.Dw.upd k (.cells b zs) φ.st } a w := by
  have hM : ∀ c, Mx X' (Go.Dw.upd k (.cells b zs) φ.st) c → Mx X φ.st c := by
    rintro c (hc | ⟨g, o, h1, h2⟩)
    · exact .inl (hX c hc)
    · rw [look_upd] at h1
      split at h1
      · cases h1
        simp [O.blk] at h2
        subst h2
        exact .inl hb
      · exact .inr ⟨g, o, h1, h2⟩
  refine ⟨h.defers, h.size, fun s d hs => ?_, ⟨fun g o hg => ?_, fun g g' o o' c h1 h2 h3 h4 => ?_, fun c hc => h.st.x c (hX c hc), fun g o c h1 h2 h3 => ?_⟩, h.ext, fun g o c h1 h2 h3 => ?_, fun g d hg => (h.gl g d hg).less hM⟩
  · simp only [putF, look] at hs
    split at hs
    · rename_i he
      cases hs
      subst he
      rw [hv]
      exact .ref _ _ _
    · exact (h.fr s d hs).less hM
  · rw [look_upd] at hg
    split at hg
    · cases hg; exact ⟨cur, t, hh, hz _⟩
    · exact (h.st.obj g o hg).mono (Ext.refl Non w) (fun _ _ hf => hf.elim) (fun _ _ hn hm => hn (hM _ hm)) (fun _ _ hf => hf)
  · rw [look_upd] at h1 h2
    split at h1 <;> split at h2
    · rename_i e1 e2; rw [← e1, ← e2]
    · cases h1
      simp [O.blk] at h3
      subst h3
      exact absurd hb (h.st.sep g' o' _ h2 h4)
    · cases h2
      simp [O.blk] at h4
      subst h4
      exact absurd hb (h.st.sep g o _ h1 h3)
    · exact h.st.one g g' o o' c h1 h2 h3 h4
  · rw [look_upd] at h1
    split at h1
    · cases h1
      simp [O.blk] at h2
      subst h2
      exact hb' h3
    · exact h.st.sep g o c h1 h2 (hX c h3)
  · rw [look_upd] at h1
    split at h1
    · cases h1
      simp [O.blk] at h2
      subst h2
      exact .inr h0
    · exact h.own g o c h1 h2 h3

/-- The blocks made so far in a region. -/
structure AllocInv (E : Env) (l : List Oper) (k : Nat) (L : Nat → Bool) (X : Nat → Prop) (bl : Nat → Nat) (P : Program) (a : Act) (w : World) : Prop where
  sub : ∀ b, E.X b → X b
  new : ∀ i o t s, i < k → l[i]? = some o → o.op = .alloc t → o.guard = none → o.dst = some s → L i = true →
    X (bl i) ∧ ¬ E.X (bl i) ∧ E.w0.heap.size ≤ bl i ∧ a.tmps.getD s undef = .pointer (some ⟨bl i, 0, none⟩) ∧ ∃ cur, w.heap[bl i]? = some (.cells cur t (0, 0)) ∧ ∀ zs, zeroOf P t = some zs → zs = cur.toList.map ofCell
  inj : ∀ i j o o' t t' s s', i < k → j < k → l[i]? = some o → l[j]? = some o' → o.op = .alloc t → o'.op = .alloc t' → o.guard = none → o'.guard = none → o.dst = some s → o'.dst = some s' → L i = true → L j = true → i ≠ j → bl i ≠ bl j

theorem allocs_sound {l : List Oper} {k : Nat} {L : Nat → Bool} (hL : ∀ i, i < k → L i = true) {bl : Nat → Nat} : ∀ (r : List Oper) (n : Nat) (φ : St) (X : Nat → Prop) (a : Act) (w : World), r = (l.take k).drop n → allocsD P E r φ K →
    Sig (E.at X) φ a w → (∀ b, E.X b → X b) →
    (∀ i o t s, n ≤ i → i < k → l[i]? = some o → o.op = .alloc t → o.guard = none → o.dst = some s → X (bl i) ∧ ¬ E.X (bl i) ∧ E.w0.heap.size ≤ bl i ∧ a.tmps.getD s undef = .pointer (some ⟨bl i, 0, none⟩) ∧ ∃ cur, w.heap[bl i]? = some (.cells cur t (0, 0)) ∧ ∀ zs, zeroOf P t = some zs → zs = cur.toList.map ofCell) →
    (∀ i j o o' t t' s s', i < k → j < k → l[i]? = some o → l[j]? = some o' → o.op = .alloc t → o'.op = .alloc t' → o.guard = none → o'.guard = none → o.dst = some s → o'.dst = some s' → i ≠ j → bl i ≠ bl j) →
    ∃ φ', K φ' ∧ Sig E φ' a w
  | [], n, φ, X, a, w, hr, h, hs, hX, _, _ => ⟨φ, h, hs.less hX⟩
  | o :: r, n, φ, X, a, w, hr, h, hs, hX, hn, hi => by
    have hlen : n < (l.take k).length := by
      rcases Nat.lt_or_ge n (l.take k).length with h | h
      · exact h
      · rw [List.drop_eq_nil_of_le h] at hr; cases hr
    rw [List.drop_eq_getElem_cons hlen] at hr
    injection hr with ho hr'
    have hnk : n < k := by rw [List.length_take] at hlen; omega
    have hol : l[n]? = some o := by
      have h1 := List.getElem?_eq_getElem hlen
      rw [← ho, List.getElem?_take, if_pos hnk] at h1
      exact h1
    unfold allocsD at h
    split at h
    · rename_i t s hop hgd hdst
      obtain ⟨zs, hz, hro, hkN, h⟩ := withO_elim h
      obtain ⟨h1, h2, h3, h4, cur, h5, h6⟩ := hn n o t s (Nat.le_refl _) hnk hol hop hgd hdst
      have hs' := hs.take (X' := fun b => X b ∧ b ≠ bl n) (zs := zs) (fun c hc => hc.1) h1 (fun hc => hc.2 rfl) hro h3 h4 h5 (fun M => by rw [h6 zs hz]; exact Rl_ofCells _)
      refine allocs_sound hL r (n + 1) _ _ a w hr' (h _) hs' (fun b hb => ⟨hX b hb, fun he => h2 (he ▸ hb)⟩) (fun i o' t' s' hni hik hio hop' hgd' hd' => ?_) hi
      obtain ⟨g1, g2, g3, g4, g5⟩ := hn i o' t' s' (by omega) hik hio hop' hgd' hd'
      exact ⟨⟨g1, hi i n o' o t' t s' s hik hnk hio hol hop' hop hgd' hgd hd' hdst (by omega)⟩, g2, g3, g4, g5⟩
    · exact allocs_sound hL r (n + 1) φ X a w hr' h hs hX (fun i o' t' s' hni => hn i o' t' s' (by omega)) hi

theorem floats_op {o : Oper} (h : floats o = true) : (∃ x, o.op = .move x ∨ o.op = .assign x) ∨ ∃ x i, o.op = .extract x i := by
  unfold floats at h
  simp only [Bool.and_eq_true] at h
  have h := h.2
  split at h
  · rename_i x hop; exact .inl ⟨x, .inl hop⟩
  · rename_i x hop; exact .inl ⟨x, .inr hop⟩
  · rename_i x i hop; exact .inr ⟨x, i, hop⟩
  · cases h

/-- **A region that draws its order**: its first k operations leave the store alone, the others wait for all before them. -/
theorem any_sound {l : List Oper} {k : Nat} (hk : k ≤ l.length) (hO : Ordered l k) (hAl : allocOk l k = true) {Q : Exit → Act → World → Prop} (hQp : ∀ c a w, ¬ Q (.panic c) a w) (hQ : ∀ φ' a' w', K φ' → Sig E φ' a' w' → Q .normal a' w') {φ : St}
    {ds : List D} (hds : ds.length = (l.take k).length) (hend : allocsD P E (l.take k) { φ with fr := frames φ.fr ((l.take k).zip ds) } fun φ' => opsD P E l.toArray (l.drop k) φ' K)
    (hg : ∀ i o d, (l.take k)[i]? = some o → ds[i]? = some d → Gives P E l.toArray φ.N φ.st (frames φ.fr (((l.take k).zip ds).take i)) o d) :
    ∀ (fuel : Nat) (listed : Array Bool) (u : List Nat) (a : Act) (w : World) (X : Nat → Prop) (bl : Nat → Nat), listed.size = l.length → u.length ≤ fuel → u.Nodup → (∀ i, i < l.length → (Lst listed i = false ↔ i ∈ u)) → (∀ i ∈ u, i < l.length) → fuel = u.length →
      Closed l (Lst listed) → (∀ i, Lst listed i = true → i < k) → Sig (E.at X) { φ with fr := [] } a w → (∀ t d, Cur φ.fr ((l.take k).zip ds) (Lst listed) t d → R w (Mx X φ.st) (a.tmps.getD t undef) d) → AllocInv E l k (Lst listed) X bl P a w →
      wpAny P .any l.toArray Q fuel listed a w := by
  have hdk : ds.length = k := by rw [hds, List.length_take, Nat.min_eq_left hk]
  intro fuel
  induction fuel with
  | zero =>
    intro listed u a w X bl hsz hu hnd hun hub hfu hC hLk hs hcur hI
    have hu0 : u = [] := List.eq_nil_of_length_eq_zero (by omega)
    subst hu0
    have hall : ∀ i, i < l.length → Lst listed i = true := by
      intro i hi
      cases hb : Lst listed i with
      | true => rfl
      | false => have := (hun i hi).1 hb; simp at this
    have hkl : k = l.length := by
      rcases Nat.lt_or_ge k l.length with h | h
      · have := hLk k (hall k h); omega
      · omega
    suffices hsig : Sig (E.at X) { φ with fr := frames φ.fr ((l.take k).zip ds) } a w by
      obtain ⟨φ', hK, hs'⟩ := allocs_sound (L := Lst listed) (fun i hi => hall i (by omega)) _ 0 _ _ a w rfl hend hsig hI.sub (fun i o t s _ hik hio hop hgd hd => hI.new i o t s hik hio hop hgd hd (hall i (by omega)))
        (fun i j o o' t t' s s' hik hjk hio hjo hop hop' hgd hgd' hd hd' hij => hI.inj i j o o' t t' s s' hik hjk hio hjo hop hop' hgd hgd' hd hd' (hall i (by omega)) (hall j (by omega)) hij)
      exact any_tail (k := k) hO hQ 0 listed a w k _ hsz (Nat.le_refl _) (by omega) (fun i hi => ⟨fun h => hLk i h, fun _ => hall i hi⟩) hC hK hs'
    refine ⟨hs.defers, hs.size, fun t d ht => ?_, hs.st, hs.ext, hs.own, hs.gl⟩
    refine hcur t d ?_
    rcases look_frames t _ φ.fr d ht with ⟨j, o', h1, h2, h3⟩ | ⟨h1, h2⟩
    · have hjl : j < l.length := by
        have := (List.getElem?_eq_some_iff.1 h1).1
        simp at this; omega
      exact .inl ⟨j, o', h1, hall j hjl, h2, fun j' o'' d' hjj hj' _ => h3 j' o'' d' hjj hj'⟩
    · exact .inr ⟨fun j' o'' d' hj' _ => h1 j' o'' d' hj', h2⟩
  | succ fuel ih =>
    intro listed u a w X bl hsz hu hnd hun hub hfu hC hLk hs hcur hI
    by_cases hdone : ∀ i, i < k → Lst listed i = true
    · -- the first part is over
      have hiff : ∀ i, i < l.length → (Lst listed i = true ↔ i < k) := fun i _ => ⟨hLk i, hdone i⟩
      have hfk : k + (fuel + 1) = l.length := by
        -- the unlisted are just those from k on
        have hperm : u.Perm (List.range' k (l.length - k)) := by
          refine (List.perm_ext_iff_of_nodup hnd List.nodup_range').2 fun i => ?_
          rw [List.mem_range']
          constructor
          · intro hi
            have hil := hub i hi
            have h1 := (hun i hil).2 hi
            have : ¬ i < k := fun h => by rw [hdone i h] at h1; cases h1
            exact ⟨i - k, by omega, by omega⟩
          · rintro ⟨j, hj, rfl⟩
            refine (hun _ (by omega)).1 ?_
            cases hb : Lst listed (k + 1 * j) with
            | false => rfl
            | true => have := hLk _ hb; omega
        have := hperm.length_eq
        simp at this
        omega
      suffices hsig : Sig (E.at X) { φ with fr := frames φ.fr ((l.take k).zip ds) } a w by
        obtain ⟨φ', hK, hs'⟩ := allocs_sound (L := Lst listed) hdone _ 0 _ _ a w rfl hend hsig hI.sub (fun i o t s _ hik hio hop hgd hd => hI.new i o t s hik hio hop hgd hd (hdone i hik))
          (fun i j o o' t t' s s' hik hjk hio hjo hop hop' hgd hgd' hd hd' hij => hI.inj i j o o' t t' s s' hik hjk hio hjo hop hop' hgd hgd' hd hd' (hdone i hik) (hdone j hjk) hij)
        exact any_tail hO hQ (fuel + 1) listed a w k _ hsz (Nat.le_refl _) hfk hiff hC hK hs'
      refine ⟨hs.defers, hs.size, fun t d ht => ?_, hs.st, hs.ext, hs.own, hs.gl⟩
      refine hcur t d ?_
      rcases look_frames t _ φ.fr d ht with ⟨j, o', h1, h2, h3⟩ | ⟨h1, h2⟩
      · have hjk : j < k := by
          have := (List.getElem?_eq_some_iff.1 h1).1
          simp at this; omega
        exact .inl ⟨j, o', h1, hdone j hjk, h2, fun j' o'' d' hjj hj' _ => h3 j' o'' d' hjj hj'⟩
      · exact .inr ⟨fun j' o'' d' hj' _ => h1 j' o'' d' hj', h2⟩
    · -- some operation of the first part is still to come
      have hsome : ∃ i, i < k ∧ Lst listed i = false ∧ ∀ j, j < i → Lst listed j = true := by
        have : ∃ i, i < k ∧ Lst listed i = false := Classical.byContradiction fun hn => hdone fun i hi => by
          cases hb : Lst listed i with
          | true => rfl
          | false => exact absurd ⟨i, hi, hb⟩ hn
        obtain ⟨i, hi, hb⟩ := this
        induction i using Nat.strongRecOn with
        | _ i ih2 =>
          by_cases hmin : ∀ j, j < i → Lst listed j = true
          · exact ⟨i, hi, hb, hmin⟩
          · have : ∃ j, j < i ∧ Lst listed j = false := Classical.byContradiction fun hn => hmin fun j hj => by
              cases hb' : Lst listed j with
              | true => rfl
              | false => exact absurd ⟨j, hj, hb'⟩ hn
            obtain ⟨j, hj, hb'⟩ := this
            exact ih2 j hj (by omega) hb'
      obtain ⟨m, hmk, hmu, hmin⟩ := hsome
      have hml : m < l.length := by omega
      have hmr : m ∈ Region.ready .any l.toArray listed := by
        refine mem_ready.2 ⟨(unl_iff hsz hml).2 hmu, l[m], by simp [hml], fun e he hb => ?_⟩
        exact hmin e.on (hO.edge m _ (List.getElem?_eq_getElem hml) e he hb)
      suffices core : ∀ j, j ∈ Region.ready .any l.toArray listed → j < k → (flo l j = true → wpAny P .any l.toArray Q (fuel + 1) listed a w) ∧ wpOp P l.toArray Q j (wpAny P .any l.toArray Q fuel (listed.setIfInBounds j true)) a w by
        by_cases hfl : flo l m = true
        · exact (core m hmr hmk).1 hfl
        · refine ⟨fun h0 => (by rw [h0] at hmr; cases hmr), fun j hj => (core j hj ?_).2⟩
          obtain ⟨h0, o, ho, he⟩ := mem_ready.1 hj
          have hjl : j < l.length := by simpa using (Array.getElem?_eq_some_iff.1 ho).1
          have hol : l[j]? = some o := by simpa using ho
          have good := masks_good l hC l [] [] rfl rfl (fun j o h => by simp at h) j o hol he
          rcases Nat.lt_or_ge j k with h | h
          · exact h
          · rcases hO.tail m j (by omega) hjl h with h2 | h2
            · have h1 := good m h2
              rw [hmu] at h1; cases h1
            · exact absurd h2.2 hfl
      intro j hj hjk
      obtain ⟨h0, o, ho, he⟩ := mem_ready.1 hj
      have hjl : j < l.length := by simpa using (Array.getElem?_eq_some_iff.1 ho).1
      have hju := (unl_iff hsz hjl).1 h0
      have hol : l[j]? = some o := by simpa using ho
      have hjd : ds[j]? = some ds[j] := List.getElem?_eq_getElem (by omega)
      have htk : (l.take k)[j]? = some o := by rw [List.getElem?_take, if_pos hjk]; exact hol
      obtain ⟨hdst, hgives⟩ := hg j o _ htk hjd
      have hzj : ((l.take k).zip ds)[j]? = some (o, ds[j]) := List.getElem?_zip_eq_some.2 ⟨htk, hjd⟩
      -- what the operation sees is what the text's order shows it
      have sees : ∀ t d, t ∈ Oper.sees l.toArray o → look t (frames φ.fr (((l.take k).zip ds).take j)) = some d → R w (Mx X φ.st) (a.tmps.getD t undef) d :=
        fun t d ht hd => hcur t d (cur_of_frames hO hds hC hLk hol hju he (.inl ht) hd)
      -- what follows
      have next : ∀ v w' X' bl', Ext Non w w' → (∀ b, b < w.heap.size → ¬ Mx X φ.st b → ¬ Mx X' φ.st b) → R w' (Mx X' φ.st) v ds[j] → Sig (E.at X') { φ with fr := [] } (a.put o.dst v) w' →
          AllocInv E l k (Lst (listed.setIfInBounds j true)) X' bl' P (a.put o.dst v) w' → wpAny P .any l.toArray Q fuel (listed.setIfInBounds j true) (a.put o.dst v) w' := by
        intro v w' X' bl' hext hXX hv hs2 hI'
        have hjs : j < listed.size := by omega
        have hju' : j ∈ u := (hun j hjl).1 hju
        have hlen : (u.erase j).length = u.length - 1 := List.length_erase_of_mem hju'
        refine ih _ (u.erase j) _ w' X' bl' (by simpa using hsz) (by omega) (hnd.erase j) (fun i hi => ?_) (fun i hi => hub i (List.mem_of_mem_erase hi)) (by omega) (closed_set hjs hol hC he) (fun i hi => ?_) hs2 (fun t d hc => ?_) hI'
        · rw [Lst_set hjs]
          by_cases hij : j = i
          · subst hij
            simp only [if_true, Bool.true_eq_false, false_iff]
            exact fun h => (List.Nodup.mem_erase_iff hnd).1 h |>.1 rfl
          · rw [if_neg hij, hun i hi, List.Nodup.mem_erase_iff hnd]
            exact ⟨fun h => ⟨Ne.symm hij, h⟩, fun h => h.2⟩
        · rw [Lst_set hjs] at hi
          split at hi
          · omega
          · exact hLk i hi
        · have hold : ∀ d, Cur φ.fr ((l.take k).zip ds) (Lst listed) t d → R w' (Mx X' φ.st) (a.tmps.getD t undef) d := fun d h => (hcur t d h).mono hext (fun _ _ hf => hf.elim) hXX
          by_cases hdt : o.dst = some t
          · -- the slot just written
            have hput : (a.put o.dst v).tmps.getD t undef = v := by
              rw [hdt]
              simp only [Act.put]
              rw [getD_set (by rw [hs.size]; rw [hdt] at hdst; exact hdst), if_pos rfl]
            rw [hput]
            rcases hc with ⟨i, o', h1, h2, h3, h4⟩ | ⟨h1, _⟩
            · rcases Nat.lt_trichotomy i j with hij | hij | hij
              · exact absurd hdt (h4 j o _ hij hzj (by rw [Lst_set hjs, if_pos rfl]))
              · subst hij
                rw [hzj] at h1
                cases h1
                exact hv
              · rw [Lst_set hjs, if_neg (by omega)] at h2
                have hl' : l[i]? = some o' := by
                  have := (List.getElem?_zip_eq_some.1 h1).1
                  rw [List.getElem?_take] at this
                  split at this
                  · exact this
                  · cases this
                have hw := hO.meet j i o o' t hij hol hl' (.inl ⟨hdt, .inr h3⟩)
                have := masks_good l hC l [] [] rfl rfl (fun j o h => by simp at h) i o' hl' (hC i o' hl' h2) j hw
                rw [hju] at this; cases this
            · exact absurd hdt (h1 j o _ hzj (by rw [Lst_set hjs, if_pos rfl]))
          · have hput : (a.put o.dst v).tmps.getD t undef = a.tmps.getD t undef := by
              cases hd : o.dst with
              | none => rfl
              | some s =>
                simp only [Act.put]
                rw [getD_set (by rw [hs.size]; rw [hd] at hdst; exact hdst), if_neg (fun h => hdt (by rw [hd, h]))]
            rw [hput]
            refine hold d ?_
            rcases hc with ⟨i, o', h1, h2, h3, h4⟩ | ⟨h1, h2⟩
            · rw [Lst_set hjs] at h2
              split at h2
              · rename_i hji
                subst hji
                rw [hzj] at h1
                cases h1
                exact absurd h3 hdt
              · refine .inl ⟨i, o', h1, h2, h3, fun j' o'' d' hij hj' hLj' => h4 j' o'' d' hij hj' ?_⟩
                rw [Lst_set hjs]; split
                · rfl
                · exact hLj'
            · refine .inr ⟨fun j' o'' d' hj' hLj' => h1 j' o'' d' hj' ?_, h2⟩
              rw [Lst_set hjs]; split
              · rfl
              · exact hLj'
      have hother : ∀ i o' t' s, i < k → l[i]? = some o' → o'.op = .alloc t' → o'.guard = none → o'.dst = some s → i ≠ j → ∀ v, (a.put o.dst v).tmps.getD s undef = a.tmps.getD s undef := by
        intro i o' t' s hik hio hop hgd hds' hij v
        have hne := allocOk_spec hAl hik hjk hio hol hop hgd hds' hij
        cases hd : o.dst with
        | none => rfl
        | some s' =>
          simp only [Act.put]
          rw [getD_set (by rw [hs.size]; rw [hd] at hdst; exact hdst), if_neg (fun h => hne (by rw [hd, h]))]
      have hjs : j < listed.size := by omega
      -- an operation that makes no memory
      have plain : (∀ t, o.op = .alloc t → o.guard ≠ none) → ∀ v w', Ext Non w w' → R w' (Mx X φ.st) v ds[j] → wpAny P .any l.toArray Q fuel (listed.setIfInBounds j true) (a.put o.dst v) w' := by
        intro hna v w' hext hv
        refine next v w' X bl hext (fun _ _ h => h) hv ((hs.put hext hv hdst).sub (fr := []) (st := φ.st) (fun g o h => h) (fun t d h => by simp [look] at h)) ⟨hI.sub, fun i o' t s hik hio hop hgd hd hl => ?_, fun i i' o1 o2 t t' s s' hik hjk' hio hjo hop hop' hgd hgd' hd hd' hl hl' hij => ?_⟩
        · have hij : i ≠ j := fun h => by subst h; rw [hol] at hio; cases hio; exact hna t hop hgd
          rw [Lst_set hjs, if_neg (Ne.symm hij)] at hl
          obtain ⟨g1, g2, g3, g4, cur, g5, g6⟩ := hI.new i o' t s hik hio hop hgd hd hl
          exact ⟨g1, g2, g3, by rw [hother i o' t s hik hio hop hgd hd hij]; exact g4, cur, (hext.block _ (Array.getElem?_eq_some_iff.1 g5).1 (fun hf => hf)).trans g5, g6⟩
        · have hij1 : i ≠ j := fun h => by subst h; rw [hol] at hio; cases hio; exact hna t hop hgd
          have hij2 : i' ≠ j := fun h => by subst h; rw [hol] at hjo; cases hjo; exact hna t' hop' hgd'
          rw [Lst_set hjs, if_neg (Ne.symm hij1)] at hl
          rw [Lst_set hjs, if_neg (Ne.symm hij2)] at hl'
          exact hI.inj i i' o1 o2 t t' s s' hik hjk' hio hjo hop hop' hgd hgd' hd hd' hl hl' hij
      refine ⟨fun hfl => ?_, ?_⟩
      · have hev : ∀ x ∈ o.op.operands.toList, ∀ dx, ev E.G (frames φ.fr (((l.take k).zip ds).take j)) x = some dx → R w (Mx X φ.st) (a.eval x) dx := fun x hx dx hdx => by
          cases x with
          | tmp t => exact sees t dx (Oper.sees_tmp hx) hdx
          | const v => simp [ev] at hdx; subst hdx; exact R_ofVal v
          | global g => exact hs.gl g dx hdx
          | func f => simp [ev] at hdx; subst hdx; exact .fn _ _ _ _ _ rfl rfl (fun i v d h => by simp at h) (fun i v d h => by simp at h)
        unfold flo at hfl
        rw [hol] at hfl
        simp only [Bool.and_eq_true] at hfl
        obtain ⟨hsel, hft, hfree⟩ := hfl
        have hgn : o.guard = none := by
          unfold floats at hft
          simp only [Bool.and_eq_true, Option.isNone_iff_eq_none] at hft
          exact hft.1
        have hna : ∀ t, o.op = .alloc t → o.guard ≠ none := fun t ht => by
          unfold floats at hft
          rw [ht] at hft
          simp at hft
        have hw : Region.wanted o (yielded l.toArray a.tmps) = true := by simp [Region.wanted, hgn]
        rcases hgives with ⟨hneu, _, _⟩ | ⟨_, _, t, _, hop, _⟩ | ⟨_, g, want, t, hgd, _⟩
        rotate_left
        · exact absurd hgn (hna t hop)
        · rw [hgn] at hgd; cases hgd
        have hres := hneu X w a.eval hs.st hs.gl hev
        have hrun : ∃ v, (∀ u, (execOp a.eval o).run P u = .ok (.value v) u) ∧ R w (Mx X φ.st) v ds[j] := by
          rcases floats_op hft with ⟨x, hop | hop⟩ | ⟨x, i, hop⟩
          · have e1 : ∀ u, (execOp a.eval o).run P u = .ok (.value (a.eval x)) u := fun u => by unfold execOp; rw [hop]; rfl
            rw [e1] at hres
            exact ⟨_, e1, hres.2⟩
          · have e1 : ∀ u, (execOp a.eval o).run P u = .ok (.value (a.eval x)) u := fun u => by unfold execOp; rw [hop]; rfl
            rw [e1] at hres
            exact ⟨_, e1, hres.2⟩
          · have e1 : ∀ u, (execOp a.eval o).run P u = ((Instr.extract (a.eval x) i).run P u).andThen fun v u => .ok (.value v) u := fun u => by unfold execOp; rw [hop]; simp
            have hx : ∃ v, ∀ u, (Instr.extract (a.eval x) i).run P u = .ok v u := by
              rw [e1] at hres
              generalize a.eval x = y at hres ⊢
              cases y with
              | tuple cs =>
                simp only [Instr.extract] at hres ⊢
                cases hci : cs[i]? with
                | none => rw [hci] at hres; exact hres.elim
                | some v => exact ⟨v, fun u => by simp⟩
              | _ => exact hres.elim
            obtain ⟨v, hv⟩ := hx
            have e2 : ∀ u, (execOp a.eval o).run P u = .ok (.value v) u := fun u => by rw [e1, hv]; rfl
            rw [e2] at hres
            exact ⟨v, e2, hres.2⟩
        obtain ⟨v, hrun, hv⟩ := hrun
        exact wpAny_first (i := j) (oi := o) (v := v) ho (Region.noSelect_spec hsel) (fun c a w h => (hQp c _ w h).elim) fuel listed a w
          (fun i oi hi hne hun hno => by
            have hil : i < l.length := by simpa using (Array.getElem?_eq_some_iff.1 hi).1
            have h1 := List.all_eq_true.1 hfree i (List.mem_range.2 hil)
            rw [show l[i]? = some oi by simpa using hi] at h1
            simp only [Bool.or_eq_true, beq_iff_eq, hne, false_or] at h1
            rcases h1 with h1 | h1 | h1
            · have h2 := masks_good l hC l [] [] rfl rfl (fun j o h => by simp at h) j o hol he i h1
              have h3 := (unl_iff hsz hil).1 hun
              rw [h2] at h3; cases h3
            · obtain ⟨e, he', hb⟩ := Array.any_eq_true'.1 h1
              simp only [Bool.and_eq_true, beq_iff_eq] at hb
              exact absurd hb.2 (hno e he' hb.1)
            · exact h1) hj (.inl ⟨hw, hrun⟩) (plain hna v w (Ext.refl _ _) hv)
      unfold wpOp
      simp only [ho]
      by_cases hna : ∀ t, o.op = .alloc t → o.guard ≠ none
      rotate_left
      · have hex : ∃ t, o.op = .alloc t ∧ o.guard = none := Classical.byContradiction fun hn => hna fun t ht hg => hn ⟨t, ht, hg⟩
        obtain ⟨t, hop, hgd⟩ := hex
        have hzz : ∃ zs, zeroOf P t = some zs := by
          rcases hgives with ⟨_, hng, _⟩ | ⟨_, _, t', zs, hop', hz⟩ | ⟨_, g, want, _, hgd', _⟩
          · exact absurd hgd (hng t hop)
          · rw [hop] at hop'; cases hop'; exact ⟨zs, hz⟩
          · rw [hgd] at hgd'; cases hgd'
        have hda : ds[j] = .any := by
          rcases hgives with ⟨_, hng, _⟩ | ⟨hd, _⟩ | ⟨_, g, want, _, hgd', _⟩
          · exact absurd hgd (hng t hop)
          · exact hd
          · rw [hgd] at hgd'; cases hgd'
        obtain ⟨zs, hz⟩ := hzz
        obtain ⟨inf, z, hi, hzv, rfl⟩ := zeroOf_val hz
        have hzr : (zeroValue t).run P w = .ok z w := by simp [zeroValue, typeInfo, hi, hzv]
        rw [if_pos (by simp [Region.wanted, hgd])]
        left
        unfold Oper.wp
        have hrun : (execOp a.eval o).run P w = .ok (.value (.pointer (some ⟨w.heap.size, 0, none⟩))) (w.alloc (.cells z.cells t)) := by
          simp [execOp, hop, Instr.alloc, hzr, newVar, newRow]
        rw [hrun]
        have hb0 : ∀ i o' t' s, i < k → l[i]? = some o' → o'.op = .alloc t' → o'.guard = none → o'.dst = some s → Lst listed i = true → bl i < w.heap.size := fun i o' t' s hik hio hop hgd hd hl => by
          obtain ⟨_, _, _, _, cur, g5, _⟩ := hI.new i o' t' s hik hio hop hgd hd hl
          exact (Array.getElem?_eq_some_iff.1 g5).1
        refine next _ _ (fun b => X b ∨ b = w.heap.size) (fun i => if i = j then w.heap.size else bl i) (Ext.alloc w _) ?_ (by rw [hda]; exact .any _) ((hs.grow (.cells z.cells t) hdst)) ⟨fun b hb => .inl (hI.sub b hb), fun i o' t' s hik hio hop' hgd' hd hl => ?_, fun i i' o1 o2 t1 t2 s s' hik hjk' hio hjo hop1 hop2 hgd1 hgd2 hd hd' hl hl' hij => ?_⟩
        · rintro b hb hn ((h | rfl) | h)
          · exact hn (.inl h)
          · omega
          · exact hn (.inr h)
        · by_cases hij : i = j
          · subst hij
            rw [hol] at hio
            cases hio
            rw [hop] at hop'
            cases hop'
            simp only [if_true]
            refine ⟨.inr trivial, fun hx => ?_, hs.ext.size, ?_, z.cells, heap_alloc_new w _, fun zs' hz' => by rw [hz] at hz'; exact (Option.some.inj hz').symm⟩
            · have := hs.st.x _ (hI.sub _ hx); omega
            · rw [hd]
              simp only [Act.put]
              rw [getD_set (by rw [hs.size]; rw [hd] at hdst; exact hdst), if_pos rfl]
          · rw [Lst_set hjs, if_neg (Ne.symm hij)] at hl
            obtain ⟨g1, g2, g3, g4, cur, g5, g6⟩ := hI.new i o' t' s hik hio hop' hgd' hd hl
            simp only [if_neg hij]
            exact ⟨.inl g1, g2, g3, by rw [hother i o' t' s hik hio hop' hgd' hd hij]; exact g4, cur, ((Ext.alloc w _).block _ (Array.getElem?_eq_some_iff.1 g5).1 (fun hf => hf)).trans g5, g6⟩
        · rw [Lst_set hjs] at hl hl'
          by_cases h1 : i = j
          · have h2 : i' ≠ j := fun h => hij (h1.trans h.symm)
            rw [if_neg (Ne.symm h2)] at hl'
            rw [if_pos h1, if_neg h2]
            have := hb0 i' o2 t2 s' hjk' hjo hop2 hgd2 hd' hl'
            omega
          · rw [if_neg (Ne.symm h1)] at hl
            rw [if_neg h1]
            by_cases h2 : i' = j
            · rw [if_pos h2]
              have := hb0 i o1 t1 s hik hio hop1 hgd1 hd hl
              omega
            · rw [if_neg (Ne.symm h2)] at hl'
              rw [if_neg h2]
              exact hI.inj i i' o1 o2 t1 t2 s s' hik hjk' hio hjo hop1 hop2 hgd1 hgd2 hd hd' hl hl' hij
      replace next := plain hna
      rcases hgives with ⟨hneu, _, hguard⟩ | ⟨_, hgd, t, _, hop, _⟩ | ⟨hd0, g, want, t, hgd, ht, hval⟩
      rotate_left
      · exact absurd hgd (hna t hop)
      rotate_right
      · have hw : Region.wanted o (yielded l.toArray a.tmps) = true := by
          rcases hguard with h | ⟨g, want, t, hgd, ht, hval⟩
          · simp [Region.wanted, h]
          · have hr := sees t _ (Oper.sees_guard hgd ht) hval
            generalize hv : a.tmps.getD t undef = v at hr
            cases hr
            have ht' := getD_some hv (by simp [undef])
            have hy : yielded l.toArray a.tmps g = some want := by simp only [yielded, ht, Option.bind_some, ht']
            simp [Region.wanted, hgd, hy]
        rw [if_pos hw]
        left
        have := hneu X w a.eval hs.st hs.gl (fun x hx dx hdx => by
          cases x with
          | tmp t => exact sees t dx (Oper.sees_tmp hx) hdx
          | const v => simp [ev] at hdx; subst hdx; exact R_ofVal v
          | global g => exact hs.gl g dx hdx
          | func f => simp [ev] at hdx; subst hdx; exact .fn _ _ _ _ _ rfl rfl (fun i v d h => by simp at h) (fun i v d h => by simp at h))
        unfold Oper.wp
        generalize (execOp a.eval o).run P w = res at this ⊢
        cases res with
        | ok nx w' =>
          cases nx with
          | value v => exact next v w' this.1 this.2
          | enter f args =>
            refine this.2.mono ?_
            rintro e w'' ⟨v, rfl, he', hr⟩
            exact next v w'' he' hr
          | _ => exact this.elim
        | halt x w' => exact this.elim
      · have hw : Region.wanted o (yielded l.toArray a.tmps) = false := by
          rcases hval with hval | hval
          · have hr := sees t _ (Oper.sees_guard hgd ht) hval
            generalize hv : a.tmps.getD t undef = v at hr
            cases hr
            have ht' := getD_some hv (by simp [undef])
            have hy : yielded l.toArray a.tmps g = some (!want) := by simp only [yielded, ht, Option.bind_some, ht']
            cases want <;> simp [Region.wanted, hgd, hy]
          · have hr := sees t _ (Oper.sees_guard hgd ht) hval
            generalize hv : a.tmps.getD t undef = v at hr
            cases hr with
            | tup cs es hl _ =>
              have hcs : cs = #[] := by rw [← Array.size_eq_zero_iff, hl]; rfl
              subst hcs
              have : yielded l.toArray a.tmps g = none := by
                simp only [yielded, ht, Option.bind_some]
                rw [Array.getD_eq_getD_getElem?] at hv
                cases ht' : a.tmps[t]? with
                | none => rfl
                | some u => simp [ht'] at hv; subst hv; rfl
              simp [Region.wanted, hgd, this]
        rw [if_neg (by rw [hw]; simp)]
        exact next undef w (Ext.refl _ _) (by rw [hd0]; exact R_undef)

theorem Wp.regionAny {Q : Exit → St → Prop} {φ : St} {id : Nat} {l : List Oper} (k : Nat) (hm : P.follows .mixedOrders = true) (hk : k ≤ l.length) (hB : anyOk l k = true) (hAl : allocOk l k = true)
    (h : opsN P E l.toArray (l.take k) φ fun φ' => allocsD P E (l.take k) φ' fun φ' => opsD P E l.toArray (l.drop k) φ' (Q .normal)) : Wp P E (.region id l.toArray true) Q φ := by
  intro a w hs
  obtain ⟨ds, h1, h2, h3⟩ := opsN_gives _ _ h
  refine wp_mono (Q := fun e a' w' => e = .normal ∧ ∃ φ', Q .normal φ' ∧ Sig E φ' a' w') ?_ (fun e a' w' ⟨he, h⟩ => by subst he; exact h)
  refine wp_region_any hm ?_
  have hs' : Sig E φ a { w with drawn := w.drawn + 1 } := by
    have := hs.put (dst := none) (Ext.drew w) (v := undef) R_undef trivial
    exact this
  refine any_sound hk (anyOk_spec hB) hAl (K := Q .normal) (fun c a w h => by cases h.1) (fun φ' a' w' hq hs' => ⟨rfl, φ', hq, hs'⟩) h1 h2 h3 l.toArray.size (Array.replicate l.toArray.size false) (List.range l.length) a _ E.X (fun _ => 0) (by simp) (by simp) List.nodup_range
    (fun i hi => ?_) (fun i hi => List.mem_range.1 hi) (by simp) (fun j o hj hl => ?_) (fun i hi => ?_) (hs'.sub (fr := []) (st := φ.st) (fun g o h => h) (fun t d h => by simp [look] at h)) (fun t d hc => ?_) ⟨fun _ h => h, fun i o t s hik hio _ _ _ hl => ?_, fun i j o o' t t' s s' hik hjk hio hjo _ _ _ _ _ _ hl => ?_⟩
  · simp [Lst, hi]
  · exfalso
    have hjl := (List.getElem?_eq_some_iff.1 hj).1
    simp [Lst, hjl] at hl
  · exfalso
    by_cases h : i < l.length <;> simp [Lst, h] at hi
  · rcases hc with ⟨i, o, hi, hl, _⟩ | ⟨_, hd⟩
    · exfalso
      by_cases h : i < l.length <;> simp [Lst, h] at hl
    · exact hs'.fr t d hd
  · exfalso
    have hil := (List.getElem?_eq_some_iff.1 hio).1
    simp [Lst, hil] at hl
  · exfalso
    have hil := (List.getElem?_eq_some_iff.1 hio).1
    simp [Lst, hil] at hl
end
end Go.Dw
