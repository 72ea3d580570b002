/-
  The seventeenth part of a program logic over deep data: calls that turn objects, one operation, and a region in the order of the text.
  It speaks of any program; no condition.
  The eighteenth part of a program logic over deep data: the forms of code, weakening, loops, and the entry and the end of a function.
  It speaks of any program; no condition.
  The nineteenth part of a program logic over deep data: calls by contract, in the forms that a walk uses.
  It speaks of any program; no condition.
-/
import Derived.Test.YtjbajnkbiohoeaaDoorDw4
namespace Go.Dw
open Go Go.RowKit

/-- Objects under other keys: (old, new). -/
def ren {α : Type} : List (Nat × Nat) → List (Nat × α) → List (Nat × α)
  | [], _ => []
  | (k, k') :: r, S => match look k S with
    | some o => (k', o) :: ren r S
    | none => ren r S
def swapK (κ : List (Nat × Nat)) : List (Nat × Nat) := κ.map fun p => (p.2, p.1)
def dropAll {α : Type} : List Nat → List (Nat × α) → List (Nat × α)
  | [], S => S
  | k :: ks, S => dropAll ks (dropK k S)

theorem look_ren {α : Type} {S : List (Nat × α)} {g : Nat} {o : α} : ∀ {κ : List (Nat × Nat)}, look g (ren κ S) = some o → ∃ p ∈ κ, p.2 = g ∧ look p.1 S = some o
  | [], h => by simp [ren, look] at h
  | (k, k') :: r, h => by
    simp only [ren] at h
    cases hk : look k S with
    | none =>
      rw [hk] at h
      obtain ⟨p, h1, h2⟩ := look_ren h
      exact ⟨p, List.mem_cons_of_mem _ h1, h2⟩
    | some o' =>
      rw [hk] at h
      simp only [look] at h
      split at h
      · rename_i hg
        cases h
        exact ⟨(k, k'), List.mem_cons_self, hg, hk⟩
      · obtain ⟨p, h1, h2⟩ := look_ren h
        exact ⟨p, List.mem_cons_of_mem _ h1, h2⟩
theorem look_dropAll {α : Type} {g : Nat} {o : α} : ∀ {ks : List Nat} {S : List (Nat × α)}, look g (dropAll ks S) = some o → g ∉ ks ∧ look g S = some o
  | [], S, h => ⟨by simp, h⟩
  | k :: ks, S, h => by
    obtain ⟨h1, h2⟩ := look_dropAll (ks := ks) h
    rw [look_dropK] at h2
    split at h2
    · cases h2
    · rename_i hne
      exact ⟨by simp [Ne.symm hne, h1], h2⟩
theorem look_append {α : Type} {g : Nat} {o : α} : ∀ {A B : List (Nat × α)}, look g (A ++ B) = some o → look g A = some o ∨ look g B = some o
  | [], B, h => .inr h
  | (k, x) :: A, B, h => by
    simp only [List.cons_append, look] at h ⊢
    split at h
    · rename_i hk; rw [if_pos hk]; exact .inl h
    · rename_i hk; rw [if_neg hk]; exact look_append h
theorem nodup_inj {α β : Type} {f : α → β} : ∀ {l : List α} {a b : α}, (l.map f).Nodup → a ∈ l → b ∈ l → f a = f b → a = b
  | [], _, _, _, h, _, _ => by simp at h
  | x :: l, a, b, hn, ha, hb, hf => by
    simp only [List.map_cons, List.nodup_cons] at hn
    obtain ⟨h1, h2⟩ := hn
    rcases List.mem_cons.1 ha with e1 | ha'
    · rcases List.mem_cons.1 hb with e2 | hb'
      · rw [e1, e2]
      · exact absurd (List.mem_map.2 ⟨b, hb', by rw [← hf, e1]⟩) h1
    · rcases List.mem_cons.1 hb with e2 | hb'
      · exact absurd (List.mem_map.2 ⟨a, ha', by rw [hf, e2]⟩) h1
      · exact nodup_inj h2 ha' hb' hf

/-- A call that may turn the objects κ (pairs: the callee's key, the caller's key). -/
def callE (P : Program) (E : Env) (φ : St) (f : D) (ds : List D) (dst : Option Tmp) (K : St → Prop) : Prop :=
  match f with
  | .fn fid first caps => enters P fid = true ∧ okDst φ.N dst ∧ ∃ (ds' : List D) (κ : List (Nat × Nat)) (post : D → List (Nat × O) → Prop),
      LeL (first ++ ds ++ caps) ds' ∧ (κ.map (·.1)).Nodup ∧ (κ.map (·.2)).Nodup ∧ (∀ p ∈ κ, p.2 ∉ E.ro) ∧ CallTo P E.G fid ds' (ren (swapK κ) φ.st) post ∧
      ∀ d S', post d S' → ∃ κ' : List (Nat × Nat), (κ'.map (·.1)).Nodup ∧ (∀ p ∈ κ', p.2 ∉ E.ro) ∧
        K { φ with fr := putF dst d φ.fr, st := ren κ' S' ++ dropAll (κ.map (·.2)) φ.st }
  | _ => False

section
variable {P : Program} {E : Env} {φ : St} {a : Act} {w : World} {K : St → Prop}

theorem callE_sound {df : D} {ds : List D} {dst : Option Tmp} (h : callE P E φ df ds dst K) (hs : Sig E φ a w) {vf : Value} {args : Array Value} (hf : R w (Mx E.X φ.st) vf df) (hargs : Rl w (Mx E.X φ.st) args.toList ds) :
    ∃ f vs, (do let x ← Deferred.ofValue vf args; invoke x.target x.args : Sem Next).run P w = .ok (.enter f vs) w ∧
      Calls P f vs w fun e w' => ∃ v φ', e = .returned v ∧ K φ' ∧ Sig E φ' (a.put dst v) w' := by
  unfold callE at h
  split at h
  · rename_i fid first caps
    obtain ⟨hent, hdst, ds', κ, post, hle, hn1, hn2, hro, hcall, hK⟩ := h
    cases hf with
    | fn f vfirst vcaps _ _ hl1 hl2 hr1 hr2 =>
      have hf1 : Rl w (Mx E.X φ.st) vfirst.toList first := ⟨by simpa using hl1, fun i v d hv hd => hr1 i v d (by simpa using hv) hd⟩
      have hf2 : Rl w (Mx E.X φ.st) vcaps.toList caps := ⟨by simpa using hl2, fun i v d hv hd => hr2 i v d (by simpa using hv) hd⟩
      have hall := hle.sound ((hf1.append hargs).append hf2)
      -- the callee's store
      obtain ⟨ks, hks⟩ : ∃ ks, ks = κ.map (·.2) := ⟨_, rfl⟩
      have hc : ∀ g o, look g (ren (swapK κ) φ.st) = some o → ∃ p ∈ κ, p.1 = g ∧ look p.2 φ.st = some o := by
        intro g o hg
        obtain ⟨q, hq, h1, h2⟩ := look_ren hg
        obtain ⟨p, hp, rfl⟩ := List.mem_map.1 hq
        exact ⟨p, hp, h1, h2⟩
      obtain ⟨X', hX'⟩ : ∃ X' : Nat → Prop, X' = Rest E.X φ.st ks [] := ⟨_, rfl⟩
      have hMsub : ∀ b, Mx X' (ren (swapK κ) φ.st) b → Mx E.X φ.st b := by
        intro b hb
        subst hX'
        rcases hb with (h | ⟨g, o, h1, h2, _⟩) | ⟨g, o, h1, h2⟩
        · exact .inl h
        · exact .inr ⟨g, o, h1, h2⟩
        · obtain ⟨p, _, _, h3⟩ := hc g o h1
          exact .inr ⟨p.2, o, h3, h2⟩
      have hSc : Stor w X' (ren (swapK κ) φ.st) := by
        refine ⟨fun g o hg => ?_, fun g g' o o' b h1 h2 hb1 hb2 => ?_, fun b hb => hs.st.lt (hMsub b (.inl hb)), fun g o b hg hb hx => ?_⟩
        · obtain ⟨p, _, _, h3⟩ := hc g o hg
          exact (hs.st.obj _ _ h3).mono (Ext.refl Non w) (fun _ _ hf => hf.elim) (fun _ _ hn hm => hn (hMsub _ hm)) (fun _ _ hf => hf)
        · obtain ⟨p, hp, e1, h3⟩ := hc g o h1
          obtain ⟨q, hq, e2, h4⟩ := hc g' o' h2
          have := hs.st.one _ _ _ _ b h3 h4 hb1 hb2
          have hpq := nodup_inj (f := fun p : Nat × Nat => p.2) hn2 hp hq this
          rw [← e1, ← e2, hpq]
        · obtain ⟨p, hp, e1, h3⟩ := hc g o hg
          subst hX'
          rcases hx with hx | ⟨g', o', h4, h5, h6, _⟩
          · exact hs.st.sep _ _ b h3 hb hx
          · have := hs.st.one _ _ _ _ b h3 h4 hb h5
            subst this
            exact h6 (by rw [hks]; exact List.mem_map.2 ⟨p, hp, rfl⟩)
      have hcl := hcall X' (vfirst ++ args ++ vcaps) w hSc (fun g d hg => (hs.gl g d hg).less hMsub) (by
        have h3 : Rl w (Mx X' (ren (swapK κ) φ.st)) (vfirst.toList ++ args.toList ++ vcaps.toList) ds' := ⟨hall.1, fun i v d hv hd => (hall.2 i v d hv hd).less hMsub⟩
        have e3 : (vfirst ++ args ++ vcaps).toList = vfirst.toList ++ args.toList ++ vcaps.toList := by simp
        rw [e3]
        exact h3)
      refine ⟨fid, vfirst ++ args ++ vcaps, by simp only [Deferred.ofValue, Sem.run_bind, Sem.run_pure, Result.andThen_ok, invoke, run_callFunc hent], hcl.mono ?_⟩
      rintro e w' ⟨v, d, S', rfl, hpost, hext, hnew, hS', hr⟩
      obtain ⟨κ', hn', hro', hK⟩ := hK d S' hpost
      refine ⟨v, _, rfl, hK, ?_⟩
      obtain ⟨S2, hS2⟩ : ∃ S2, S2 = ren κ' S' ++ dropAll (κ.map (·.2)) φ.st := ⟨_, rfl⟩
      rw [← hS2]
      have hlk : ∀ g o, look g S2 = some o → (∃ p ∈ κ', p.2 = g ∧ look p.1 S' = some o) ∨ (g ∉ ks ∧ look g φ.st = some o) := by
        intro g o hg
        rw [hS2] at hg
        rcases look_append hg with h | h
        · exact .inl (look_ren h)
        · rw [hks]; exact .inr (look_dropAll h)
      have hB : ∀ b, Mx Non (ren (swapK κ) φ.st) b → ∃ p ∈ κ, ∃ o, look p.2 φ.st = some o ∧ o.blk = some b := by
        rintro b (hf | ⟨g, o, h1, h2⟩)
        · exact hf.elim
        · obtain ⟨p, hp, _, h3⟩ := hc g o h1
          exact ⟨p, hp, o, h3, h2⟩
      have hBM : ∀ b, b < w.heap.size → Mx Non (ren (swapK κ) φ.st) b → Mx E.X φ.st b := fun b _ hb => by
        obtain ⟨p, _, o, h1, h2⟩ := hB b hb
        exact .inr ⟨p.2, o, h1, h2⟩
      have hM2 : ∀ b, b < w.heap.size → ¬ Mx E.X φ.st b → ¬ Mx E.X S2 b := by
        intro b hb hn hm
        rcases hm with hx | ⟨g, o, hg, hbb⟩
        · exact hn (.inl hx)
        · rcases hlk g o hg with ⟨p, _, _, h1⟩ | ⟨_, h1⟩
          · rcases hnew b (.inr ⟨p.1, o, h1, hbb⟩) with h | h
            · exact hn (hBM b hb h)
            · omega
          · exact hn (.inr ⟨g, o, h1, hbb⟩)
      have hM3 : ∀ b, Mx E.X S2 b → Mx X' S' b := by
        intro b hm
        subst hX'
        rcases hm with hx | ⟨g, o, hg, hbb⟩
        · exact .inl (.inl hx)
        · rcases hlk g o hg with ⟨p, _, _, h1⟩ | ⟨h0, h1⟩
          · exact .inr ⟨p.1, o, h1, hbb⟩
          · exact .inl (.inr ⟨g, o, h1, hbb, h0, by simp⟩)
      have hR : ∀ u e, R w (Mx E.X φ.st) u e → R w' (Mx E.X S2) u e := fun u e hr => hr.mono hext hBM hM2
      have hst2 : Stor w' E.X S2 := by
        refine ⟨fun g o hg => ?_, fun g g' o o' b h1 h2 hb1 hb2 => ?_, fun b hb => Nat.lt_of_lt_of_le (hs.st.x b hb) hext.size, fun g o b hg hb hx => ?_⟩
        · rcases hlk g o hg with ⟨p, _, _, h1⟩ | ⟨h0, h1⟩
          · exact (hS'.obj _ _ h1).mono (Ext.refl Non w') (fun _ _ hf => hf.elim) (fun _ _ hn hm => hn (hM3 _ hm)) (fun _ _ hf => hf)
          · refine (hs.st.obj _ _ h1).mono hext hBM hM2 (fun b hb hbb => ?_)
            obtain ⟨p, hp, o', h2, h3⟩ := hB b hbb
            have := hs.st.one _ _ _ _ b h1 h2 hb h3
            exact h0 (by rw [hks, this]; exact List.mem_map.2 ⟨p, hp, rfl⟩)
        · have cross : ∀ (g g' : Nat) (o o' : O), (∃ p ∈ κ', p.2 = g ∧ look p.1 S' = some o) → (g' ∉ ks ∧ look g' φ.st = some o') → o.blk = some b → o'.blk = some b → False := by
            rintro g g' o o' ⟨p, _, _, h1⟩ ⟨h0, h2⟩ hb1 hb2
            rcases hnew b (.inr ⟨p.1, o, h1, hb1⟩) with h | h
            · obtain ⟨q, hq, o2, h3, h4⟩ := hB b h
              have := hs.st.one _ _ _ _ b h2 h3 hb2 h4
              exact h0 (by rw [hks, this]; exact List.mem_map.2 ⟨q, hq, rfl⟩)
            · have := (hs.st.obj _ _ h2).lt b hb2; omega
          rcases hlk g o h1 with h3 | h3 <;> rcases hlk g' o' h2 with h4 | h4
          · obtain ⟨p, hp, e1, h5⟩ := h3
            obtain ⟨q, hq, e2, h6⟩ := h4
            have := hS'.one _ _ _ _ b h5 h6 hb1 hb2
            have hpq := nodup_inj (f := fun p : Nat × Nat => p.1) hn' hp hq this
            rw [← e1, ← e2, hpq]
          · exact (cross _ _ _ _ h3 h4 hb1 hb2).elim
          · exact (cross _ _ _ _ h4 h3 hb2 hb1).elim
          · exact hs.st.one _ _ _ _ b h3.2 h4.2 hb1 hb2
        · rcases hlk g o hg with ⟨p, _, _, h1⟩ | ⟨_, h1⟩
          · exact hS'.sep _ _ b h1 hb (by rw [hX']; exact .inl hx)
          · exact hs.st.sep _ _ b h1 hb hx
      have hs2 : Sig E { φ with st := S2 } a w' := by
        refine ⟨hs.defers, hs.size, fun t d ht => hR _ _ (hs.fr t d ht), hst2, hs.ext.trans' hext (fun b hb => ?_), fun g o b hg hb hr' => ?_, fun g d hg => hR _ _ (hs.gl g d hg)⟩
        · obtain ⟨p, hp, o, h1, h2⟩ := hB b hb
          exact hs.own _ _ b h1 h2 (hro p hp)
        · rcases hlk g o hg with ⟨p, _, _, h1⟩ | ⟨_, h1⟩
          · rcases hnew b (.inr ⟨p.1, o, h1, hb⟩) with h | h
            · obtain ⟨q, hq, o2, h3, h4⟩ := hB b h
              exact hs.own _ _ b h3 h4 (hro q hq)
            · right; have := hs.ext.size; omega
          · exact hs.own _ _ b h1 hb hr'
      exact hs2.put (Ext.refl Non w') (hr.less hM3) hdst
  · exact h.elim

/-- One operation. -/
def stepD (P : Program) (E : Env) (o : Oper) (φ : St) (K : St → Prop) : Prop :=
  match o.op with
  | .alloc _ | .store _ _ _ | .makeMap _ _ | .mapUpdate _ _ _ _ | .makeSlice _ _ _ | .range _ _ | .next _ _ => stepE P E o φ K
  | .call { callee := .builtin .append, args, .. } => match (args.toList.head?).bind (ev E.G φ.fr) with
    | some (.sl _ _ _) => stepN P E.G φ.st (ev E.G φ.fr) o.op fun d => okDst φ.N o.dst ∧ K { φ with fr := putF o.dst d φ.fr }
    | _ => stepE P E o φ K
  | .call { callee := .value f, args, .. } => withO (ev E.G φ.fr f) fun df => withAll (ev E.G φ.fr) args.toList fun ds =>
      (callN P E.G φ.st df ds fun d => okDst φ.N o.dst ∧ K { φ with fr := putF o.dst d φ.fr }) ∨ callE P E φ df ds o.dst K
  | op => stepN P E.G φ.st (ev E.G φ.fr) op fun d => okDst φ.N o.dst ∧ K { φ with fr := putF o.dst d φ.fr }

theorem stepN_wp {o : Oper} (h : stepN P E.G φ.st (ev E.G φ.fr) o.op fun d => okDst φ.N o.dst ∧ K { φ with fr := putF o.dst d φ.fr }) (hs : Sig E φ a w) {next : Act → World → Prop} {Q : Exit → Act → World → Prop}
    (hn : ∀ φ' a' w', K φ' → Sig E φ' a' w' → next a' w') : o.wp P a w next Q := by
  obtain ⟨d, hneu, hdst, hK⟩ := stepN_sound h
  have := hneu E.X w a.eval hs.st hs.gl (fun x _ dx hx => hs.ev hx)
  unfold Oper.wp
  generalize (execOp a.eval o).run P w = r at this ⊢
  cases r with
  | ok nx w' =>
    cases nx with
    | value v => exact hn _ _ _ hK (hs.put this.1 this.2 hdst)
    | enter f args =>
      refine this.2.mono ?_
      rintro e w'' ⟨v, rfl, he, hr⟩
      exact hn _ _ _ hK (hs.put he hr hdst)
    | _ => exact this.elim
  | halt x w' => exact this.elim

theorem stepE_wp {o : Oper} (h : stepE P E o φ K) (hs : Sig E φ a w) {next : Act → World → Prop} {Q : Exit → Act → World → Prop} (hn : ∀ φ' a' w', K φ' → Sig E φ' a' w' → next a' w') : o.wp P a w next Q := by
  unfold Oper.wp
  rcases stepE_sound h hs with ⟨v, w', φ', hrun, hK, hs'⟩ | ⟨w', φ', hrun, hK, hs'⟩
  · rw [hrun]; exact hn _ _ _ hK hs'
  · rw [hrun]; exact hn _ _ _ hK hs'

theorem stepD_wp {o : Oper} (h : stepD P E o φ K) (hs : Sig E φ a w) {next : Act → World → Prop} {Q : Exit → Act → World → Prop} (hn : ∀ φ' a' w', K φ' → Sig E φ' a' w' → next a' w') : o.wp P a w next Q := by
  obtain ⟨dst, op, ty, pos, after, gd⟩ := o
  unfold stepD at h
  split at h
  all_goals rename_i hop; simp only at hop; try subst hop
  · exact stepE_wp h hs hn
  · exact stepE_wp h hs hn
  · exact stepE_wp h hs hn
  · exact stepE_wp h hs hn
  · exact stepE_wp h hs hn
  · exact stepE_wp h hs hn
  · exact stepE_wp h hs hn
  · split at h
    · exact stepN_wp h hs hn
    · exact stepE_wp h hs hn
  · rename_i f args argTypes
    obtain ⟨df, hdf, h⟩ := withO_elim h
    obtain ⟨ds, hl, hds, h⟩ := withAll_elim h
    rcases h with h | h
    · refine stepN_wp (K := K) ?_ hs hn
      simp only [stepN, hdf, withO]
      have hw : ∀ (xs : List Operand) (ds : List D) {K' : List D → Prop}, xs.length = ds.length → (∀ (i : Nat) (x : Operand) (d : D), xs[i]? = some x → ds[i]? = some d → ev E.G φ.fr x = some d) → K' ds → withAll (ev E.G φ.fr) xs K' := by
        intro xs
        induction xs with
        | nil => intro ds K' hl _ hk; cases ds with
          | nil => exact hk
          | cons _ _ => simp at hl
        | cons x xs ih =>
          intro ds K' hl hds hk
          cases ds with
          | nil => simp at hl
          | cons d ds =>
            simp only [withAll, hds 0 x d rfl rfl, withO]
            exact ih ds (by simpa using hl) (fun i x d hx hd => hds (i + 1) x d (by simpa using hx) (by simpa using hd)) hk
      exact hw _ _ hl hds h
    · have hr := withAll_Rl hl hds (w := w) (M := Mx E.X φ.st) (e := a.eval) (fun x _ dx hx => hs.ev hx)
      obtain ⟨fid, vs, hrun, hc⟩ := callE_sound h hs (hs.ev hdf) (args := args.map a.eval) (by simpa using hr)
      unfold Oper.wp
      simp only [Sem.run_bind] at hrun
      simp only [execOp, resolve, Sem.run_bind, hrun]
      refine hc.mono ?_
      rintro e w' ⟨v, φ', rfl, hK, hs'⟩
      exact hn _ _ _ hK hs'
  · exact stepN_wp (o := ⟨dst, op, ty, pos, after, gd⟩) h hs hn

/-- A guard: which value is wanted. -/
def gsplit (want b : Bool) (A B : Prop) : Prop := match want with
  | true => split b A B
  | false => split b B A
/-- The operations of a region, in the order of the text. -/
def opsD (P : Program) (E : Env) (ops : Array Oper) : List Oper → St → (St → Prop) → Prop
  | [], φ, K => K φ
  | o :: r, φ, K => match o.guard with
    | none => stepD P E o φ fun φ' => opsD P E ops r φ' K
    | some (j, want) => withO ((ops[j]?).bind (·.dst)) fun t => withO (look t φ.fr) fun d =>
      match d with
      | .bool b => gsplit want b (stepD P E o φ fun φ' => opsD P E ops r φ' K) (okDst φ.N o.dst ∧ opsD P E ops r { φ with fr := putF o.dst (.tup []) φ.fr } K)
      | .tup [] => okDst φ.N o.dst ∧ opsD P E ops r { φ with fr := putF o.dst (.tup []) φ.fr } K
      | _ => False

theorem R_undef {w : World} {M : Nat → Prop} : R w M undef (.tup []) := R.tup_iff.2 Rl.nil

theorem getD_some {tmps : Array Value} {t : Nat} {v : Value} (h : tmps.getD t undef = v) (hv : v ≠ undef) : tmps[t]? = some v := by
  rw [Array.getD_eq_getD_getElem?] at h
  cases ht : tmps[t]? with
  | none => simp [ht] at h; exact absurd h.symm hv
  | some u => simp [ht] at h; rw [h]

theorem opsD_sound {ops : Array Oper} {Q : Exit → Act → World → Prop} : ∀ (l : List Oper) (φ : St) (a : Act) (w : World), opsD P E ops l φ K → Sig E φ a w → (∀ φ' a' w', K φ' → Sig E φ' a' w' → Q .normal a' w') → wpList P ops Q l a w
  | [], φ, a, w, h, hs, hQ => hQ _ _ _ h hs
  | o :: r, φ, a, w, h, hs, hQ => by
    simp only [opsD] at h
    cases hg : o.guard with
    | none =>
      rw [hg] at h
      refine wpList_plain hg fun K' hK' => stepD_wp h hs fun φ' a' w' hk hs' => hK' _ _ (opsD_sound r φ' a' w' hk hs' hQ)
    | some p =>
      obtain ⟨j, want⟩ := p
      rw [hg] at h
      obtain ⟨t, ht, h⟩ := withO_elim h
      obtain ⟨d, hd, h⟩ := withO_elim h
      have hr := hs.fr t d hd
      have hy : yielded ops a.tmps j = match a.tmps[t]? with | some (.bool b) => some b | _ => none := by
        simp only [yielded, ht, Option.bind_some]
        cases a.tmps[t]? with
        | none => rfl
        | some v => cases v <;> rfl
      have hskip : Region.wanted o (yielded ops a.tmps) = false → (okDst φ.N o.dst ∧ opsD P E ops r { φ with fr := putF o.dst (.tup []) φ.fr } K) → wpList P ops Q (o :: r) a w := by
        intro hw ⟨h1, h2⟩
        exact wpList_skip hw (opsD_sound r _ _ _ h2 (hs.put (Ext.refl Non w) R_undef h1) hQ)
      have hstep : Region.wanted o (yielded ops a.tmps) = true → (stepD P E o φ fun φ' => opsD P E ops r φ' K) → wpList P ops Q (o :: r) a w := by
        intro hw h1
        exact wpList_step fun K' hK' => by rw [if_pos hw]; exact stepD_wp h1 hs fun φ' a' w' hk hs' => hK' _ _ (opsD_sound r φ' a' w' hk hs' hQ)
      split at h
      · rename_i b
        generalize hv : a.tmps.getD t undef = v at hr
        cases hr
        have ht' := getD_some hv (by simp [undef])
        rw [ht'] at hy
        simp only at hy
        cases want with
        | true =>
          simp only [gsplit, split] at h
          cases b with
          | true => exact hstep (by simp [Region.wanted, hg, hy]) (h.1 rfl)
          | false => exact hskip (by simp [Region.wanted, hg, hy]) (h.2 rfl)
        | false =>
          simp only [gsplit, split] at h
          cases b with
          | true => exact hskip (by simp [Region.wanted, hg, hy]) (h.1 rfl)
          | false => exact hstep (by simp [Region.wanted, hg, hy]) (h.2 rfl)
      · generalize hv : a.tmps.getD t undef = v at hr
        cases hr with
        | tup cs ds hl _ =>
          have hcs : cs = #[] := by rw [← Array.size_eq_zero_iff, hl]; rfl
          subst hcs
          refine hskip ?_ h
          have : yielded ops a.tmps j = none := by
            rw [hy]
            rw [Array.getD_eq_getD_getElem?] at hv
            cases ht' : a.tmps[t]? with
            | none => rfl
            | some u => simp [ht'] at hv; subst hv; rfl
          simp [Region.wanted, hg, this]
      · exact h.elim
end
end Go.Dw

namespace Go.Dw
open Go Go.RowKit

/-- Whatever state the code begins in that φ describes, it comes to an end of which Q speaks. -/
def Wp (P : Program) (E : Env) (c : Code) (Q : Exit → St → Prop) (φ : St) : Prop :=
  ∀ a w, Sig E φ a w → c.wp P (fun e a' w' => ∃ φ', Q e φ' ∧ Sig E φ' a' w') a w

def thenS (K : St → Prop) (Q : Exit → St → Prop) : Exit → St → Prop
  | .normal, φ => K φ
  | e, φ => Q e φ
def blockS (id : Nat) (Q : Exit → St → Prop) : Exit → St → Prop
  | .exit id', φ => if id' = id then Q .normal φ else Q (.exit id') φ
  | e, φ => Q e φ
def noGotoS (Q : Exit → St → Prop) : Exit → St → Prop
  | .goto _, _ => False
  | e, φ => Q e φ

/-- φ' says no more than φ. -/
def Weak (E : Env) (φ φ' : St) : Prop := ∀ a w, Sig E φ a w → Sig E φ' a w
theorem Weak.refl (E : Env) (φ : St) : Weak E φ φ := fun _ _ h => h
theorem Weak.trans {E : Env} {a b c : St} (h : Weak E a b) (k : Weak E b c) : Weak E a c := fun x w hs => k x w (h x w hs)

section
variable {P : Program} {E : Env} {Q : Exit → St → Prop} {φ : St}

theorem Wp.seq {x y : Code} (h : ∀ K : St → Prop, (∀ φ, Wp P E y Q φ → K φ) → Wp P E x (thenS K Q) φ) : Wp P E (.seq x y) Q φ := by
  intro a w hs
  refine wp_seq ?_
  refine wp_mono (h (fun φ => Wp P E y Q φ) (fun _ h => h) a w hs) fun e a' w' ⟨φ', hq, hs'⟩ => ?_
  cases e with
  | normal => exact hq a' w' hs'
  | _ => exact ⟨φ', hq, hs'⟩
theorem Wp.skip (h : Q .normal φ) : Wp P E .skip Q φ := fun _ _ hs => wp_skip ⟨φ, h, hs⟩
theorem Wp.label {l : Nat} (h : Q .normal φ) : Wp P E (.label l) Q φ := fun _ _ hs => wp_label ⟨φ, h, hs⟩
theorem Wp.exit {id : Nat} (h : Q (.exit id) φ) : Wp P E (.exit id) Q φ := fun _ _ hs => wp_exit ⟨φ, h, hs⟩
theorem Wp.ret (h : Q .ret φ) : Wp P E .ret Q φ := fun _ _ hs => wp_ret ⟨φ, h, hs⟩
theorem Wp.block {id : Nat} {c : Code} (h : Wp P E c (blockS id Q) φ) : Wp P E (.block id c) Q φ := by
  intro a w hs
  refine wp_block (wp_mono (h a w hs) fun e a' w' ⟨φ', hq, hs'⟩ => ?_)
  cases e with
  | exit id' =>
    simp only [blockS] at hq
    simp only [Exit.inBlock]
    split at hq
    · rename_i hid; rw [if_pos hid]; exact ⟨φ', hq, hs'⟩
    · rename_i hid; rw [if_neg hid]; exact ⟨φ', hq, hs'⟩
  | _ => exact ⟨φ', hq, hs'⟩
theorem Wp.cond {c : Operand} {x y : Code} {b : Bool} (hc : ev E.G φ.fr c = some (.bool b)) (ht : b = true → Wp P E x Q φ) (hf : b = false → Wp P E y Q φ) : Wp P E (.cond c x y) Q φ := by
  intro a w hs
  have hr := hs.ev hc
  generalize hv : a.eval c = v at hr
  cases hr
  exact wp_cond_split hv (fun h => ht h a w hs) (fun h => hf h a w hs)
theorem Wp.weak {c : Code} {φ' : St} (hw : Weak E φ φ') (h : Wp P E c Q φ') : Wp P E c Q φ := fun a w hs => h a w (hw a w hs)
theorem Wp.mono {c : Code} {Q' : Exit → St → Prop} (h : Wp P E c Q φ) (hq : ∀ e φ, Q e φ → Q' e φ) : Wp P E c Q' φ :=
  fun a w hs => wp_mono (h a w hs) fun e a' w' ⟨φ', hq', hs'⟩ => ⟨φ', hq _ _ hq', hs'⟩
theorem Wp.region {id : Nat} {l : List Oper} (h : opsD P E l.toArray l φ (Q .normal)) : Wp P E (.region id l.toArray false) Q φ :=
  fun a w hs => wp_region_lit (opsD_sound l φ a w h hs fun φ' _ _ hq hs' => ⟨φ', hq, hs'⟩)
/-- A loop: I n is what holds at a round's head with at most n rounds to come. -/
theorem Wp.loop {c : Code} (I : Nat → St → Prop) {n : Nat} {φ0 : St} (h0 : Weak E φ φ0) (hi : I n φ0)
    (round : ∀ n φ, I n φ → Wp P E c (thenS (fun φ' => ∃ m φ'', m < n ∧ Weak E φ' φ'' ∧ I m φ'') Q) φ) : Wp P E (.loop c) Q φ := by
  intro a w hs
  have key : ∀ n φ a w, I n φ → Sig E φ a w → ∀ (b : Frame) (k : List Item) (cs : List Frame),
      ∃ e a' w', (∃ φ', Q e φ' ∧ Sig E φ' a' w') ∧ Arrives P (lone (b.at a (.code c :: .inLoop c :: k)) cs w) b k cs e a' w' := by
    intro n
    induction n using Nat.strongRecOn with
    | _ n ih =>
      intro φ a w hI hs b k cs
      obtain ⟨e, a₁, w₁, ⟨φ₁, hq, hs₁⟩, harr⟩ := round n φ hI a w hs b (.inLoop c :: k) cs
      cases e with
      | normal =>
        obtain ⟨m, φ₂, hlt, hw, hI₂⟩ := hq
        obtain ⟨e₂, a₂, w₂, hq₂, harr₂⟩ := ih m hlt φ₂ a₁ w₁ hI₂ (hw _ _ hs₁) b k cs
        exact ⟨e₂, a₂, w₂, hq₂, .of_steps (Steps.trans harr (.one step_inLoop)) harr₂⟩
      | exit id => exact ⟨_, a₁, w₁, ⟨φ₁, hq, hs₁⟩, .pass (x := .inLoop c) rfl (fun _ _ => .inl (by simp)) harr⟩
      | goto l => exact ⟨_, a₁, w₁, ⟨φ₁, hq, hs₁⟩, .pass (x := .inLoop c) rfl (fun _ _ => .inl (by simp)) harr⟩
      | ret => exact ⟨_, a₁, w₁, ⟨φ₁, hq, hs₁⟩, .pass (x := .inLoop c) rfl (fun _ _ => .inl (by simp)) harr⟩
      | panic ch => exact ⟨_, a₁, w₁, ⟨φ₁, hq, hs₁⟩, .pass (x := .inLoop c) rfl (fun _ _ => .inl (by simp)) harr⟩
      | outgrown => exact ⟨_, a₁, w₁, ⟨φ₁, hq, hs₁⟩, .pass (x := .inLoop c) rfl (fun _ _ => .inl (by simp)) harr⟩
  intro b k cs
  obtain ⟨e, a', w', hq, harr⟩ := key n φ0 a w hi (h0 a w hs) b k cs
  exact ⟨e, a', w', hq, .of_steps (.one step_loop) harr⟩

/-! ### Weakening -/

theorem Sig.sub {a : Act} {w : World} (h : Sig E φ a w) {fr : List (Nat × D)} {st : List (Nat × O)} (hst : ∀ g o, look g st = some o → look g φ.st = some o)
    (hfr : ∀ t d, look t fr = some d → ∃ d0, look t φ.fr = some d0 ∧ Le d0 d) : Sig E { φ with fr := fr, st := st } a w := by
  have hM : ∀ b, Mx E.X st b → Mx E.X φ.st b := by
    rintro b (h | ⟨g, o, h1, h2⟩)
    · exact .inl h
    · exact .inr ⟨g, o, hst g o h1, h2⟩
  refine ⟨h.defers, h.size, fun t d ht => ?_, ⟨fun g o hg => (h.st.obj g o (hst g o hg)).mono (Ext.refl Non w) (fun _ _ hf => hf.elim) (fun _ _ hn hm => hn (hM _ hm)) (fun _ _ hf => hf),
    fun g g' o o' b h1 h2 => h.st.one g g' o o' b (hst _ _ h1) (hst _ _ h2), h.st.x, fun g o b hg => h.st.sep g o b (hst _ _ hg)⟩, h.ext, fun g o b hg => h.own g o b (hst _ _ hg), fun g d hg => (h.gl g d hg).less hM⟩
  obtain ⟨d0, h1, h2⟩ := hfr t d ht
  exact (h2.sound (h.fr t d0 h1)).less hM

/-- Fewer slots, weaker data, fewer objects. -/
inductive FrSub (fr : List (Nat × D)) : List (Nat × D) → Prop
  | nil : FrSub fr []
  | cons {t : Nat} {d0 d : D} {r : List (Nat × D)} (h0 : look t fr = some d0) (hle : Le d0 d) (h : FrSub fr r) : FrSub fr ((t, d) :: r)
inductive StSub (st : List (Nat × O)) : List (Nat × O) → Prop
  | nil : StSub st []
  | cons {g : Nat} {o : O} {r : List (Nat × O)} (h0 : look g st = some o) (h : StSub st r) : StSub st ((g, o) :: r)
theorem FrSub.get {fr fr' : List (Nat × D)} (h : FrSub fr fr') : ∀ t d, look t fr' = some d → ∃ d0, look t fr = some d0 ∧ Le d0 d := by
  induction h with
  | nil => intro t d h; simp [look] at h
  | cons h0 hle _ ih =>
    intro t d hd
    simp only [look] at hd
    split at hd
    · rename_i ht; cases hd; subst ht; exact ⟨_, h0, hle⟩
    · exact ih t d hd
theorem StSub.get {st st' : List (Nat × O)} (h : StSub st st') : ∀ g o, look g st' = some o → look g st = some o := by
  induction h with
  | nil => intro t d h; simp [look] at h
  | cons h0 _ ih =>
    intro t d hd
    simp only [look] at hd
    split at hd
    · rename_i ht; cases hd; subst ht; exact h0
    · exact ih t d hd
theorem Weak.sub {N : Nat} {fr fr' : List (Nat × D)} {st st' : List (Nat × O)} (hf : FrSub fr fr') (hs : StSub st st') : Weak E ⟨N, fr, st⟩ ⟨N, fr', st'⟩ :=
  fun _ _ h => h.sub hs.get hf.get

/-- A nil slice becomes a row of the body's own. -/
theorem Weak.ownNil {N : Nat} {fr : List (Nat × D)} {st : List (Nat × O)} (t g : Nat) (e : TypeId) (size : Nat) (ht : look t fr = some .nil) (hg : look g st = none) (hro : g ∉ E.ro) :
    Weak E ⟨N, fr, st⟩ ⟨N, upd t (.own g none 0 0) fr, upd g (.row none 0 0 e size []) st⟩ := by
  intro a w h
  have hup := h.upd (k := g) (o := .row none 0 0 e size []) (B := Non) (Ext.refl _ _) (fun _ _ hf => hf.elim) hro (fun b hb => by simp [O.blk] at hb)
    (fun M' hM => ⟨rfl, by simp, [], World.ownsRow_nil w 0 e size, by simpa using Rl.nil⟩)
  have hs := hup.1
  refine ⟨hs.defers, hs.size, fun s d hd => ?_, hs.st, hs.ext, hs.own, hs.gl⟩
  rw [look_upd] at hd
  split at hd
  · rename_i hts
    cases hd
    subst hts
    have := h.fr t .nil ht
    generalize hv : a.tmps.getD t undef = v at this
    cases this
    exact .own ..
  · exact hs.fr s d hd

/-- A row of the body's own becomes a slice that nobody turns any more. -/
theorem Weak.freeze {N : Nat} {fr : List (Nat × D)} {st : List (Nat × O)} (t g : Nat) {A : Option Addr} {n cap : Nat} {e : TypeId} {size : Nat} {es : List (List D)} (ht : look t fr = some (.own g A n cap)) (hg : look g st = some (.row A n cap e size es)) :
    Weak E ⟨N, fr, st⟩ ⟨N, upd t (.sl false size es) fr, dropK g st⟩ := by
  intro a w h
  have hs := h.sub (fr := fr) (st := dropK g st) (fun g' o hg' => by rw [look_dropK] at hg'; split at hg'; cases hg'; exact hg') (fun t d hd => ⟨d, hd, .refl d⟩)
  refine ⟨hs.defers, hs.size, fun s d hd => ?_, hs.st, hs.ext, hs.own, hs.gl⟩
  simp only at hd ⊢
  rw [look_upd] at hd
  split at hd
  · rename_i hts
    cases hd
    subst hts
    have hr := h.fr t _ ht
    generalize hv : a.tmps.getD t undef = v at hr ⊢
    cases hr
    have hlent : Lent st [g] [.own g A n cap] [.sl false size es] := .own (by simp) hg .nil
    have := hlent.sound (ks := []) (by simp) h.st (vs := [.slice A n cap]) (.cons (.own g A n cap) .nil)
    refine this.head.less ?_
    rintro b (hx | ⟨g', o', h1, h2⟩)
    · exact .inl (.inl hx)
    · rw [look_dropK] at h1
      split at h1
      · cases h1
      · rename_i hne
        exact .inl (.inr ⟨g', o', h1, h2, by simp, by simpa using Ne.symm hne⟩)
  · exact hs.fr s d hd
end

/-! ### A function's entry and its end -/

def numF : Nat → List D → List (Nat × D)
  | _, [] => []
  | i, d :: r => (i, d) :: numF (i + 1) r
theorem look_numF : ∀ (ds : List D) (i t : Nat) (d : D), look t (numF i ds) = some d → i ≤ t ∧ ds[t - i]? = some d
  | [], _, _, _, h => by simp [numF, look] at h
  | e :: r, i, t, d, h => by
    simp only [numF, look] at h
    split at h
    · rename_i hi; cases h; subst hi; simp
    · rename_i hi
      obtain ⟨h1, h2⟩ := look_numF r (i + 1) t d h
      refine ⟨by omega, ?_⟩
      rw [show t - i = (t - (i + 1)) + 1 by omega]
      simpa using h2

def resAll (P : Program) (φ : St) : List ResultVar → (List D → Prop) → Prop
  | [], K => K []
  | .tmp t :: r, K => withO (look t φ.fr) fun d => resAll P φ r fun ds => K (d :: ds)
  | .cell a t :: r, K => withO (look a φ.fr) fun d => loadN P φ.st t d fun v => resAll P φ r fun ds => K (v :: ds)
def oneOrTup : List D → D
  | [d] => d
  | ds => .tup ds
def retD (P : Program) (rs : List ResultVar) (φ : St) (K : D → Prop) : Prop := resAll P φ rs fun ds => K (oneOrTup ds)

section
variable {P : Program} {E : Env} {φ : St}
def resV (tmps : Array Value) : ResultVar → Sem Value
  | .tmp t => pure (tmps.getD t undef)
  | .cell b t => do loadVar t (← asAddr (tmps.getD b undef))
theorem resAll_sound {a : Act} {w : World} (hs : Sig E φ a w) : ∀ (rs : List ResultVar) {K : List D → Prop}, resAll P φ rs K →
    ∃ vs ds, (rs.mapM (resV a.tmps)).run P w = .ok vs w ∧ Rl w (Mx E.X φ.st) vs ds ∧ K ds
  | [], K, h => ⟨[], [], by simp, .nil, h⟩
  | .tmp t :: r, K, h => by
    obtain ⟨d, hd, h⟩ := withO_elim h
    obtain ⟨vs, ds, h1, h2, h3⟩ := resAll_sound hs r h
    refine ⟨a.tmps.getD t undef :: vs, d :: ds, ?_, .cons (hs.fr t d hd) h2, h3⟩
    rw [List.mapM_cons]
    simp only [resV, Sem.run_bind, Sem.run_pure, Result.andThen_ok, h1]
  | .cell b t :: r, K, h => by
    obtain ⟨d, hd, h⟩ := withO_elim h
    obtain ⟨v, h, hv⟩ := sound_load h
    obtain ⟨u, h4, h5⟩ := hv w E.X _ hs.st (hs.fr b d hd)
    obtain ⟨vs, ds, h1, h2, h3⟩ := resAll_sound hs r h
    refine ⟨u :: vs, v :: ds, ?_, .cons h5 h2, h3⟩
    have h6 : (do loadVar t (← asAddr (a.tmps.getD b undef)) : Sem Value).run P w = .ok u w := by
      simp only [Instr.loadAt, Sem.run_bind] at h4 ⊢
      cases hp : a.tmps.getD b undef with
      | pointer ad =>
        rw [hp] at h4
        cases ad with
        | none => simp [Instr.sureAddr] at h4
        | some ad => simpa [Instr.sureAddr, asAddr] using h4
      | _ => rw [hp] at h4; simp [Instr.sureAddr] at h4
    rw [List.mapM_cons]
    simp only [resV, Sem.run_bind] at h6 ⊢
    simp only [h6, Sem.run_pure, Result.andThen_ok, h1]

theorem retD_sound {a : Act} {w : World} (hs : Sig E φ a w) {fn : Func} {K : D → Prop} (h : retD P fn.results.toList φ K) : ∃ v d, (results fn a.tmps).run P w = .ok v w ∧ R w (Mx E.X φ.st) v d ∧ K d := by
  obtain ⟨vs, ds, h1, h2, h3⟩ := resAll_sound hs _ h
  have h4 : (fn.results.mapM (resV a.tmps)).run P w = .ok vs.toArray w := by
    rw [Array.mapM_eq_mapM_toList]
    simp only [Sem.run_map, h1, Result.andThen_ok]
  have hl := h2.1
  have h5 : (results fn a.tmps).run P w = .ok (if h : vs.toArray.size = 1 then vs.toArray[0] else .tuple vs.toArray) w := by
    have h6 : results fn a.tmps = (do let vs ← fn.results.mapM (resV a.tmps); pure (if h : vs.size = 1 then vs[0] else .tuple vs)) := by
      unfold results
      congr 2
    rw [h6]
    simp only [Sem.run_bind, h4, Result.andThen_ok, Sem.run_pure]
  refine ⟨_, oneOrTup ds, h5, ?_, h3⟩
  match vs, ds, h2 with
  | [], [], _ => exact R_undef
  | [v], [d], h2 => simpa [oneOrTup] using h2.head
  | v :: v' :: vs, d :: d' :: ds, h2 =>
    simp only [oneOrTup]
    rw [dif_neg (by simp)]
    exact R.tup_iff.2 (by simpa using h2)

/-- What the end of a body must say. -/
def bodyS (P : Program) (E : Env) (rs : List ResultVar) (K : D → St → Prop) : Exit → St → Prop
  | .normal, φ => ∃ φ', Weak E φ φ' ∧ retD P rs φ' fun d => K d φ'
  | .ret, φ => ∃ φ', Weak E φ φ' ∧ retD P rs φ' fun d => K d φ'
  | _, _ => False

theorem body_calls {f : FuncId} {fn : Func} {c : Code} (hf : P.funcs[f]? = some fn) (hb : fn.body = some c) {ds : List D} {S : List (Nat × O)} (hn : ds.length ≤ fn.ntmps) {K : D → St → Prop} {w : World} {vs : Array Value}
    (hS : Stor w E.X S) (hG : Glob E.G w (Mx E.X S)) (hr : Rl w (Mx E.X S) vs.toList ds) (hw : E.w0 = w) (hown : ∀ g o b, look g S = some o → o.blk = some b → g ∉ E.ro → E.B0 b ∨ E.w0.heap.size ≤ b)
    (h : Wp P E c (bodyS P E fn.results.toList K) ⟨fn.ntmps, numF 0 ds, S⟩) :
    Calls P f vs w fun e w' => ∃ v d φ' a', e = .returned v ∧ K d φ' ∧ Sig E φ' a' w' ∧ R w' (Mx E.X φ'.st) v d := by
  have hsz : vs.size = ds.length := by simpa using hr.1
  refine calls_of_wp hf hb (wp_mono (h _ w ⟨rfl, by simp only [Array.size_append, Array.size_replicate]; omega, fun t d ht => ?_, hS, by rw [hw]; exact Ext.refl _ _, hown, hG⟩) ?_)
  · obtain ⟨_, h2⟩ := look_numF ds 0 t d ht
    simp only [Nat.sub_zero] at h2
    have htl : t < ds.length := (List.getElem?_eq_some_iff.1 h2).1
    have : (vs ++ Array.replicate (fn.ntmps - vs.size) undef).getD t undef = vs[t] := by
      rw [Array.getD_eq_getD_getElem?, Array.getElem?_append_left (by omega), Array.getElem?_eq_getElem (by omega)]; rfl
    rw [this]
    exact hr.2 t _ d (by rw [Array.getElem?_toList, Array.getElem?_eq_getElem (by omega)]) h2
  · rintro e a' w' ⟨φ', hq, hs⟩
    cases e with
    | normal =>
      obtain ⟨φ2, hwk, hret⟩ := hq
      have hs2 := hwk _ _ hs
      obtain ⟨v, d, h1, h2, h3⟩ := retD_sound hs2 hret
      exact ⟨hs2.defers, v, h1, v, d, φ2, a', rfl, h3, hs2, h2⟩
    | ret =>
      obtain ⟨φ2, hwk, hret⟩ := hq
      have hs2 := hwk _ _ hs
      obtain ⟨v, d, h1, h2, h3⟩ := retD_sound hs2 hret
      exact ⟨hs2.defers, v, h1, v, d, φ2, a', rfl, h3, hs2, h2⟩
    | exit id => exact hq.elim
    | goto l => exact hq.elim
    | panic ch => exact hq.elim
    | outgrown => exact hq.elim

theorem CallTo.of_wp {G : List (Nat × D)} {f : FuncId} {fn : Func} {c : Code} (hf : P.funcs[f]? = some fn) (hb : fn.body = some c) {ds : List D} {S : List (Nat × O)} (hn : ds.length ≤ fn.ntmps) {post : D → List (Nat × O) → Prop}
    (h : ∀ E : Env, E.G = G → E.ro = [] → Wp P E c (bodyS P E fn.results.toList fun d φ => post d φ.st) ⟨fn.ntmps, numF 0 ds, S⟩) : CallTo P G f ds S post := by
  intro X vs w hS hG hr
  refine (body_calls (E := ⟨G, X, Mx Non S, w, []⟩) hf hb hn hS hG hr rfl (fun g o b hg hb _ => .inl (.inr ⟨g, o, hg, hb⟩)) (h ⟨G, X, Mx Non S, w, []⟩ rfl rfl)).mono ?_
  rintro e w' ⟨v, d, φ', a', rfl, hp, hs, hr'⟩
  refine ⟨v, d, φ'.st, rfl, hp, hs.ext, ?_, hs.st, hr'⟩
  rintro b (hf | ⟨g, o, h1, h2⟩)
  · exact hf.elim
  · exact hs.own g o b h1 h2 (by simp)

theorem CallR.of_wp {G : List (Nat × D)} {f : FuncId} {fn : Func} {c : Code} (hf : P.funcs[f]? = some fn) (hb : fn.body = some c) {ds : List D} {S : List (Nat × O)} (hn : ds.length ≤ fn.ntmps) {d : D}
    (h : ∀ E : Env, E.G = G → E.ro = S.map (·.1) → Wp P E c (bodyS P E fn.results.toList fun d' φ => Le d' d ∧ ∀ g o b, look g S = some o → o.blk = some b → ∃ g' o', look g' φ.st = some o' ∧ o'.blk = some b) ⟨fn.ntmps, numF 0 ds, S⟩) : CallR P G f ds S d := by
  intro X vs w hS hG hr
  have hmem : ∀ (l : List (Nat × O)) g o, look g l = some o → g ∈ l.map (·.1) := by
    intro l
    induction l with
    | nil => intro g o h; simp [look] at h
    | cons p l ih =>
      intro g o h
      simp only [look] at h
      split at h
      · rename_i hk; simp [hk]
      · exact List.mem_cons_of_mem _ (ih g o h)
  refine (body_calls (E := ⟨G, X, Non, w, S.map (·.1)⟩) hf hb hn hS hG hr rfl (fun g o b hg hb hro => absurd (hmem S g o hg) hro) (h ⟨G, X, Non, w, S.map (·.1)⟩ rfl rfl)).mono ?_
  rintro e w' ⟨v, d', φ', a', rfl, ⟨hle, hst⟩, hs, hr'⟩
  refine ⟨v, rfl, hs.ext, (hle.sound hr').less ?_⟩
  rintro b (hx | ⟨g, o, h1, h2⟩)
  · exact .inl hx
  · obtain ⟨g', o', h3, h4⟩ := hst g o b h1 h2
    exact .inr ⟨g', o', h3, h4⟩

/-- The end of a body that works on data alone. -/
def PureEnd (d : D) : D → St → Prop := fun d' φ => Le d' d ∧ ∀ g o b, look g ([] : List (Nat × O)) = some o → o.blk = some b → ∃ g' o', look g' φ.st = some o' ∧ o'.blk = some b
theorem resAll_mono : ∀ (rs : List ResultVar) {K K' : List D → Prop}, (∀ ds, K ds → K' ds) → resAll P φ rs K → resAll P φ rs K'
  | [], _, _, hk, h => hk _ h
  | .tmp t :: r, _, _, hk, h => by
    obtain ⟨d, hd, h⟩ := withO_elim h
    simp only [resAll, hd, withO]
    exact resAll_mono r (fun ds h => hk _ h) h
  | .cell a t :: r, _, _, hk, h => by
    obtain ⟨d, hd, h⟩ := withO_elim h
    simp only [resAll, hd, withO]
    obtain ⟨l, hl, h⟩ := withO_elim h
    obtain ⟨cs, h, hb⟩ := behind_det h
    obtain ⟨d', h, hd'⟩ := loadD_det h
    simp only [loadN, hl, withO]
    have hb' : ∀ {K K' : List D → Prop}, behind φ.st d (· = cs) → K cs → behind φ.st d K := fun {K K'} hb hk => by
      unfold behind at hb ⊢
      split at hb
      · subst hb; exact hk
      · split at hb
        · obtain ⟨h1, h2⟩ := hb; subst h2; exact ⟨h1, hk⟩
        · obtain ⟨h1, h2⟩ := hb; subst h2; exact ⟨h1, hk⟩
        · exact hb.elim
      · exact hb.elim
    refine hb' (K' := fun _ => True) hb ?_
    have hl' : ∀ {K : D → Prop}, loadD l.1 l.2.1 cs (· = d') → K d' → loadD l.1 l.2.1 cs K := fun {K} h hk => by
      unfold loadD at h ⊢
      split at h
      · obtain ⟨h1, h2⟩ := h; subst h2; exact ⟨h1, hk⟩
      · split at h
        · subst h; exact hk
        · exact h.elim
    exact hl' hd' (resAll_mono r (fun ds h => hk _ h) h)
theorem ret_pure {rs : List ResultVar} {d : D} (h : retD P rs φ fun d' => Le d' d) : bodyS P E rs (PureEnd d) .ret φ :=
  ⟨φ, Weak.refl _ _, resAll_mono rs (fun _ h => ⟨h, fun g o b h => by simp [look] at h⟩) h⟩
theorem end_pure {rs : List ResultVar} {d : D} (h : retD P rs φ fun d' => Le d' d) : bodyS P E rs (PureEnd d) .normal φ :=
  ⟨φ, Weak.refl _ _, resAll_mono rs (fun _ h => ⟨h, fun g o b h => by simp [look] at h⟩) h⟩
theorem CallR.of_pure {G : List (Nat × D)} {f : FuncId} {fn : Func} {c : Code} (hf : P.funcs[f]? = some fn) (hb : fn.body = some c) {ds : List D} (hn : ds.length ≤ fn.ntmps) {d : D}
    (h : ∀ X B0 w0, Wp P ⟨G, X, B0, w0, []⟩ c (bodyS P ⟨G, X, B0, w0, []⟩ fn.results.toList (PureEnd d)) ⟨fn.ntmps, numF 0 ds, []⟩) : CallR P G f ds [] d :=
  CallR.of_wp hf hb hn fun E hG hro => by
    obtain ⟨G', X, B0, w0, ro⟩ := E
    simp only [List.map_nil] at hG hro
    subst hG hro
    exact h X B0 w0

/-- A contract without objects is good with whatever objects there are. -/
theorem CallR.frame {G : List (Nat × D)} {f : FuncId} {ds : List D} {d : D} (h : CallR P G f ds [] d) (S : List (Nat × O)) : CallR P G f ds S d := by
  intro X vs w hS hG hr
  have hM : ∀ b, Mx (Mx X S) [] b ↔ Mx X S b := fun b => ⟨fun h => by rcases h with h | ⟨g, o, h, _⟩; exact h; simp [look] at h, .inl⟩
  have hst : Stor w (Mx X S) [] := ⟨fun g o h => by simp [look] at h, fun g g' o o' b h => by simp [look] at h, fun b hb => hS.lt hb, fun g o b h => by simp [look] at h⟩
  refine (h (Mx X S) vs w hst (fun g d hg => (hG g d hg).less fun b hb => (hM b).1 hb) ⟨hr.1, fun i v d hv hd => (hr.2 i v d hv hd).less fun b hb => (hM b).1 hb⟩).mono ?_
  rintro e w' ⟨v, rfl, he, hr'⟩
  exact ⟨v, rfl, he, hr'.less fun b hb => (hM b).2 hb⟩
end
end Go.Dw

namespace Go.Dw
open Go Go.RowKit

section
variable {P : Program} {G : List (Nat × D)} {S : List (Nat × O)} {K : D → Prop}

/-- A call of a function that works on data alone. -/
theorem callN_pure {f : FuncId} {first caps ds ds' : List D} {d : D} (hent : enters P f = true) (hle : LeL (first ++ ds ++ caps) ds') (hc : CallR P G f ds' [] d) (hK : K d) : callN P G S (.fn f first caps) ds K :=
  ⟨hent, ds', [], [], d, Lent.of_le hle, by simp, .inl rfl, hc, hK⟩
theorem callN_same {f : FuncId} {ds : List D} {d : D} (hent : enters P f = true) (hc : CallR P G f ds [] d) (hK : K d) : callN P G S (.fn f [] []) ds K :=
  callN_pure hent (by simpa using LeL.refl ds) hc hK
/-- Slices that the caller goes on appending to are lent. -/
theorem callN_lent {f : FuncId} {first caps ds ds' : List D} {d : D} (bw : List Nat) (hent : enters P f = true) (hle : Lent S bw (first ++ ds ++ caps) ds') (hf : d.flat = true) (hc : CallR P G f ds' [] d) (hK : K d) :
    callN P G S (.fn f first caps) ds K :=
  ⟨hent, ds', [], bw, d, hle, by simp, .inr hf, hc, hK⟩
/-- A call that reads objects. -/
theorem callN_read {f : FuncId} {first caps ds ds' : List D} {d : D} (ks : List Nat) (hent : enters P f = true) (hle : LeL (first ++ ds ++ caps) ds') (hc : CallR P G f ds' (sub S ks) d) (hK : K d) : callN P G S (.fn f first caps) ds K :=
  ⟨hent, ds', ks, [], d, Lent.of_le hle, by simp, .inl rfl, hc, hK⟩
end
section
variable {P : Program} {E : Env} {φ : St} {K : St → Prop}
theorem callE_of {f : FuncId} {first caps ds ds' : List D} {dst : Option Tmp} (κ : List (Nat × Nat)) (post : D → List (Nat × O) → Prop) (hent : enters P f = true) (hdst : okDst φ.N dst) (hle : LeL (first ++ ds ++ caps) ds')
    (hn1 : (κ.map (·.1)).Nodup) (hn2 : (κ.map (·.2)).Nodup) (hro : ∀ p ∈ κ, p.2 ∉ E.ro) (hc : CallTo P E.G f ds' (ren (swapK κ) φ.st) post)
    (hK : ∀ d S', post d S' → ∃ κ' : List (Nat × Nat), (κ'.map (·.1)).Nodup ∧ (∀ p ∈ κ', p.2 ∉ E.ro) ∧ K { φ with fr := putF dst d φ.fr, st := ren κ' S' ++ dropAll (κ.map (·.2)) φ.st }) :
    callE P E φ (.fn f first caps) ds dst K := ⟨hent, hdst, ds', κ, post, hle, hn1, hn2, hro, hc, hK⟩
end
end Go.Dw
