/- Code whose types are looked up ahead of the walk, what a walk through it asks, and that it is what a walk through the machine's code asks. -/
import Derived.Test.YtjiccnebfbpcgaaGreatDoorQAx1
set_option linter.unusedSimpArgs false
set_option linter.unusedVariables false
set_option linter.unusedSectionVars false
namespace Go.AL
structure XOper where
  dst : Option Tmp
  op : XOp
  guard : Option (Tmp × Bool)
def cop1 (P : Program) (all : List Oper) (o : Oper) : Option XOper :=
  match (match cop P o.op with | some x => x | none => .bad), o.guard with
  | x, none => some ⟨o.dst, x, none⟩
  | x, some (j, b) => (gdst all j).map fun d => ⟨o.dst, x, some (d, b)⟩
def cops (P : Program) (all : List Oper) : List Oper → Option (List XOper)
  | [] => some []
  | o :: os => match cop1 P all o, cops P all os with
    | some x, some xs => some (x :: xs)
    | _, _ => none
structure CopOk (P : Program) (all : List Oper) (o : Oper) (x : XOper) : Prop where
  dst : x.dst = o.dst
  op : cop P o.op = some x.op ∨ x.op = .bad
  none : x.guard = none → o.guard = none
  some : ∀ d b, x.guard = some (d, b) → ∃ j, o.guard = some (j, b) ∧ gdst all j = some d
theorem cop1_ok {P : Program} {all : List Oper} {o : Oper} {x : XOper} (h : cop1 P all o = some x) : CopOk P all o x := by
  have hx : ∀ y, (match cop P o.op with | some x => x | none => .bad) = y → cop P o.op = some y ∨ y = .bad := by
    intro y hy
    split at hy
    · rename_i z hz; subst hy; exact .inl hz
    · exact .inr hy.symm
  unfold cop1 at h
  split at h
  · rename_i hg; cases h; exact ⟨rfl, hx _ rfl, fun _ => hg, fun d b e => by cases e⟩
  · rename_i j b hg
    cases hd : gdst all j with
    | none => rw [hd] at h; cases h
    | some d =>
      rw [hd] at h
      simp only [Option.map_some, Option.some.injEq] at h
      subst h
      refine ⟨rfl, hx _ rfl, fun e => (by cases e), fun d' b' e => ?_⟩
      simp only [Option.some.injEq, Prod.mk.injEq] at e
      exact ⟨j, by rw [hg, e.2], by rw [hd, e.1]⟩
theorem cops_cons {P : Program} {all : List Oper} {o : Oper} {os : List Oper} {xs : List XOper} (h : cops P all (o :: os) = some xs) : ∃ x ys, xs = x :: ys ∧ CopOk P all o x ∧ cops P all os = some ys := by
  simp only [cops] at h
  split at h
  · rename_i x ys h1 h2; cases h; exact ⟨x, ys, rfl, cop1_ok h1, h2⟩
  · cases h
theorem app_mono {h : AHeap} {s x : AVal} {esz : Nat} {K K' : AVal → AHeap → Prop} (hm : ∀ v h', h.length ≤ h'.length → K v h' → K' v h') (hk : AApp h s x esz K) : AApp h s x esz K' := by
  have key : ∀ new : List (List AVal), AApp1 h s esz new K → AApp1 h s esz new K' := by
    intro new hk
    unfold AApp1 at hk ⊢
    split at hk
    · exact ⟨hk.1, fun e => hm _ _ (Nat.le_refl _) (hk.2.1 e), fun e => hm _ _ (by simp) (hk.2.2 e)⟩
    · exact ⟨hk.1, fun e => hm _ _ (Nat.le_refl _) (hk.2.1 e), fun e => hm _ _ (by simp) (hk.2.2 e)⟩
    · obtain ⟨es, h1, h2, h3, h4, h5⟩ := hk
      exact ⟨es, h1, h2, h3, h4, hm _ _ (by simp) h5⟩
    · obtain ⟨es, h1, h2, h3, h4, h5, h6, h7⟩ := hk
      exact ⟨es, h1, h2, h3, h4, h5, fun e => hm _ _ (by simp [hset]) (h6 e), fun e => hm _ _ (by simp) (h7 e)⟩
    · obtain ⟨h1, h2, h3, h4⟩ := hk
      exact ⟨h1, h2, h3, hm _ _ (by simp [hset]) h4⟩
    · exact hk.elim
  have hk : AElems h x esz fun new => AApp1 h s esz new K := hk
  show AElems h x esz fun new => AApp1 h s esz new _
  exact elems_mono key hk
theorem ayield_mono {P : Program} {a : Nat} {args : List AVal} {h : AHeap} {R R' : AVal → AHeap → Prop} (hm : ∀ v h', R v h' → R' v h') (hk : AYield P a args h R) : AYield P a args h R' := by
  intro C w rargs L h1 h2 h3
  obtain ⟨l, g1, g2, g3⟩ := hk C w rargs L h1 h2 h3
  exact ⟨l, g1, g2, g3.mono fun e w' ⟨v, rv, D, h', e1, e2, e3, e4, e5⟩ => ⟨v, rv, D, h', e1, e2, e3, e4, hm _ _ e5⟩⟩
theorem acallv_mono {P : Program} {f : AVal} {args : List AVal} {h : AHeap} {R R' : AVal → AHeap → Prop} (hm : ∀ v h', R v h' → R' v h') (hk : ACallV P f args h R) : ACallV P f args h R' := by
  unfold ACallV at *
  split at hk
  · rcases hk with hk | ⟨q, h1, h2⟩
    · exact .inl ⟨hk.1, hk.2.mono hm⟩
    · refine .inr ⟨q, h1, ?_⟩
      unfold AExtern at h2 ⊢
      split at h2 <;> first | exact hm _ _ h2 | exact h2.elim
  · exact ayield_mono hm hk
  · exact hk.elim
theorem abin_mono {q : EqK} {op : BinOp} {x y : AVal} {K K' : AVal → Prop} (hm : ∀ v, K v → K' v) (hk : ABin q op x y K) : ABin q op x y K' := by
  unfold ABin at hk ⊢
  split at hk
  · unfold AInt at hk ⊢
    split at hk <;> first | exact ⟨hk.1, hm _ hk.2⟩ | exact ⟨hk.1, hk.2.1, hm _ hk.2.2⟩
  · unfold AStr at hk ⊢
    split at hk <;> first | exact ⟨hk.1, hm _ hk.2⟩ | exact hm _ hk | exact hk.elim
  · split at hk
    · exact aeq_mono (fun _ h => hm _ h) hk
    · exact aeq_mono (fun _ h => hm _ h) hk
    · exact hk.elim
theorem aslice_mono {x : AVal} {l m : Option AVal} {n : Nat} {K K' : AVal → Prop} (hm : ∀ v, K v → K' v) (hk : ASlice x l m n K) : ASlice x l m n K' := by
  unfold ASlice at hk ⊢
  split at hk
  · exact bnd_mono (fun _ h => bnd_mono (fun _ h => ⟨h.1, h.2.1, hm _ h.2.2⟩) h) hk
  · exact bnd_mono (fun _ h => bnd_mono (fun _ h => ⟨h.1, h.2.1, h.2.2.1, h.2.2.2.1, hm _ h.2.2.2.2⟩) h) hk
  · exact bnd_mono (fun _ h => bnd_mono (fun _ h => ⟨h.1, h.2.1, h.2.2.1, hm _ h.2.2.2⟩) h) hk
  · exact bnd_mono (fun _ h => bnd_mono (fun _ h => ⟨h.1, h.2.1, h.2.2.1, hm _ h.2.2.2⟩) h) hk
  · exact bnd_mono (fun _ h => bnd_mono (fun _ h => ⟨h.1, h.2.1, hm _ h.2.2⟩) h) hk
  · exact hk.elim
theorem xop_mono {P : Program} {o : XOp} {t : ATab} {h : AHeap} {K K' : AVal → AHeap → Prop} (hm : ∀ v h', h.length ≤ h'.length → K v h' → K' v h') (hk : XOp1 P o t h K) : XOp1 P o t h K' := by
  have r : ∀ v, K v h → K' v h := fun v => hm v h (Nat.le_refl _)
  cases o
  case move x => exact r _ hk
  case pick c a b =>
    simp only [XOp1] at hk ⊢
    split at hk
    · exact ⟨fun e => r _ (hk.1 e), fun e => r _ (hk.2 e)⟩
    · exact hk.elim
  case load x n agg => exact ALoad.mono r hk
  case store x v n =>
    simp only [XOp1, AStore] at hk ⊢
    split at hk
    · obtain ⟨es, e, cs, h1, h2, h3, h4, h5, h6⟩ := hk
      exact ⟨es, e, cs, h1, h2, h3, h4, h5, hm _ _ (by simp [hset]) h6⟩
    · exact hk.elim
  case nilCheck x =>
    simp only [XOp1, ANilc] at hk ⊢
    split at hk <;> first | exact r _ hk | exact hk.elim
  case bin s q op x y => exact ⟨hk.1, abin_mono r hk.2⟩
  case un op x =>
    simp only [XOp1, AUn] at hk ⊢
    split at hk <;> first | exact r _ hk | exact hk.elim
  case conv q x =>
    simp only [XOp1, AConv] at hk ⊢
    split at hk <;> first | exact r _ hk | exact hk.elim
  case fieldAddr x off =>
    simp only [XOp1, AField] at hk ⊢
    split at hk <;> first | exact r _ hk | exact hk.elim
  case field x off n agg =>
    simp only [XOp1, AFieldV] at hk ⊢
    split at hk <;> first | exact ⟨hk.1, r _ hk.2⟩ | exact hk.elim
  case indexAddr x i esz =>
    simp only [XOp1, AIdx] at hk ⊢
    split at hk
    · exact ⟨hk.1, hk.2.1, hk.2.2.1, r _ hk.2.2.2⟩
    · obtain ⟨e, h1, h2, h3, h4⟩ := hk; exact ⟨e, h1, h2, h3, r _ h4⟩
    · obtain ⟨e, h1, h2, h3, h4⟩ := hk; exact ⟨e, h1, h2, h3, r _ h4⟩
    · exact hk.elim
  case index x i =>
    simp only [XOp1, AIndexS] at hk ⊢
    split at hk
    · obtain ⟨h1, c, h2, h3⟩ := hk; exact ⟨h1, c, h2, r _ h3⟩
    · exact hk.elim
  case alloc z => exact hm _ _ (by simp) hk
  case box x =>
    simp only [XOp1] at hk ⊢
    obtain ⟨p, hp, hk⟩ := optK_some hk
    rw [hp]; exact hm _ _ (by simp) hk
  case build z ps parts => exact fill_mono (fun _ h => r _ h) hk
  case buildSlice z n parts => exact ⟨hk.1, set_mono (fun _ h => hm _ _ (by simp) h) hk.2⟩
  case makeSlice z a b =>
    simp only [XOp1, AMakeS] at hk ⊢
    split at hk
    · exact ⟨hk.1, hk.2.1, hk.2.2.1, hm _ _ (by simp) hk.2.2.2⟩
    · exact hk.elim
  case iface ty x => exact r _ hk
  case func fn f c => exact r _ hk
  case extract x i =>
    simp only [XOp1] at hk ⊢
    split at hk
    · obtain ⟨p, hp, hk⟩ := optK_some hk; rw [hp]; exact r _ hk
    · exact hk.elim
  case slice s x lo hi esz => exact ⟨hk.1, aslice_mono r hk.2⟩
  case len q x =>
    refine ⟨hk.1, ?_⟩
    have hk := hk.2
    unfold ALen at hk ⊢
    split at hk <;> first | exact r _ hk | (obtain ⟨es, h1, h2⟩ := hk; exact ⟨es, h1, r _ h2⟩) | exact hk.elim
  case append esz s x => exact app_mono hm hk
  case idxA x i len esz =>
    simp only [XOp1, AIdxA] at hk ⊢
    split at hk
    · exact ⟨hk.1, hk.2.1, r _ hk.2.2⟩
    · exact ⟨hk.1, hk.2.1, r _ hk.2.2⟩
    · exact hk.elim
  case makeMap => exact hm _ _ (by simp) hk
  case mapPut q m k v =>
    simp only [XOp1, AMapPut] at hk ⊢
    split at hk
    · obtain ⟨es, f, h1, h2, h3, h4⟩ := hk; exact ⟨es, f, h1, h2, h3, hm _ _ (by simp [hset]) h4⟩
    · exact hk.elim
  case mapGet q z x k ok =>
    simp only [XOp1, AMapGet] at hk ⊢
    split at hk
    · obtain ⟨es, f, h1, h2, h3, h4⟩ := hk; exact ⟨es, f, h1, h2, h3, r _ h4⟩
    · exact hk.elim
  case minMax mx args =>
    obtain ⟨v, h1, h2⟩ := det_minMax _ hk
    have mm : ∀ (l : List AVal) (k : IntKind) (x : Int) {K K' : AVal → Prop}, (∀ v, K v → K' v) → AMm mx k x l K → AMm mx k x l K' := by
      intro l
      induction l with
      | nil => intro k x K K' hm hk; exact hm _ hk
      | cons a l ih =>
        intro k x K K' hm hk
        unfold AMm at hk ⊢
        split at hk
        · rename_i e; cases e
        · rename_i e; cases e; exact ih _ _ hm hk
        · exact hk.elim
    simp only [XOp1, AMinMax] at hk ⊢
    split at hk
    · exact mm _ _ _ r hk
    · exact hk.elim
  case copy e d s =>
    simp only [XOp1, ACopy] at hk ⊢
    split at hk
    · obtain ⟨es, h1, h2, h3, h4⟩ := hk
      exact ⟨es, h1, h2, h3, elems_mono (fun _ h => hm _ _ (by simp [hset]) h) h4⟩
    · exact hk.elim
  case bad => exact hk.elim
  case call f args => exact acallv_mono (fun v h' h => ⟨h.1, hm _ _ h.1 h.2⟩) hk
def hlen (h : AHeap) (K : AVal → AHeap → Prop) : AVal → AHeap → Prop := fun v h' => h.length ≤ h'.length ∧ K v h'
theorem xop_len {P : Program} {o : XOp} {t : ATab} {h : AHeap} {K : AVal → AHeap → Prop} (hk : XOp1 P o t h K) : XOp1 P o t h (hlen h K) := xop_mono (fun _ _ a b => ⟨a, b⟩) hk
theorem cop_call {P : Program} {o : Oper} {f : AOpd} {args : List AOpd} (h : cop P o.op = some (.call f args)) :
    ∃ g l ats, o.op = .call { callee := .value g, args := l, argTypes := ats } ∧ f = opdOf g ∧ args = l.toList.map opdOf := by
  obtain ⟨d, op, ty, pos, af, gd⟩ := o
  have om : ∀ {α : Type} {a : Option α} {k : α → XOp} {b : XOp}, a.map k = some b → ∃ c, k c = b := by
    intro α a k b h; cases a with
    | none => cases h
    | some c => exact ⟨c, by simpa using h⟩
  cases op <;> simp only [cop, Option.some.injEq, reduceCtorEq] at h
  case call c =>
    obtain ⟨callee, l, ats⟩ := c
    cases callee with
    | value g => simp only [Option.some.injEq, XOp.call.injEq] at h; exact ⟨g, l, ats, rfl, h.1.symm, h.2.symm⟩
    | invoke r m => simp at h
    | builtin b =>
      cases b <;> simp only [reduceCtorEq, Option.some.injEq] at h
      all_goals split at h
      all_goals first | (cases h; done) | (obtain ⟨c, hc⟩ := om h; cases hc)
  case slice xt x lo hi mx =>
    cases mx with
    | some m => simp at h
    | none => obtain ⟨c, hc⟩ := om h; cases hc
  case index => split at h <;> cases h
  case makeInterface => split at h <;> cases h
  case indexAddr =>
    split at h
    · cases h
    · obtain ⟨c, hc⟩ := om h; cases hc
  case makeMap mt r => cases r <;> simp at h
  all_goals (obtain ⟨c, hc⟩ := om h; cases hc)
theorem xop1 {P : Program} {o : Oper} {x : XOp} (hc : cop P o.op = some x ∨ x = .bad) {t : ATab} {h : AHeap} {K : AVal → AHeap → Prop} (hk : XOp1 P x t h K) : AOp1 P o t h (hlen h K) := by
  rcases hc with hc | rfl
  rotate_left
  · exact hk.elim
  cases hn : x.isCall with
  | false => exact xop1' hc hn (xop_len hk)
  | true =>
    cases x <;> simp only [XOp.isCall, reduceCtorEq] at hn
    case call f args =>
      obtain ⟨g, l, ats, e, rfl, rfl⟩ := cop_call hc
      obtain ⟨d, op, ty, pos, af, gd⟩ := o
      simp only at e
      subst e
      have e1 : l.toList.map (aev t) = (l.toList.map opdOf).map t.ev := by rw [List.map_map]; rfl
      show ACallV P (aev t g) (l.toList.map (aev t)) h _
      rw [e1]; exact hk
def XOps (P : Program) : List XOper → ATab → AHeap → (ATab → AHeap → Prop) → Prop
  | [], t, h, K => K t h
  | ⟨d, op, none⟩ :: rest, t, h, K => XOp1 P op t h fun v h' => XOps P rest (t.put d v) h' K
  | ⟨d, op, some (g, b)⟩ :: rest, t, h, K => AGuard (t.get g) b (XOp1 P op t h fun v h' => XOps P rest (t.put d v) h' K) (XOps P rest (t.put d skip) h K)
theorem guard_mono {x : AVal} {b : Bool} {A B A' B' : Prop} (ha : A → A') (hb : B → B') (h : AGuard x b A B) : AGuard x b A' B' := by
  unfold AGuard at *
  split at h
  · exact ⟨fun e => ha (h.1 e), fun e => hb (h.2 e)⟩
  · exact hb h
  · exact h.elim
theorem xops {P : Program} {all : List Oper} {K : ATab → AHeap → Prop} : ∀ (os : List Oper) (xs : List XOper), cops P all os = some xs → ∀ (t : ATab) (h : AHeap), XOps P xs t h K → AOps P all os t h K := by
  intro os
  induction os with
  | nil => intro xs hc t h hk; cases hc; exact hk
  | cons o os ih =>
    intro xs hc t h hk
    obtain ⟨x, ys, e0, hx, hc2⟩ := cops_cons hc
    subst e0
    obtain ⟨d, op, g⟩ := x
    have step : XOp1 P op t h (fun v h' => XOps P ys (t.put d v) h' K) → AOp1 P o t h fun v h' => h.length ≤ h'.length ∧ AOps P all os (t.put o.dst v) h' K := by
      intro hk
      have hd : d = o.dst := hx.dst
      subst hd
      exact xop1 hx.op (xop_mono (fun v h' _ hk => ih ys hc2 _ _ hk) hk)
    cases g with
    | none =>
      have hg := hx.none rfl
      unfold AOps
      rw [hg]
      exact step hk
    | some g =>
      obtain ⟨g, b⟩ := g
      obtain ⟨j, hg, hj⟩ := hx.some g b rfl
      unfold AOps
      rw [hg]
      simp only [gval, hj]
      refine guard_mono step ?_ hk
      have hd : d = o.dst := hx.dst
      subst hd
      exact ih ys hc2 _ _
/-! ### Regions that draw their order -/
def XIs (P : Program) (o : XOp) (t : ATab) (h : AHeap) (v : AVal) (h' : AHeap) : Prop := o.isCall = false ∧ XOp1 P o t h fun v' k => v' = v ∧ k = h'
theorem xis {P : Program} {o : Oper} {x : XOp} (hc : cop P o.op = some x ∨ x = .bad) {t : ATab} {h h' : AHeap} {v : AVal} (hk : XIs P x t h v h') : AIs P o t h v h' := by
  rcases hc with hc | rfl
  · exact xop1' hc hk.1 hk.2
  · exact hk.2.elim
def XFresh (o : XOp) (t : ATab) (K : AObj → (Nat → AVal) → Prop) : Prop :=
  match o with
  | .alloc z => K (.rows [z]) fun a => .ptr a 0 0
  | .box x => optK (acells (t.ev x)) fun cs => K (.rows [cs]) fun a => .ptr a 0 0
  | .buildSlice z n parts => n * z.length ≤ 16777216 ∧ ASet z.length (List.replicate n z) (parts.map fun q => (q.1, t.ev q.2)) fun es => K (.rows es) fun a => .slice a z.length 0 n (some n)
  | .makeSlice z len cap => AFresh.ABuildM z (t.ev len) (t.ev cap) K
  | _ => False
theorem xfresh {P : Program} {o : Oper} {x : XOp} (hc : cop P o.op = some x ∨ x = .bad) {t : ATab} {K : AObj → (Nat → AVal) → Prop} (hk : XFresh x t K) : AFresh P o.op t K := by
  rcases hc with hc | rfl
  rotate_left
  · exact hk.elim
  obtain ⟨d, op, ty, pos, af, gd⟩ := o
  have om : ∀ {α : Type} {a : Option α} {k : α → XOp} {b : XOp}, a.map k = some b → ∃ c, a = some c ∧ k c = b := by
    intro α a k b h; cases a with
    | none => cases h
    | some c => exact ⟨c, rfl, by simpa using h⟩
  cases op <;> simp only [cop, Option.some.injEq, reduceCtorEq] at hc
  case alloc e => obtain ⟨p, hp, rfl⟩ := om hc; show optK (zeroT P e) _; rw [hp]; exact hk
  case box e a => subst hc; exact hk
  case buildSlice e n ps =>
    obtain ⟨p, hp, rfl⟩ := om hc; show optK (rowT P e) _; rw [hp]
    have : (ps.toList.map fun q => (q.1, aev t q.2)) = ((ps.toList.map fun q => (q.1, opdOf q.2)).map fun q => (q.1, t.ev q.2)) := by rw [List.map_map]; rfl
    simp only [optK]; rw [this]; exact hk
  case makeSlice e a b => obtain ⟨p, hp, rfl⟩ := om hc; show optK (rowT P e) _; rw [hp]; exact hk
  case call c =>
    obtain ⟨callee, l, ats⟩ := c
    cases callee with
    | value g => simp only [Option.some.injEq] at hc; subst hc; exact hk.elim
    | invoke r m => simp at hc
    | builtin b =>
      cases b <;> simp only [reduceCtorEq, Option.some.injEq] at hc
      all_goals try (subst hc; exact hk.elim)
      all_goals split at hc
      all_goals first | (cases hc; done) | (obtain ⟨c, _, rfl⟩ := om hc; exact hk.elim)
  case slice xt x lo hi mx =>
    cases mx with
    | some m => simp at hc
    | none => obtain ⟨c, _, rfl⟩ := om hc; exact hk.elim
  case index => split at hc <;> cases hc; exact hk.elim
  case makeInterface => split at hc <;> cases hc; exact hk.elim
  case indexAddr =>
    split at hc
    · cases hc; exact hk.elim
    · obtain ⟨c, _, rfl⟩ := om hc; exact hk.elim
  case makeMap mt r =>
    cases r with
    | some r => simp at hc
    | none => cases hc; exact hk.elim
  all_goals first | (subst hc; exact hk.elim) | (obtain ⟨c, _, rfl⟩ := om hc; exact hk.elim)
def XOpD (P : Program) (o : XOp) (t : ATab) (h : AHeap) (K : AVal → AHeap → Prop) : Prop :=
  match o with
  | .call f args => ADetC P (t.ev f) (args.map t.ev) h K
  | o => XOp1 P o t h K
theorem adetc_mono {P : Program} {f : AVal} {args : List AVal} {h : AHeap} {K K' : AVal → AHeap → Prop} (hm : ∀ v h', K v h' → K' v h') (hk : ADetC P f args h K) : ADetC P f args h K' :=
  let ⟨v, h', h1, h2⟩ := hk; ⟨v, h', h1, hm _ _ h2⟩
theorem xopd {P : Program} {o : Oper} {x : XOp} (hc : cop P o.op = some x ∨ x = .bad) {t : ATab} {h : AHeap} {K K' : AVal → AHeap → Prop} (hm : ∀ v h', K v h' → K' v h') (hk : XOpD P x t h K) : AOpD P o t h K' := by
  rcases hc with hc | rfl
  rotate_left
  · exact hk.elim
  cases hn : x.isCall with
  | false =>
    have hk1 : XOp1 P x t h K' := by
      cases x <;> first | (simp [XOp.isCall] at hn; done) | exact xop_mono (fun v h' _ => hm v h') hk
    have h2 := xop1' hc hn hk1
    unfold AOpD
    split
    · rename_i f args ats hop
      rw [hop] at hc
      simp only [cop, Option.some.injEq] at hc
      subst hc; cases hn
    · exact h2
  | true =>
    cases x <;> simp only [XOp.isCall, reduceCtorEq] at hn
    case call f args =>
      obtain ⟨g, l, ats, e, rfl, rfl⟩ := cop_call hc
      obtain ⟨d, op, ty, pos, af, gd⟩ := o
      simp only at e
      subst e
      have e1 : l.toList.map (aev t) = (l.toList.map opdOf).map t.ev := by rw [List.map_map]; rfl
      show ADetC P (aev t g) (l.toList.map (aev t)) h _
      rw [e1]; exact adetc_mono hm hk
def XWant (t : ATab) (g : Option (Tmp × Bool)) (A B : Prop) : Prop :=
  match g with
  | none => A
  | some (g, b) => AGuard (t.get g) b A B
def XDrw (P : Program) : List XOper → List DP → Nat → ATab → AHeap → List (Nat × AHeap) → List AObj → Nat → List (Nat × (AHeap → Prop)) → (ATab → AHeap → Prop) → Prop
  | [], _, _, t, h, _, _, _, _, K => K t h
  | _ :: _, [], _, _, _, _, _, _, _, _ => False
  | ⟨d, o, g⟩ :: os, ⟨.pure, _, _⟩ :: pl, j, t, h, hist, Z, nz, chk, K =>
    XWant t g (XOpD P o t h fun v h' => h' = h ∧ XDrw P os pl j (t.put d v) h hist Z nz chk K) (XDrw P os pl j (t.put d skip) h hist Z nz chk K)
  | ⟨d, o, g⟩ :: os, ⟨.read, lo, hi⟩ :: pl, j, t, h, hist, Z, nz, chk, K =>
    XWant t g (XOpD P o t h fun v h' => h' = h ∧ ABack lo hist (fun g => XIs P o t g v g) ∧ XDrw P os pl j (t.put d v) h hist Z nz ((hi, fun g => XIs P o t g v g) :: chk) K)
      (XDrw P os pl j (t.put d skip) h hist Z nz chk K)
  | ⟨d, o, g⟩ :: os, ⟨.fresh, lo, hi⟩ :: pl, j, t, h, hist, Z, nz, chk, K =>
    XWant t g (XFresh o t fun z val => Z.head? = some z ∧ hget h nz = some z ∧ ABack lo hist (fun g => hget g nz = some z) ∧
        XDrw P os pl j (t.put d (val nz)) h hist Z.tail (nz + 1) ((hi, fun g => hget g nz = some z) :: chk) K)
      (XDrw P os pl j (t.put d skip) h hist Z.tail (nz + 1) chk K)
  | ⟨d, o, g⟩ :: os, ⟨.eff, _, _⟩ :: pl, j, t, h, hist, Z, nz, chk, K =>
    XWant t g (XOpD P o t h fun v h' => h.length ≤ h'.length ∧ AChk (j + 1) chk h' ∧ XDrw P os pl (j + 1) (t.put d v) h' ((j, h) :: hist) Z nz chk K)
      (XDrw P os pl (j + 1) (t.put d skip) h ((j, h) :: hist) Z nz chk K)
theorem aback_mono {lo : Nat} {p q : AHeap → Prop} (hm : ∀ g, p g → q g) : ∀ {hist : List (Nat × AHeap)}, ABack lo hist p → ABack lo hist q
  | [], _ => trivial
  | (_, _) :: _, h => ⟨fun e => hm _ (h.1 e), aback_mono hm h.2⟩
def ChkImp : List (Nat × (AHeap → Prop)) → List (Nat × (AHeap → Prop)) → Prop
  | [], [] => True
  | (a, p) :: xs, (b, q) :: ys => a = b ∧ (∀ g, p g → q g) ∧ ChkImp xs ys
  | _, _ => False
theorem achk_mono {q : Nat} {g : AHeap} : ∀ {c c' : List (Nat × (AHeap → Prop))}, ChkImp c c' → AChk q c g → AChk q c' g
  | [], [], _, h => h
  | (_, _) :: _, (_, _) :: _, ⟨e, hp, hr⟩, h => ⟨fun l => hp _ (h.1 (e ▸ l)), achk_mono hr h.2⟩
  | [], _ :: _, hc, _ => hc.elim
  | _ :: _, [], hc, _ => hc.elim
theorem xwant {P : Program} {all : List Oper} {o : Oper} {x : XOper} (hx : CopOk P all o x) {t : ATab} {A B A' B' : Prop} (ha : A → A') (hb : B → B') (h : XWant t x.guard A B) : AWant all t o A' B' := by
  obtain ⟨d, op, g⟩ := x
  unfold AWant
  cases g with
  | none => rw [hx.none rfl]; exact ha h
  | some g =>
    obtain ⟨g, b⟩ := g
    obtain ⟨j, hg, hj⟩ := hx.some g b rfl
    rw [hg]
    simp only [gval, hj]
    exact guard_mono ha hb h
theorem afresh_mono {P : Program} {op : Op} {t : ATab} {K K' : AObj → (Nat → AVal) → Prop} (hm : ∀ z v, K z v → K' z v) (hk : AFresh P op t K) : AFresh P op t K' := by
  obtain ⟨z, v, h1, h2⟩ := det_fresh hk
  cases op <;> try exact hk.elim
  case alloc e =>
    obtain ⟨p, hp, hk⟩ := optK_some hk
    show optK (zeroT P e) _
    rw [hp]; exact hm _ _ hk
  case box e x =>
    obtain ⟨p, hp, hk⟩ := optK_some hk
    show optK (acells (aev t x)) _
    rw [hp]; exact hm _ _ hk
  case buildSlice e n ps =>
    obtain ⟨p, hp, h1, hk⟩ := optK_some hk
    show optK (rowT P e) _
    rw [hp]; exact ⟨h1, set_mono (fun _ h => hm _ _ h) hk⟩
  case makeSlice e x y =>
    obtain ⟨p, hp, hk⟩ := optK_some hk
    show optK (rowT P e) _
    rw [hp]
    simp only [optK]
    unfold AFresh.ABuildM at hk ⊢
    split at hk
    · exact ⟨hk.1, hk.2.1, hk.2.2.1, hm _ _ hk.2.2.2⟩
    · exact hk.elim
theorem xdrw {P : Program} {all : List Oper} {K : ATab → AHeap → Prop} : ∀ (os : List Oper) (xs : List XOper), cops P all os = some xs → ∀ (pl : List DP) (j : Nat) (t : ATab) (h : AHeap) (hist : List (Nat × AHeap)) (Z : List AObj) (nz : Nat) (chk chk' : List (Nat × (AHeap → Prop))),
    ChkImp chk chk' → XDrw P xs pl j t h hist Z nz chk K → ADrw P all os pl j t h hist Z nz chk' K := by
  intro os
  induction os with
  | nil => intro xs hc pl j t h hist Z nz chk chk' _ hk; cases hc; cases pl <;> exact hk
  | cons o os ih =>
    intro xs hc pl j t h hist Z nz chk chk' hi hk
    obtain ⟨x, ys, e0, hx, hc2⟩ := cops_cons hc
    subst e0
    obtain ⟨d, op, g⟩ := x
    have hd : d = o.dst := hx.dst
    subst hd
    cases pl with
    | nil => exact hk
    | cons p pl =>
      obtain ⟨k, lo, hi'⟩ := p
      cases k with
      | pure => exact xwant hx (xopd hx.op fun v h' h2 => ⟨h2.1, ih ys hc2 _ _ _ _ _ _ _ _ _ hi h2.2⟩) (ih ys hc2 _ _ _ _ _ _ _ _ _ hi) hk
      | read =>
        exact xwant hx (xopd hx.op fun v h' h2 => ⟨h2.1, aback_mono (fun g hg => xis hx.op hg) h2.2.1, ih ys hc2 _ _ _ _ _ _ _ _ _ (show ChkImp (_ :: chk) (_ :: chk') from ⟨rfl, fun g hg => xis hx.op hg, hi⟩) h2.2.2⟩) (ih ys hc2 _ _ _ _ _ _ _ _ _ hi) hk
      | fresh =>
        exact xwant hx (fun hk => afresh_mono (fun z v h2 => ⟨h2.1, h2.2.1, h2.2.2.1, ih ys hc2 _ _ _ _ _ _ _ _ _ (show ChkImp (_ :: chk) (_ :: chk') from ⟨rfl, fun _ hg => hg, hi⟩) h2.2.2.2⟩) (xfresh hx.op hk)) (ih ys hc2 _ _ _ _ _ _ _ _ _ hi) hk
      | eff =>
        exact xwant hx (xopd hx.op fun v h' h2 => ⟨h2.1, achk_mono hi h2.2.1, ih ys hc2 _ _ _ _ _ _ _ _ _ hi h2.2.2⟩) (ih ys hc2 _ _ _ _ _ _ _ _ _ hi) hk
end Go.AL
