/- Code whose types are looked up ahead of the walk: the walk through statements, and that it is one through the machine's. -/
import Derived.Test.YtjiccnebfbpcgaaGreatDoorQAx2
set_option linter.unusedSimpArgs false
set_option linter.unusedVariables false
set_option linter.unusedSectionVars false
namespace Go.AL
inductive XCode where
  | skip | ret | bad
  | exit (id : Nat)
  | seq (a b : XCode)
  | cond (c : AOpd) (x y : XCode)
  | block (id : Nat) (c : XCode)
  | loop (c : XCode)
  | region (ops : List XOper)
  | draw (pl : List DP) (ops : List XOper)
  | range (f : AOpd) (ps : Array Tmp) (assign body : Code) (a b : XCode)
def mkPlan (ops : List Oper) : List DP :=
  let cl := ahead ops []
  let ks := ops.map fun o => dkind o.op
  let es := effs (ks.map fun k => ⟨k, 0, 0⟩) 0
  ks.zipIdx.map fun (k, i) =>
    let lo := (es.takeWhile fun e => (cl.getD i 0).testBit e).length
    let hi := (es.takeWhile fun e => !(cl.getD e 0).testBit i).length
    ⟨k, lo, hi⟩
def XOp.still : XOp → Bool
  | .store .. | .alloc .. | .box .. | .buildSlice .. | .makeSlice .. | .append .. | .makeMap | .mapPut .. | .copy .. | .call .. => false
  | _ => true
def tightB : List XOper → List DP → Nat → Bool
  | [], _, _ => true
  | ⟨_, o, _⟩ :: os, ⟨.pure, _, _⟩ :: pl, j => o.still && tightB os pl j
  | ⟨_, o, _⟩ :: os, ⟨.read, lo, hi⟩ :: pl, j => o.still && (Nat.beq lo j && (Nat.beq hi j && tightB os pl j))
  | ⟨_, o, _⟩ :: os, ⟨.eff, _, _⟩ :: pl, j => !o.isCall && tightB os pl (j + 1)
  | _, _, _ => false
def xdrawn (P : Program) (n : Nat) (ops : List Oper) : XCode :=
  match planOk n ops (mkPlan ops), cops P ops ops with
  | true, some xs => match tightB xs (mkPlan ops) 0 with
    | true => .region xs
    | false => .draw (mkPlan ops) xs
  | _, _ => .bad
def xcomp (P : Program) (n : Nat) : Code → Option XCode
  | .skip => some .skip
  | .label _ => some .skip
  | .ret => some .ret
  | .exit id => some (.exit id)
  | .seq a b => match xcomp P n a, xcomp P n b with | some x, some y => some (.seq x y) | _, _ => none
  | .cond c a b => match xcomp P n a, xcomp P n b with | some x, some y => some (.cond (opdOf c) x y) | _, _ => none
  | .block id c => (xcomp P n c).map (.block id)
  | .loop c => (xcomp P n c).map .loop
  | .scope c => xcomp P n c
  | .region _ ops false => match dstOk n ops.toList, cops P ops.toList ops.toList with
    | true, some xs => some (.region xs)
    | _, _ => some .bad
  | .region _ ops true => some (xdrawn P n ops.toList)
  | .rangeFunc f ps a b => match xcomp P n a, xcomp P n b with
    | some x, some y => if ps.toList.all (fun p => decide (p < n)) then some (.range (opdOf f) ps a b x y) else none
    | _, _ => none
  | .goto _ => some .bad
  | .refuse _ => some .bad
def XRangeEnd (n : Nat) (t : ATab) (d : List ADef) (l0 : Nat) (ps : Array Tmp) (assign body : Code) (Q : Exit → ASt → Prop) (h' : AHeap) : Prop :=
  ∃ st pend, hget h' (l0 + 1) = some (.loop n t ps assign body st pend l0) ∧ (st = .busy → False) ∧ l0 + 2 ≤ h'.length ∧
    match pend with
    | none => Q .normal ⟨n, t, .mark l0 :: d, h'.set (l0 + 1) none⟩
    | some .ret => Q .ret ⟨n, t, .mark l0 :: d, h'.set (l0 + 1) none⟩
    | some (.exit id) => Q (.exit id) ⟨n, t, .mark l0 :: d, h'.set (l0 + 1) none⟩
    | _ => False
def XW (P : Program) (n0 : Nat) (md : Option Nat) : XCode → (Exit → ASt → Prop) → ASt → Prop
  | .skip, Q, s => Q .normal s
  | .ret, Q, s => Q .ret s
  | .exit id, Q, s => Q (.exit id) s
  | .bad, _, _ => False
  | .seq a b, Q, s => XW P n0 md a (Then (XW P n0 md b Q) Q) s
  | .cond c x y, Q, s => (match s.t.ev c with
    | .lit (.bool b) => (b = true → XW P n0 md x Q s) ∧ (b = false → XW P n0 md y Q s)
    | _ => False)
  | .block id c, Q, s => XW P n0 md c (InBlock id Q) s
  | .loop c, Q, s => ∃ (I : Nat → ASt → Prop) (k0 : Nat), (∃ s', s'.n = s.n ∧ Weaker n0 s s' ∧ I k0 s') ∧ ∀ k t d h, I k ⟨s.n, t, d, h⟩ → XW P n0 md c (Then (fun s' => ∃ k' s2, k' < k ∧ s2.n = s'.n ∧ Weaker n0 s' s2 ∧ I k' s2) Q) ⟨s.n, t, d, h⟩
  | .region ops, Q, s => XOps P ops s.t s.h fun t h => Q .normal ⟨s.n, t, s.d, h⟩
  | .draw pl ops, Q, s => ∃ Z, Nat.ble (nzOf pl pl.length) Z.length = true ∧ XDrw P ops pl 0 s.t (s.h ++ Z.map some) [] Z s.h.length [] fun t h => Q .normal ⟨s.n, t, s.d, h⟩
  | .range f ps assign body _ _, Q, s => md = none ∧ ∃ gf first cap, s.t.ev f = .func (.func gf) first cap ∧ callOk P gf = true ∧
      ACall P gf (first ++ ([.yieldf (s.h.length + 1)] ++ cap)) (s.h ++ [some .defd, some (.loop s.n s.t ps assign body .ready none s.h.length)]) fun _ h' => XRangeEnd s.n s.t s.d s.h.length ps assign body Q h'
theorem xrange_mono {n : Nat} {t : ATab} {d : List ADef} {l0 : Nat} {ps : Array Tmp} {assign body : Code} {Q Q' : Exit → ASt → Prop} (hq : ∀ e t d h, Q e ⟨n, t, d, h⟩ → Q' e ⟨n, t, d, h⟩) {h' : AHeap}
    (hk : XRangeEnd n t d l0 ps assign body Q h') : XRangeEnd n t d l0 ps assign body Q' h' := by
  obtain ⟨st, pend, h1, h2, h3, h4⟩ := hk
  refine ⟨st, pend, h1, h2, h3, ?_⟩
  cases pend with
  | none => exact hq _ _ _ _ h4
  | some c => cases c <;> first | exact h4.elim | exact hq _ _ _ _ h4
theorem xops_mono {P : Program} {K K' : ATab → AHeap → Prop} (hm : ∀ t h, K t h → K' t h) : ∀ (xs : List XOper) (t : ATab) (h : AHeap), XOps P xs t h K → XOps P xs t h K' := by
  intro xs
  induction xs with
  | nil => intro t h hk; exact hm _ _ hk
  | cons x xs ih =>
    intro t h hk
    obtain ⟨d, op, g⟩ := x
    cases g with
    | none => exact xop_mono (fun v h' _ hk => ih _ _ hk) hk
    | some g => exact guard_mono (xop_mono (fun v h' _ hk => ih _ _ hk)) (ih _ _) hk
theorem xwant_mono {t : ATab} {g : Option (Tmp × Bool)} {A B A' B' : Prop} (ha : A → A') (hb : B → B') (h : XWant t g A B) : XWant t g A' B' := by
  cases g with
  | none => exact ha h
  | some g => exact guard_mono ha hb h
theorem xopd_plain {P : Program} {x : XOp} (hn : x.isCall = false) {t : ATab} {h : AHeap} {K : AVal → AHeap → Prop} : XOpD P x t h K = XOp1 P x t h K := by
  cases x <;> first | rfl | cases hn
theorem xopd_mono {P : Program} {x : XOp} {t : ATab} {h : AHeap} {K K' : AVal → AHeap → Prop} (hm : ∀ v h', K v h' → K' v h') (hk : XOpD P x t h K) : XOpD P x t h K' := by
  cases hn : x.isCall with
  | true => cases x <;> first | (cases hn; done) | exact adetc_mono hm hk
  | false => rw [xopd_plain hn] at hk ⊢; exact xop_mono (fun v h' _ => hm v h') hk
theorem xfresh_mono {x : XOp} {t : ATab} {K K' : AObj → (Nat → AVal) → Prop} (hm : ∀ z v, K z v → K' z v) (hk : XFresh x t K) : XFresh x t K' := by
  cases x <;> try exact hk.elim
  case alloc z => exact hm _ _ hk
  case box x =>
    obtain ⟨p, hp, hk⟩ := optK_some hk
    show optK _ _
    rw [hp]; exact hm _ _ hk
  case buildSlice z n ps => exact ⟨hk.1, set_mono (fun _ h => hm _ _ h) hk.2⟩
  case makeSlice z a b =>
    simp only [XFresh, AFresh.ABuildM] at hk ⊢
    split at hk
    · exact ⟨hk.1, hk.2.1, hk.2.2.1, hm _ _ hk.2.2.2⟩
    · exact hk.elim
theorem xdrw_mono {P : Program} {K K' : ATab → AHeap → Prop} (hm : ∀ t h, K t h → K' t h) : ∀ (xs : List XOper) (pl : List DP) (j : Nat) (t : ATab) (h : AHeap) (hist : List (Nat × AHeap)) (Z : List AObj) (nz : Nat) (chk : List (Nat × (AHeap → Prop))),
    XDrw P xs pl j t h hist Z nz chk K → XDrw P xs pl j t h hist Z nz chk K' := by
  intro xs
  induction xs with
  | nil => intro pl j t h hist Z nz chk hk; cases pl <;> exact hm _ _ hk
  | cons x xs ih =>
    intro pl j t h hist Z nz chk hk
    obtain ⟨d, op, g⟩ := x
    cases pl with
    | nil => exact hk
    | cons p pl =>
      obtain ⟨k, lo, hi⟩ := p
      cases k with
      | pure => exact xwant_mono (xopd_mono fun v h' h2 => ⟨h2.1, ih _ _ _ _ _ _ _ _ h2.2⟩) (ih _ _ _ _ _ _ _ _) hk
      | read => exact xwant_mono (xopd_mono fun v h' h2 => ⟨h2.1, h2.2.1, ih _ _ _ _ _ _ _ _ h2.2.2⟩) (ih _ _ _ _ _ _ _ _) hk
      | fresh => exact xwant_mono (xfresh_mono fun z v h2 => ⟨h2.1, h2.2.1, h2.2.2.1, ih _ _ _ _ _ _ _ _ h2.2.2.2⟩) (ih _ _ _ _ _ _ _ _) hk
      | eff => exact xwant_mono (xopd_mono fun v h' h2 => ⟨h2.1, h2.2.1, ih _ _ _ _ _ _ _ _ h2.2.2⟩) (ih _ _ _ _ _ _ _ _) hk
theorem xop_still_h {P : Program} {o : XOp} (hs : o.still = true) {t : ATab} {h : AHeap} {K : AVal → AHeap → Prop} (hk : XOp1 P o t h K) : XOp1 P o t h fun v h' => h' = h ∧ K v h := by
  cases o <;> simp only [XOp.still, reduceCtorEq] at hs
  case move x => exact ⟨rfl, hk⟩
  case pick c a b =>
    simp only [XOp1] at hk ⊢
    split at hk
    · exact ⟨fun e => ⟨trivial, hk.1 e⟩, fun e => ⟨trivial, hk.2 e⟩⟩
    · exact hk.elim
  case load x n agg =>
    have hk : ALoad h (t.ev x) n agg fun v => K v h := hk
    show ALoad h (t.ev x) n agg fun v => h = h ∧ K v h
    exact ALoad.mono (fun v hv => ⟨rfl, hv⟩) hk
  case nilCheck x =>
    simp only [XOp1, ANilc] at hk ⊢
    split at hk <;> first | exact ⟨trivial, hk⟩ | exact hk.elim
  case bin s q op x y => exact ⟨hk.1, abin_mono (fun v hv => ⟨rfl, hv⟩) hk.2⟩
  case un op x =>
    simp only [XOp1, AUn] at hk ⊢
    split at hk <;> first | exact ⟨trivial, hk⟩ | exact hk.elim
  case conv q x =>
    simp only [XOp1, AConv] at hk ⊢
    split at hk <;> first | exact ⟨trivial, hk⟩ | exact hk.elim
  case fieldAddr x off =>
    simp only [XOp1, AField] at hk ⊢
    split at hk <;> first | exact ⟨trivial, hk⟩ | exact hk.elim
  case field x off n agg =>
    simp only [XOp1, AFieldV] at hk ⊢
    split at hk <;> first | exact ⟨hk.1, trivial, hk.2⟩ | exact hk.elim
  case indexAddr x i esz =>
    simp only [XOp1, AIdx] at hk ⊢
    split at hk
    · exact ⟨hk.1, hk.2.1, hk.2.2.1, trivial, hk.2.2.2⟩
    · obtain ⟨e, h1, h2, h3, h4⟩ := hk; exact ⟨e, h1, h2, h3, trivial, h4⟩
    · obtain ⟨e, h1, h2, h3, h4⟩ := hk; exact ⟨e, h1, h2, h3, trivial, h4⟩
    · exact hk.elim
  case index x i =>
    simp only [XOp1, AIndexS] at hk ⊢
    split at hk
    · obtain ⟨h1, c, h2, h3⟩ := hk; exact ⟨h1, c, h2, trivial, h3⟩
    · exact hk.elim
  case build z ps parts => exact fill_mono (fun _ h => ⟨rfl, h⟩) hk
  case iface ty x => exact ⟨rfl, hk⟩
  case func fn f c => exact ⟨rfl, hk⟩
  case extract x i =>
    simp only [XOp1] at hk ⊢
    split at hk
    · obtain ⟨p, hp, hk⟩ := optK_some hk; rw [hp]; exact ⟨trivial, hk⟩
    · exact hk.elim
  case slice s x lo hi esz => exact ⟨hk.1, aslice_mono (fun v hv => ⟨rfl, hv⟩) hk.2⟩
  case len q x =>
    refine ⟨hk.1, ?_⟩
    have hk := hk.2
    unfold ALen at hk ⊢
    split at hk <;> first | exact ⟨trivial, hk⟩ | (obtain ⟨es, h1, h2⟩ := hk; exact ⟨es, h1, rfl, h2⟩) | exact hk.elim | exact ⟨rfl, hk⟩
  case idxA x i len esz =>
    simp only [XOp1, AIdxA] at hk ⊢
    split at hk
    · exact ⟨hk.1, hk.2.1, trivial, hk.2.2⟩
    · exact ⟨hk.1, hk.2.1, trivial, hk.2.2⟩
    · exact hk.elim
  case mapGet q z x k ok =>
    simp only [XOp1, AMapGet] at hk ⊢
    split at hk
    · obtain ⟨es, f, h1, h2, h3, h4⟩ := hk; exact ⟨es, f, h1, h2, h3, trivial, h4⟩
    · exact hk.elim
  case minMax mx args =>
    obtain ⟨v, h1, h2⟩ := det_minMax _ hk
    have := xop_mono (P := P) (o := .minMax mx args) (t := t) (h := h) (K := fun v' k => v' = v ∧ k = h) (K' := fun v' k => k = h ∧ K v' h) (fun v' k _ e => by obtain ⟨rfl, rfl⟩ := e; exact ⟨rfl, h2⟩)
    refine this ?_
    show AMinMax mx (args.map t.ev) fun v' => v' = v ∧ h = h
    simpa using h1
  case bad => exact hk.elim
theorem tight_ok {P : Program} {K : ATab → AHeap → Prop} : ∀ (xs : List XOper) (pl : List DP) (j : Nat) (t : ATab) (h : AHeap) (hist : List (Nat × AHeap)) (nz : Nat) (chk : List (Nat × (AHeap → Prop))),
    tightB xs pl j = true → (∀ c ∈ chk, c.1 ≤ j) → (∀ q ∈ hist, q.1 < j) → XOps P xs t h K → XDrw P xs pl j t h hist [] nz chk K := by
  have ach : ∀ (chk : List (Nat × (AHeap → Prop))) (q : Nat) (g : AHeap), (∀ c ∈ chk, c.1 < q) → AChk q chk g := by
    intro chk
    induction chk with
    | nil => intro q g _; trivial
    | cons c cs ih =>
      intro q g hc
      obtain ⟨a, p⟩ := c
      exact ⟨fun l => absurd l (Nat.not_le.2 (hc _ (List.mem_cons_self ..))), ih q g fun c h => hc c (List.mem_cons_of_mem _ h)⟩
  have abk : ∀ (hist : List (Nat × AHeap)) (lo : Nat) (p : AHeap → Prop), (∀ q ∈ hist, q.1 < lo) → ABack lo hist p := by
    intro hist
    induction hist with
    | nil => intro lo p _; trivial
    | cons c cs ih =>
      intro lo p hc
      obtain ⟨a, g⟩ := c
      exact ⟨fun l => absurd l (Nat.not_le.2 (hc _ (List.mem_cons_self ..))), ih lo p fun c h => hc c (List.mem_cons_of_mem _ h)⟩
  intro xs
  induction xs with
  | nil => intro pl j t h hist nz chk _ _ _ hk; cases pl <;> exact hk
  | cons x xs ih =>
    intro pl j t h hist nz chk hb hc hh hk
    obtain ⟨d, o, g⟩ := x
    have hk' : XWant t g (XOp1 P o t h fun v h' => XOps P xs (t.put d v) h' K) (XOps P xs (t.put d skip) h K) := by
      cases g with
      | none => exact hk
      | some g => exact hk
    cases pl with
    | nil => cases hb
    | cons p pl =>
      obtain ⟨k, lo, hi⟩ := p
      have ncall : ∀ {o : XOp}, o.still = true → o.isCall = false := by intro o h; cases o <;> first | rfl | cases h
      cases k with
      | pure =>
        simp only [tightB, Bool.and_eq_true] at hb
        exact xwant_mono (fun hk => by rw [xopd_plain (ncall hb.1)]; exact xop_mono (fun v h' _ e => ⟨e.1, ih _ _ _ _ _ _ _ hb.2 hc hh e.2⟩) (xop_still_h hb.1 hk)) (fun hk => ih _ _ _ _ _ _ _ hb.2 hc hh hk) hk'
      | read =>
        simp only [tightB, Bool.and_eq_true] at hb
        obtain ⟨b1, b2, b3, b4⟩ := hb
        have e1 := Nat.eq_of_beq_eq_true b2
        have e2 := Nat.eq_of_beq_eq_true b3
        subst e1
        subst e2
        refine xwant_mono (fun hk => ?_) (fun hk => ih _ _ _ _ _ _ _ b4 hc hh hk) hk'
        rw [xopd_plain (ncall b1)]
        refine xop_mono (fun v h' _ e => ⟨e.1, abk _ _ _ hh, ih _ _ _ _ _ _ ((_, fun g => XIs P o t g v g) :: chk) b4 (fun c hc' => ?_) hh e.2⟩) (xop_still_h b1 hk)
        rcases List.mem_cons.1 hc' with rfl | hc'
        · exact Nat.le_refl _
        · exact hc c hc'
      | fresh => cases o <;> cases hb
      | eff =>
        simp only [tightB, Bool.and_eq_true, Bool.not_eq_true'] at hb
        refine xwant_mono (fun hk => ?_) (fun hk => ih _ _ _ _ _ _ _ hb.2 (fun c hc' => Nat.le_succ_of_le (hc c hc')) (fun q hq => ?_) hk) hk'
        · rw [xopd_plain hb.1]
          refine xop_mono (fun v h' _ e => ⟨e.1, ach _ _ _ (fun c hc' => Nat.lt_succ_of_le (hc c hc')), ih _ _ _ _ _ _ _ hb.2 (fun c hc' => Nat.le_succ_of_le (hc c hc')) (fun q hq => ?_) e.2⟩) (xop_len hk)
          rcases List.mem_cons.1 hq with rfl | hq
          · exact Nat.lt_succ_self _
          · exact Nat.lt_succ_of_lt (hh q hq)
        · rcases List.mem_cons.1 hq with rfl | hq
          · exact Nat.lt_succ_self _
          · exact Nat.lt_succ_of_lt (hh q hq)
theorem tight_fresh : ∀ (xs : List XOper) (pl : List DP) (j : Nat), tightB xs pl j = true → xs.length = pl.length → nzOf pl pl.length = 0 := by
  intro xs
  induction xs with
  | nil => intro pl j _ hl; cases pl with | nil => rfl | cons _ _ => simp at hl
  | cons x xs ih =>
    intro pl j hb hl
    obtain ⟨d, o, g⟩ := x
    cases pl with
    | nil => simp at hl
    | cons p pl =>
      obtain ⟨k, lo, hi⟩ := p
      have hl' : xs.length = pl.length := by simpa using hl
      have e : nzOf (⟨k, lo, hi⟩ :: pl) (⟨k, lo, hi⟩ :: pl : List DP).length = nzOf pl pl.length + (if k = .fresh then 1 else 0) := by
        unfold nzOf
        simp only [List.length_cons, List.take_length, List.countP_cons]
        rw [show ((⟨k, lo, hi⟩ :: pl : List DP).take (pl.length + 1)) = ⟨k, lo, hi⟩ :: pl by simp]
        simp only [List.countP_cons, decide_eq_true_eq]
      rw [e]
      cases k with
      | pure => simp only [tightB, Bool.and_eq_true] at hb; rw [ih _ _ hb.2 hl']; rfl
      | read => simp only [tightB, Bool.and_eq_true] at hb; rw [ih _ _ hb.2.2.2 hl']; rfl
      | fresh => cases o <;> cases hb
      | eff => simp only [tightB, Bool.and_eq_true] at hb; rw [ih _ _ hb.2 hl']; rfl
theorem xw_mono {P : Program} {n0 : Nat} {md : Option Nat} : ∀ (x : XCode) (Q Q' : Exit → ASt → Prop) (s : ASt), (∀ e t d h, Q e ⟨s.n, t, d, h⟩ → Q' e ⟨s.n, t, d, h⟩) → XW P n0 md x Q s → XW P n0 md x Q' s := by
  intro x
  induction x with
  | skip => intro Q Q' s hq hk; exact hq _ _ _ _ hk
  | ret => intro Q Q' s hq hk; exact hq _ _ _ _ hk
  | bad => intro Q Q' s hq hk; exact hk.elim
  | exit id => intro Q Q' s hq hk; exact hq _ _ _ _ hk
  | seq a b iha ihb =>
    intro Q Q' s hq hk
    refine iha _ _ s (fun e t d h hk => ?_) hk
    cases e with
    | normal => exact ihb _ _ _ hq hk
    | exit id => exact hq _ _ _ _ hk
    | goto l => exact hq _ _ _ _ hk
    | ret => exact hq _ _ _ _ hk
    | panic c => exact hq _ _ _ _ hk
    | outgrown => exact hq _ _ _ _ hk
  | cond c x y ihx ihy =>
    intro Q Q' s hq hk
    simp only [XW] at hk ⊢
    split at hk
    · exact ⟨fun e => ihx _ _ s hq (hk.1 e), fun e => ihy _ _ s hq (hk.2 e)⟩
    · exact hk.elim
  | block id c ih =>
    intro Q Q' s hq hk
    refine ih _ _ s (fun e t d h hk => ?_) hk
    cases e with
    | exit i =>
      simp only [InBlock] at hk ⊢
      split at hk
      · rename_i he; rw [if_pos he]; exact hq _ _ _ _ hk
      · rename_i he; rw [if_neg he]; exact hq _ _ _ _ hk
    | normal => exact hq _ _ _ _ hk
    | goto l => exact hq _ _ _ _ hk
    | ret => exact hq _ _ _ _ hk
    | panic c => exact hq _ _ _ _ hk
    | outgrown => exact hq _ _ _ _ hk
  | loop c ih =>
    intro Q Q' s hq hk
    obtain ⟨I, k0, h0, hr⟩ := hk
    refine ⟨I, k0, h0, fun k t d h hI => ih _ _ _ (fun e t d h hk => ?_) (hr k t d h hI)⟩
    cases e with
    | normal => exact hk
    | exit id => exact hq _ _ _ _ hk
    | goto l => exact hq _ _ _ _ hk
    | ret => exact hq _ _ _ _ hk
    | panic c => exact hq _ _ _ _ hk
    | outgrown => exact hq _ _ _ _ hk
  | region ops => intro Q Q' s hq hk; exact xops_mono (fun t h hk => hq _ _ _ _ hk) _ _ _ hk
  | draw pl ops =>
    intro Q Q' s hq hk
    obtain ⟨Z, hZ, hk⟩ := hk
    exact ⟨Z, hZ, xdrw_mono (fun t h hk => hq _ _ _ _ hk) _ _ _ _ _ _ _ _ _ hk⟩
  | range f ps as bo a b _ _ =>
    intro Q Q' s hq hk
    obtain ⟨h1, gf, first, cap, h2, h3, h4⟩ := hk
    exact ⟨h1, gf, first, cap, h2, h3, h4.mono fun v h' hk => xrange_mono (fun e t d h => hq e t d h) hk⟩
theorem Then_imp {n : Nat} {K K' : ASt → Prop} {Q Q' : Exit → ASt → Prop} (hk : ∀ t d h, K ⟨n, t, d, h⟩ → K' ⟨n, t, d, h⟩) (hq : ∀ e t d h, Q e ⟨n, t, d, h⟩ → Q' e ⟨n, t, d, h⟩) : ∀ e t d h, Then K Q e ⟨n, t, d, h⟩ → Then K' Q' e ⟨n, t, d, h⟩ := by
  intro e t d h hh
  cases e with
  | normal => exact hk _ _ _ hh
  | exit id => exact hq _ _ _ _ hh
  | goto l => exact hq _ _ _ _ hh
  | ret => exact hq _ _ _ _ hh
  | panic c => exact hq _ _ _ _ hh
  | outgrown => exact hq _ _ _ _ hh
def NQ (n : Nat) (Q : Exit → ASt → Prop) : Exit → ASt → Prop := fun e s => s.n = n ∧ (∀ l, e ≠ .goto l) ∧ Q e s
theorem nj {e : Exit} (h : (match e with | .goto _ => false | _ => true) = true) : ∀ l, e ≠ .goto l := fun l e' => by subst e'; cases h
theorem cops_len {P : Program} {all : List Oper} : ∀ (os : List Oper) (xs : List XOper), cops P all os = some xs → xs.length = os.length
  | [], xs, h => by cases h; rfl
  | o :: os, xs, h => by
    obtain ⟨x, ys, e, _, h2⟩ := cops_cons h
    subst e
    rw [List.length_cons, List.length_cons, cops_len os ys h2]
theorem xw (P : Program) (hm : P.follows .mixedOrders = true) (n0 : Nat) (md : Option Nat) (n : Nat) : ∀ (c : Code) (x : XCode), xcomp P n c = some x → ∀ (Q : Exit → ASt → Prop) (s : ASt), s.n = n → XW P n0 md x Q s → AWp P n0 md c (NQ n Q) s := by
  intro c
  induction c with
  | skip => intro x hc Q s hs hk; cases hc; exact awp_skip ⟨hs, nj rfl, hk⟩
  | label l => intro x hc Q s hs hk; cases hc; exact awp_label ⟨hs, nj rfl, hk⟩
  | ret => intro x hc Q s hs hk; cases hc; exact awp_ret ⟨hs, nj rfl, hk⟩
  | exit id => intro x hc Q s hs hk; cases hc; exact awp_exit ⟨hs, nj rfl, hk⟩
  | seq a b iha ihb =>
    intro x hc Q s hs hk
    simp only [xcomp] at hc
    split at hc
    · rename_i x1 x2 h1 h2
      cases hc
      refine awp_seq ((iha _ h1 _ s hs hk).mono fun e s' h => ?_)
      obtain ⟨hn, hj, h⟩ := h
      cases e with
      | normal => exact ihb _ h2 _ s' hn h
      | exit id => exact ⟨hn, hj, h⟩
      | goto l => exact (hj l rfl).elim
      | ret => exact ⟨hn, hj, h⟩
      | panic c => exact ⟨hn, hj, h⟩
      | outgrown => exact ⟨hn, hj, h⟩
    · cases hc
  | cond c a b iha ihb =>
    intro x hc Q s hs hk
    simp only [xcomp] at hc
    split at hc
    · rename_i x1 x2 h1 h2
      cases hc
      simp only [XW] at hk
      split at hk
      · rename_i q hq
        refine awp_cond q ?_ (fun e => iha _ h1 _ s hs (hk.1 e)) (fun e => ihb _ h2 _ s hs (hk.2 e))
        rw [← hq]
        generalize opdOf c = y
        cases y <;> rfl
      · exact hk.elim
    · cases hc
  | block id c ih =>
    intro x hc Q s hs hk
    simp only [xcomp] at hc
    cases hx : xcomp P n c with
    | none => rw [hx] at hc; cases hc
    | some y =>
      rw [hx] at hc
      simp only [Option.map_some, Option.some.injEq] at hc
      subst hc
      refine awp_block ((ih _ hx _ s hs hk).mono fun e s' h => ?_)
      obtain ⟨hn, hj, h⟩ := h
      cases e with
      | exit i =>
        simp only [InBlock] at h ⊢
        split at h
        · rename_i he; rw [if_pos he]; exact ⟨hn, nj rfl, h⟩
        · rename_i he; rw [if_neg he]; exact ⟨hn, nj rfl, h⟩
      | normal => exact ⟨hn, hj, h⟩
      | goto l => exact (hj l rfl).elim
      | ret => exact ⟨hn, hj, h⟩
      | panic c => exact ⟨hn, hj, h⟩
      | outgrown => exact ⟨hn, hj, h⟩
  | loop c ih =>
    intro x hc Q s hs hk
    simp only [xcomp] at hc
    cases hx : xcomp P n c with
    | none => rw [hx] at hc; cases hc
    | some y =>
      rw [hx] at hc
      simp only [Option.map_some, Option.some.injEq] at hc
      subst hc
      obtain ⟨I, k0, ⟨s0, hs0, hw0, h0⟩, hr⟩ := hk
      refine awp_loop (fun k s' => s'.n = n ∧ ∃ s2, s2.n = n ∧ Weaker n0 s' s2 ∧ I k s2) k0 ⟨hs, s0, hs0.trans hs, hw0, h0⟩ ?_
      rintro k s1 ⟨hn, ⟨n', t, d, h⟩, hn2, hw, hI⟩
      simp only at hn2
      subst hn2
      rw [hs] at hr
      refine AWp.weaken hw ((ih _ hx _ _ rfl (hr k t d h hI)).mono fun e s' hh => ?_)
      obtain ⟨hn, hj, hh⟩ := hh
      cases e with
      | normal => obtain ⟨k', s2, hlt, h2, hw2, hI'⟩ := hh; exact ⟨k', hlt, hn, s2, h2.trans hn, hw2, hI'⟩
      | exit id => exact ⟨hn, hj, hh⟩
      | goto l => exact (hj l rfl).elim
      | ret => exact ⟨hn, hj, hh⟩
      | panic c => exact ⟨hn, hj, hh⟩
      | outgrown => exact ⟨hn, hj, hh⟩
  | region id ops dr =>
    intro x hc Q s hs hk
    obtain ⟨n', t, d, h⟩ := s
    simp only at hs
    subst hs
    have om : ∀ {α β : Type} {a : Option α} {k : α → β} {b : β}, a.map k = some b → ∃ c, a = some c ∧ k c = b := by
      intro α β a k b h; cases a with
      | none => cases h
      | some c => exact ⟨c, rfl, by simpa using h⟩
    cases dr with
    | false =>
      simp only [xcomp] at hc
      split at hc
      · rename_i xs hd hx
        cases hc
        exact awp_region hd (xops _ _ hx _ _ (xops_mono (fun t h hk => ⟨rfl, nj rfl, hk⟩) _ _ _ hk))
      · cases hc; exact hk.elim
    | true =>
      simp only [xcomp, xdrawn, Option.some.injEq] at hc
      split at hc
      · rename_i xs hp hx
        split at hc
        · rename_i htb
          subst hc
          have hlen : xs.length = (mkPlan ops.toList).length := by
            have h1 := plan_of hp
            rw [h1.len]
            exact cops_len _ _ hx
          refine awp_drawn hm _ [] hp (by rw [tight_fresh _ _ _ htb hlen]; rfl) (xdrw _ _ hx _ _ _ _ _ _ _ [] [] (show ChkImp [] [] from trivial) ?_)
          rw [List.map_nil, List.append_nil]
          exact tight_ok _ _ _ _ _ _ _ _ htb (fun c hc => by cases hc) (fun q hq => by cases hq) (xops_mono (fun t h hk => ⟨rfl, nj rfl, hk⟩) _ _ _ hk)
        · subst hc
          obtain ⟨Z, hZ, hk⟩ := hk
          exact awp_drawn hm _ Z hp hZ (xdrw _ _ hx _ _ _ _ _ _ _ [] [] (show ChkImp [] [] from trivial) (xdrw_mono (fun t h hk => ⟨rfl, nj rfl, hk⟩) _ _ _ _ _ _ _ _ _ hk))
      · subst hc; exact hk.elim
  | rangeFunc f ps a b iha ihb =>
    intro x hc Q s hs hk
    obtain ⟨n', t, d, h⟩ := s
    simp only at hs
    subst hs
    simp only [xcomp] at hc
    split at hc
    · rename_i x1 x2 h1 h2
      split at hc
      · rename_i hp
        cases hc
        obtain ⟨rfl, gf, first, cap, e1, e2, hk⟩ := hk
        refine awp_rangeFunc (g := f) e1 e2 (hk.mono fun v h' hk => ?_)
        obtain ⟨st, pend, g1, g2, g3, g4⟩ := hk
        refine ⟨st, pend, g1, g2, g3, ?_⟩
        cases pend with
        | none => exact ⟨rfl, nj rfl, g4⟩
        | some c =>
          cases c <;> first | exact g4.elim | skip
          case ret => exact awp_ret ⟨rfl, nj rfl, g4⟩
          case exit id => exact awp_exit ⟨rfl, nj rfl, g4⟩
      · cases hc
    · cases hc
  | goto l => intro x hc Q s hs hk; cases hc; exact hk.elim
  | scope c ih =>
    intro x hc Q s hs hk
    refine awp_scope ((ih x hc Q s hs hk).mono fun e s' h => ?_)
    obtain ⟨hn, hj, h⟩ := h
    cases e with
    | goto l => exact (hj l rfl).elim
    | exit id => exact ⟨hn, hj, h⟩
    | normal => exact ⟨hn, hj, h⟩
    | ret => exact ⟨hn, hj, h⟩
    | panic c => exact ⟨hn, hj, h⟩
    | outgrown => exact ⟨hn, hj, h⟩
  | refuse w => intro x hc Q s hs hk; cases hc; exact hk.elim
inductive XRes where
  | tmp (i : Nat)
  | cell (a n : Nat) (agg : Bool)
def xresC (P : Program) : ResultVar → Option XRes
  | .tmp i => some (.tmp i)
  | .cell a ty => (varT P ty).map fun p => .cell a p.1 p.2
def xresCs (P : Program) : List ResultVar → Option (List XRes)
  | [] => some []
  | r :: rs => match xresC P r, xresCs P rs with
    | some x, some xs => some (x :: xs)
    | _, _ => none
def XRes1 (r : XRes) (t : ATab) (h : AHeap) (K : AVal → Prop) : Prop :=
  match r with
  | .tmp i => K (t.get i)
  | .cell a n agg => ALoad h (t.get a) n agg K
def XResL : List XRes → ATab → AHeap → (List AVal → Prop) → Prop
  | [], _, _, K => K []
  | r :: rs, t, h, K => XRes1 r t h fun v => XResL rs t h fun vs => K (v :: vs)
def XResV (rs : List XRes) (t : ATab) (h : AHeap) (K : AVal → Prop) : Prop :=
  XResL rs t h fun vs => match vs with
    | [v] => K v
    | vs => K (.tuple vs)
theorem xres1 {P : Program} {r : ResultVar} {x : XRes} (hc : xresC P r = some x) {t : ATab} {h : AHeap} {K : AVal → Prop} (hk : XRes1 x t h K) : ARes1 P r t h K := by
  cases r with
  | tmp i => cases hc; exact hk
  | cell a ty =>
    simp only [xresC] at hc
    cases hp : varT P ty with
    | none => rw [hp] at hc; cases hc
    | some p =>
      rw [hp] at hc
      simp only [Option.map_some, Option.some.injEq] at hc
      subst hc
      show optK (varT P ty) _
      rw [hp]; exact hk
theorem xresL {P : Program} {t : ATab} {h : AHeap} : ∀ (rs : List ResultVar) (xs : List XRes), xresCs P rs = some xs → ∀ {K : List AVal → Prop}, XResL xs t h K → AResL P rs t h K := by
  have mono1 : ∀ (x : XRes) {K K' : AVal → Prop}, (∀ v, K v → K' v) → XRes1 x t h K → XRes1 x t h K' := by
    intro x K K' hm hk
    cases x with
    | tmp i => exact hm _ hk
    | cell a n agg => exact ALoad.mono hm hk
  intro rs
  induction rs with
  | nil => intro xs hc K hk; cases hc; exact hk
  | cons r rs ih =>
    intro xs hc K hk
    simp only [xresCs] at hc
    split at hc
    · rename_i x ys h1 h2
      cases hc
      exact xres1 h1 (mono1 x (fun v hv => ih ys h2 hv) hk)
    · cases hc
theorem xresV {P : Program} {t : ATab} {h : AHeap} {rs : List ResultVar} {xs : List XRes} (hc : xresCs P rs = some xs) {K : AVal → Prop} (hk : XResV xs t h K) : AResV P rs t h K := xresL rs xs hc hk
def XFPost (rs : List XRes) (h0 : AHeap) (R : AVal → AHeap → Prop) : Exit → ASt → Prop
  | .normal, s | .ret, s => ALeave s.d s.h fun h1 => XResV rs s.t h1 fun v => FEnd h0 R v h1
  | _, _ => False
theorem aleave_mono {K K' : AHeap → Prop} (hm : ∀ h, K h → K' h) : ∀ (d : List ADef) (h : AHeap), ALeave d h K → ALeave d h K'
  | [], _, hk => hm _ hk
  | .mark _ :: ds, _, hk => ⟨hk.1, aleave_mono hm ds _ hk.2⟩
  | .call .. :: _, _, hk => hk.elim
theorem xfpost {P : Program} {rs : List ResultVar} {xs : List XRes} (hc : xresCs P rs = some xs) {h0 : AHeap} {R : AVal → AHeap → Prop} : ∀ e s, XFPost xs h0 R e s → FPost P rs h0 R e s := by
  intro e s hk
  cases e with
  | normal => exact aleave_mono (fun h hk => xresV hc hk) _ _ hk
  | ret => exact aleave_mono (fun h hk => xresV hc hk) _ _ hk
  | exit id => exact hk.elim
  | goto l => exact hk.elim
  | panic c => exact hk.elim
  | outgrown => exact hk.elim
structure XFunc where
  n : Nat
  rs : List XRes
  code : XCode
def xfunc (P : Program) (f : FuncId) : Option XFunc :=
  match P.funcs[f]? with
  | some fn => match fn.body with
    | some c => match callOk P f, xcomp P fn.ntmps c, xresCs P fn.results.toList with
      | true, some x, some rs => some ⟨fn.ntmps, rs, x⟩
      | _, _, _ => none
    | none => none
  | none => none
theorem xfunc_ok {P : Program} {f : FuncId} {xf : XFunc} (hf : xfunc P f = some xf) : callOk P f = true ∧ ∃ fn c, P.funcs[f]? = some fn ∧ fn.body = some c ∧ xcomp P fn.ntmps c = some xf.code ∧ xresCs P fn.results.toList = some xf.rs ∧ fn.ntmps = xf.n := by
  unfold xfunc at hf
  split at hf
  · rename_i fn hfn
    split at hf
    · rename_i c hb
      split at hf
      · rename_i x rs h1 h2 h3
        cases hf
        exact ⟨h1, fn, c, hfn, hb, h2, h3, rfl⟩
      · cases hf
    · cases hf
  · cases hf
theorem acall_x {P : Program} (hm : P.follows .mixedOrders = true) {f : FuncId} {xf : XFunc} (hf : xfunc P f = some xf) {args : List AVal} {h : AHeap} {R : AVal → AHeap → Prop} (hn : Nat.ble args.length xf.n = true)
    (hw : XW P h.length none xf.code (XFPost xf.rs h R) ⟨xf.n, mkTab 0 args, [], h⟩) : ACall P f args h R := by
  obtain ⟨_, fn, c, hfn, hb, hx, hrs, hnn⟩ := xfunc_ok hf
  refine acall_intro hfn hb (by rw [hnn]; exact Nat.le_of_ble_eq_true hn) ((xw P hm _ _ fn.ntmps _ _ hx (XFPost xf.rs h R) _ rfl ?_).mono fun e s hh => xfpost hrs e s hh.2.2)
  rw [hnn]; exact hw
end Go.AL
