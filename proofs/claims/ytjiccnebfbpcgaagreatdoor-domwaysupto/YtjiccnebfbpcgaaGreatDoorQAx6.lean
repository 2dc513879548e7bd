/- A reckoner of whole functions in the abstract picture, and that what it comes to is a contract. -/
import Derived.Test.YtjiccnebfbpcgaaGreatDoorQAx5
set_option linter.unusedSimpArgs false
set_option linter.unusedVariables false
set_option linter.unusedSectionVars false
namespace Go.AL
noncomputable def wmrg : List Nat → List Nat → List Nat
  | [], w => w
  | a :: as, w => match w.any (Nat.beq a) with
    | true => wmrg as w
    | false => wmrg as (a :: w)
theorem wmrg_mem : ∀ (u w : List Nat) (x : Nat), x ∈ u ++ w → x ∈ wmrg u w
  | [], w, x, h => h
  | a :: as, w, x, h => by
    have h : x = a ∨ x ∈ as ++ w := by simpa [or_assoc] using h
    simp only [wmrg]
    split
    · rename_i e
      rcases h with rfl | h
      · obtain ⟨y, hy, e⟩ := List.any_eq_true.1 e
        rw [Nat.eq_of_beq_eq_true e]
        exact wmrg_mem as w y (by simp [hy])
      · exact wmrg_mem as w x h
    · refine wmrg_mem as (a :: w) x ?_
      simp only [List.mem_append, List.mem_cons] at h ⊢
      rcases h with h | h | h
      · exact .inr (.inl h)
      · exact .inl h
      · exact .inr (.inr h)
theorem Goes'.more {h h' : AHeap} {w w' : List Nat} (g : Goes' h w h') (hm : ∀ x, x ∈ w → x ∈ w') : Goes' h w' h' := ⟨g.len, fun a ha hn => g.old a ha fun e => hn (hm a e), g.gone, g.loop⟩
structure RSt where
  n : Nat
  t : ATab
  d : List ADef
  h : RH
noncomputable def RSt.abs (s : RSt) : ASt := ⟨s.n, s.t, s.d, s.h.abs⟩
noncomputable def xloop (body : RSt → Option (Exit × RSt × List Nat)) : Nat → RSt → List Nat → Option (Exit × RSt × List Nat)
  | 0, _, _ => none
  | k + 1, s, w => match body s with
    | some (.normal, s', w') => xloop body k s' (wmrg w' w)
    | some (e, s', w') => some (e, s', wmrg w' w)
    | none => none
noncomputable def xe_skip  (s : RSt) : Option (Exit × RSt × List Nat) := some (.normal, s, [])
noncomputable def xe_ret  (s : RSt) : Option (Exit × RSt × List Nat) := some (.ret, s, [])
noncomputable def xe_bad  (s : RSt) : Option (Exit × RSt × List Nat) := none
noncomputable def xe_exit (id : Nat) (s : RSt) : Option (Exit × RSt × List Nat) := some (.exit id, s, [])
noncomputable def xe_seq (ea eb : RSt → Option (Exit × RSt × List Nat)) (s : RSt) : Option (Exit × RSt × List Nat) := match ea s with
    | some (.normal, s', w) => (match eb s' with
      | some (e, s2, w2) => some (e, s2, w2 ++ w)
      | none => none)
    | x => x
noncomputable def xe_cond (c : AOpd) (ex ey : RSt → Option (Exit × RSt × List Nat)) (s : RSt) : Option (Exit × RSt × List Nat) := match s.t.ev c with
    | .lit (.bool true) => ex s
    | .lit (.bool false) => ey s
    | _ => none
noncomputable def xe_block (id : Nat) (ec : RSt → Option (Exit × RSt × List Nat)) (s : RSt) : Option (Exit × RSt × List Nat) := match ec s with
    | some (.exit i, s', w) => (match Nat.beq i id with
      | true => some (.normal, s', w)
      | false => some (.exit i, s', w))
    | x => x
noncomputable def xe_loop (lf : Nat) (ec : RSt → Option (Exit × RSt × List Nat)) (s : RSt) : Option (Exit × RSt × List Nat) := xloop ec lf s []
noncomputable def xe_region (r : XRun) (ops : List XOper) (s : RSt) : Option (Exit × RSt × List Nat) := match xregs r ops s.t s.h [] with
    | some (t, h, w) => some (.normal, ⟨s.n, t, s.d, h⟩, w)
    | none => none
noncomputable def xe_draw1 (r : XRun) (pl : List DP) (ops : List XOper) (s : RSt) (Z : List AObj) : Option (Exit × RSt × List Nat) :=
  match Nat.ble (nzOf pl pl.length) Z.length with
  | true => (match xdraw r ops pl 0 s.t (s.h.pushL (Z.map some)) [] Z s.h.n [] [] with
    | some (t, h, w) => some (.normal, ⟨s.n, t, s.d, h⟩, w)
    | none => none)
  | false => none
noncomputable def xe_draw (r : XRun) (pl : List DP) (ops : List XOper) (s : RSt) : Option (Exit × RSt × List Nat) :=
  match Nat.beq (nzOf pl pl.length) 0 with
  | true => xe_draw1 r pl ops s []
  | false => xe_draw1 r pl ops s (xdraw0 r ops pl s.t (s.h.pushL (List.replicate (nzOf pl pl.length) (some (.rows [])))) s.h.n [])
noncomputable def xe_range (r : XRun) (ro : Bool) (f : AOpd) (ps : Array Tmp) (as bo : Code) (s : RSt) : Option (Exit × RSt × List Nat) := match ro, s.t.ev f with
    | false, .func (.func gf) first cap =>
      (match r.call gf (first ++ ([.yieldf (s.h.n + 1)] ++ cap)) ((s.h.push (some .defd)).push (some (.loop s.n s.t ps as bo .ready none s.h.n))) with
      | some (_, h', w) => (match h'.get (s.h.n + 1), Nat.ble (s.h.n + 2) h'.n with
        | some (.loop _ _ _ _ _ .busy _ _), _ => none
        | some (.loop _ _ _ _ _ _ none _), true => some (.normal, ⟨s.n, s.t, .mark s.h.n :: s.d, h'.put (s.h.n + 1) none⟩, (s.h.n + 1) :: w)
        | some (.loop _ _ _ _ _ _ (some .ret) _), true => some (.ret, ⟨s.n, s.t, .mark s.h.n :: s.d, h'.put (s.h.n + 1) none⟩, (s.h.n + 1) :: w)
        | some (.loop _ _ _ _ _ _ (some (.exit id)) _), true => some (.exit id, ⟨s.n, s.t, .mark s.h.n :: s.d, h'.put (s.h.n + 1) none⟩, (s.h.n + 1) :: w)
        | _, _ => none)
      | none => none)
    | _, _ => none
noncomputable def xexec (r : XRun) (lf : Nat) (ro : Bool) : XCode → RSt → Option (Exit × RSt × List Nat)
  | .skip => xe_skip
  | .ret => xe_ret
  | .bad => xe_bad
  | .exit id => xe_exit id
  | .seq a b => xe_seq (xexec r lf ro a) (xexec r lf ro b)
  | .cond c x y => xe_cond c (xexec r lf ro x) (xexec r lf ro y)
  | .block id c => xe_block id (xexec r lf ro c)
  | .loop c => xe_loop lf (xexec r lf ro c)
  | .region ops => xe_region r ops
  | .draw pl ops => xe_draw r pl ops
  | .range f ps as bo _ _ => xe_range r ro f ps as bo
noncomputable def Comes (P : Program) (n0 : Nat) (md : Option Nat) (x : XCode) (s : ASt) (e : Exit) (s' : ASt) (w : List Nat) : Prop :=
  Goes' s.h w s'.h ∧ s'.n = s.n ∧ ∀ {Q : Exit → ASt → Prop}, Q e s' → XW P n0 md x Q s
theorem xloop_goes {body : RSt → Option (Exit × RSt × List Nat)} (hb : ∀ s e s' w, body s = some (e, s', w) → Goes' s.h.abs w s'.h.abs ∧ s'.n = s.n) : ∀ (k : Nat) (s : RSt) (w : List Nat) (e : Exit) (s' : RSt) (w' : List Nat) (h0 : AHeap),
    Goes' h0 w s.h.abs → xloop body k s w = some (e, s', w') → Goes' h0 w' s'.h.abs ∧ s'.n = s.n := by
  intro k
  induction k with
  | zero => intro s w e s' w' h0 _ hx; cases hx
  | succ k ih =>
    intro s w e s' w' h0 hg hx
    simp only [xloop] at hx
    split at hx
    · rename_i s1 w1 e1
      obtain ⟨g1, g2⟩ := hb _ _ _ _ e1
      obtain ⟨g3, g4⟩ := ih _ _ _ _ _ h0 ((hg.trans g1).more (wmrg_mem _ _)) hx
      exact ⟨g3, g4.trans g2⟩
    · rename_i e1 s1 w1 _ e2
      cases hx
      obtain ⟨g1, g2⟩ := hb _ _ _ _ e2
      exact ⟨(hg.trans g1).more (wmrg_mem _ _), g2⟩
    · cases hx
theorem xexec_ok {P : Program} {r : XRun} (hr : r.Ok P) {lf : Nat} {ro : Bool} {n0 : Nat} {md : Option Nat} (hmd : ro = false → md = none) : ∀ (x : XCode) (s : RSt) (e : Exit) (s' : RSt) (w : List Nat), xexec r lf ro x s = some (e, s', w) → Comes P n0 md x s.abs e s'.abs w := by
  intro x
  induction x with
  | skip => intro s e s' w hx; cases hx; exact ⟨.refl _, rfl, fun hq => hq⟩
  | ret => intro s e s' w hx; cases hx; exact ⟨.refl _, rfl, fun hq => hq⟩
  | exit id => intro s e s' w hx; cases hx; exact ⟨.refl _, rfl, fun hq => hq⟩
  | bad => intro s e s' w hx; cases hx
  | seq a b iha ihb =>
    intro s e s' w hx
    simp only [xexec, xe_skip, xe_ret, xe_bad, xe_exit, xe_seq, xe_cond, xe_block, xe_loop, xe_region, xe_draw, xe_range] at hx
    split at hx
    · rename_i s1 w1 e1
      obtain ⟨g1, g2, g3⟩ := iha _ _ _ _ e1
      split at hx
      · rename_i e2 s2 w2 e3
        cases hx
        obtain ⟨g4, g5, g6⟩ := ihb _ _ _ _ e3
        exact ⟨g1.trans g4, g5.trans g2, fun hq => g3 (g6 hq)⟩
      · cases hx
    · rename_i hne
      obtain ⟨g1, g2, g3⟩ := iha _ _ _ _ hx
      refine ⟨g1, g2, fun {Q} hq => g3 ?_⟩
      cases e with
      | normal => exact (hne _ _ hx).elim
      | exit id => exact hq
      | goto l => exact hq
      | ret => exact hq
      | panic c => exact hq
      | outgrown => exact hq
  | cond c x y ihx ihy =>
    intro s e s' w hx
    simp only [xexec, xe_skip, xe_ret, xe_bad, xe_exit, xe_seq, xe_cond, xe_block, xe_loop, xe_region, xe_draw, xe_range] at hx
    split at hx
    · rename_i e1
      obtain ⟨g1, g2, g3⟩ := ihx _ _ _ _ hx
      exact ⟨g1, g2, fun hq => by simp only [XW]; rw [show s.abs.t.ev c = _ from e1]; exact ⟨fun _ => g3 hq, fun e => by cases e⟩⟩
    · rename_i e1
      obtain ⟨g1, g2, g3⟩ := ihy _ _ _ _ hx
      exact ⟨g1, g2, fun hq => by simp only [XW]; rw [show s.abs.t.ev c = _ from e1]; exact ⟨fun e => (by cases e), fun _ => g3 hq⟩⟩
    · cases hx
  | block id c ih =>
    intro s e s' w hx
    simp only [xexec, xe_skip, xe_ret, xe_bad, xe_exit, xe_seq, xe_cond, xe_block, xe_loop, xe_region, xe_draw, xe_range] at hx
    split at hx
    · rename_i i s1 w1 e1
      obtain ⟨g1, g2, g3⟩ := ih _ _ _ _ e1
      split at hx
      · rename_i hb
        cases hx
        refine ⟨g1, g2, fun hq => g3 ?_⟩
        simp only [InBlock, Nat.eq_of_beq_eq_true hb, if_true]; exact hq
      · rename_i hb
        cases hx
        refine ⟨g1, g2, fun hq => g3 ?_⟩
        simp only [InBlock]
        rw [if_neg (fun e => by rw [e, Nat.beq_refl] at hb; cases hb)]; exact hq
    · rename_i hne
      obtain ⟨g1, g2, g3⟩ := ih _ _ _ _ hx
      refine ⟨g1, g2, fun {Q} hq => g3 ?_⟩
      cases e with
      | exit i => exact (hne _ _ _ hx).elim
      | normal => exact hq
      | goto l => exact hq
      | ret => exact hq
      | panic c => exact hq
      | outgrown => exact hq
  | loop c ih =>
    intro s e s' w hx
    simp only [xexec, xe_skip, xe_ret, xe_bad, xe_exit, xe_seq, xe_cond, xe_block, xe_loop, xe_region, xe_draw, xe_range] at hx
    obtain ⟨g1, g2⟩ := xloop_goes (fun s e s' w h => ⟨(ih s e s' w h).1, (ih s e s' w h).2.1⟩) _ _ _ _ _ _ s.h.abs (.refl _) hx
    refine ⟨g1, g2, fun {Q} hq => ⟨fun k s1 => ∃ s2 : RSt, s1 = s2.abs ∧ ∃ w1, xloop (xexec r lf ro c) k s2 w1 = some (e, s', w), lf, ⟨_, rfl, Weaker.refl _, s, rfl, [], hx⟩, ?_⟩⟩
    rintro k t d h ⟨s2, es, w1, hk⟩
    rw [es]
    have hn2 : s.abs.n = s.abs.n := rfl
    cases k with
    | zero => cases hk
    | succ k =>
      simp only [xloop] at hk
      split at hk
      · rename_i s3 w2 e2
        exact (ih _ _ _ _ e2).2.2 ⟨k, _, Nat.lt_succ_self k, rfl, Weaker.refl _, _, rfl, _, hk⟩
      · rename_i e1 s2 w2 hne e2
        cases hk
        refine (ih _ _ _ _ e2).2.2 ?_
        cases e with
        | normal => exact (hne rfl).elim
        | exit id => exact hq
        | goto l => exact hq
        | ret => exact hq
        | panic c => exact hq
        | outgrown => exact hq
      · cases hk
  | region ops =>
    intro s e s' w hx
    simp only [xexec, xe_skip, xe_ret, xe_bad, xe_exit, xe_seq, xe_cond, xe_block, xe_loop, xe_region, xe_draw, xe_range] at hx
    split at hx
    · rename_i t h w1 e1
      cases hx
      obtain ⟨g1, g2⟩ := xregs_ok hr _ _ _ _ _ _ _ s.h.abs (.refl _) e1
      exact ⟨g1, rfl, fun hq => g2 hq⟩
    · cases hx
  | draw pl ops =>
    intro s e s' w hx
    have key : ∀ Z, xe_draw1 r pl ops s Z = some (e, s', w) → Comes P n0 md (.draw pl ops) s.abs e s'.abs w := by
      intro Z hx
      unfold xe_draw1 at hx
      split at hx
      · rename_i hb
        split at hx
        · rename_i t h w1 e1
          cases hx
          obtain ⟨g1, g2⟩ := xdraw_ok hr _ _ _ _ _ _ _ _ _ [] _ _ _ _ s.h.abs (show ChkB [] [] from trivial) (by rw [RH.abs_pushL]; exact Goes'.snoc _ _) e1
          refine ⟨g1, rfl, fun hq => ⟨_, hb, ?_⟩⟩
          rename_i Q
          have := g2 (K := fun t h => Q .normal ⟨s.n, t, s.d, h⟩) hq
          rw [RH.abs_pushL, RH.n_eq] at this
          exact this
        · cases hx
      · cases hx
    simp only [xexec, xe_draw] at hx
    split at hx
    · exact key _ hx
    · exact key _ hx
  | range f ps as bo a b iha ihb =>
    intro s e s' w hx
    clear iha ihb
    simp only [xexec, xe_skip, xe_ret, xe_bad, xe_exit, xe_seq, xe_cond, xe_block, xe_loop, xe_region, xe_draw, xe_range] at hx
    split at hx
    · rename_i gf first cap e1
      split at hx
      · rename_i v h' w1 e2
        obtain ⟨g1, g2, g3⟩ := hr.call _ _ _ _ _ _ e2
        simp only [RH.abs_push, List.append_assoc, RH.get_eq, RH.n_eq] at g1 g2 g3 hx
        have hl : hget (s.h.abs ++ [some .defd, some (.loop s.n s.t ps as bo .ready none s.h.abs.length)]) (s.h.abs.length + 1) = some (.loop s.n s.t ps as bo .ready none s.h.abs.length) := by
          rw [hget_append_new]; rfl
        have goes : Goes' s.h.abs ((s.h.abs.length + 1) :: w1) (h'.abs.set (s.h.abs.length + 1) none) := by
          have := ((Goes'.snoc s.h.abs _).trans g1).trans (Goes'.setNone (s.h.abs.length + 1))
          simpa using this
        have fin : ∀ (st : LoopState) (pend : Option Code) (n t ps' as' bo' d), hget h'.abs (s.h.abs.length + 1) = some (.loop n t ps' as' bo' st pend d) → (st = .busy → False) → Nat.ble (s.h.abs.length + 2) h'.abs.length = true →
            ∀ {Q : Exit → ASt → Prop}, (match pend with
              | none => Q .normal ⟨s.n, s.t, .mark s.h.abs.length :: s.d, h'.abs.set (s.h.abs.length + 1) none⟩
              | some .ret => Q .ret ⟨s.n, s.t, .mark s.h.abs.length :: s.d, h'.abs.set (s.h.abs.length + 1) none⟩
              | some (.exit id) => Q (.exit id) ⟨s.n, s.t, .mark s.h.abs.length :: s.d, h'.abs.set (s.h.abs.length + 1) none⟩
              | _ => False) → XW P n0 md (.range f ps as bo a b) Q s.abs := by
          intro st pend n t ps' as' bo' d hg hb hlen Q hq
          refine ⟨hmd rfl, gf, first, cap, e1, g2, g3.mono fun v' k ⟨_, ek⟩ => ?_⟩
          subst ek
          rcases g1.loop _ _ _ _ _ _ _ _ _ hl with hn | ⟨st', pe', hg'⟩
          · rw [hn] at hg; cases hg
          · rw [hg'] at hg
            cases hg
            exact ⟨st, pend, hg', hb, Nat.le_of_ble_eq_true hlen, hq⟩
        split at hx
        · cases hx
        · rename_i st hb hg hlen
          cases hx
          refine ⟨by show Goes' s.h.abs _ (RH.abs _); rw [RH.abs_put]; exact goes, rfl, fun {Q} hq => fin _ _ _ _ _ _ _ _ hg hb hlen (Q := Q) ?_⟩
          simp only [RSt.abs, RH.abs_put] at hq; exact hq
        · rename_i st hb hg hlen
          cases hx
          refine ⟨by show Goes' s.h.abs _ (RH.abs _); rw [RH.abs_put]; exact goes, rfl, fun {Q} hq => fin _ _ _ _ _ _ _ _ hg hb hlen (Q := Q) ?_⟩
          simp only [RSt.abs, RH.abs_put] at hq; exact hq
        · rename_i st id hb hg hlen
          cases hx
          refine ⟨by show Goes' s.h.abs _ (RH.abs _); rw [RH.abs_put]; exact goes, rfl, fun {Q} hq => fin _ _ _ _ _ _ _ _ hg hb hlen (Q := Q) ?_⟩
          simp only [RSt.abs, RH.abs_put] at hq; exact hq
        · cases hx
      · cases hx
    · cases hx
end Go.AL
