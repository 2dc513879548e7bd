/- What an operation does in the abstract picture is sound; calls; regions in the order of the text. -/
import Derived.Test.YtjiccnebfbpcgaaGreatDoorQAl12
set_option linter.unusedSimpArgs false
set_option linter.unusedVariables false
set_option linter.unusedSectionVars false
namespace Go.AL
theorem eqGuard_ok {P : Program} {C : Ctx} {w : World} {op : BinOp} {t : TypeId} {x y : Operand} {ax ay : AVal} {rx ry : Value} (hx : VRel C ax rx) (hy : VRel C ay ry) {K : AVal → Prop} (hk : ABin (eqK P t) op ax ay K)
    (hc : Region.isConst x = true ∨ Region.isConst y = true ∨ ¬ (rx = .nilIface ∧ ry = .nilIface)) : (eqGuard op t x y rx ry).run P w = .ok () w := by
  unfold eqGuard
  by_cases hop : op = .eql ∨ op = .neq
  · have hno : ¬ (!(match op with | .eql => true | .neq => true | _ => false)) = true := by
      rcases hop with rfl | rfl <;> simp
    have noFit : ∀ {cs : Array Value} (q : EqK), ¬ Fits q (.agg cs) := by intro cs q h; cases h
    have agg : ∀ cs ds, rx = .agg cs → ry = .agg ds → False := by
      intro cs ds e1 e2
      subst e1; subst e2
      unfold ABin at hk
      split at hk
      · cases hx
      · cases hx
      · have : ∀ K', ¬ AEq (eqK P t) ax ay K' := by
          intro K' h
          unfold AEq at h
          split at h
          · cases hx
          · exact h
          · exact h
          · exact absurd (fits_ok hx h.1) (noFit _)
        rcases hop with rfl | rfl <;> exact this _ hk
    rw [if_neg]
    · cases rx <;> try rfl
      · cases ry <;> try rfl
        rcases hc with h | h | h
        · cases x <;> first | (cases h; done) | simp
        · cases y <;> first | (cases h; done) | (simp)
        · exact absurd ⟨rfl, rfl⟩ h
      · cases ry <;> try rfl
        exact (agg _ _ rfl rfl).elim
    · rcases hop with rfl | rfl <;> simp
  · rw [if_pos]
    · rfl
    · cases op <;> first | rfl | exact absurd (.inl rfl) hop | exact absurd (.inr rfl) hop
def AVal.notNilI : AVal → Bool
  | .junk | .lit .nilIface => false
  | _ => true
def eqSafe (x y : Operand) (ax ay : AVal) : Bool :=
  Region.isConst x || Region.isConst y || ax.notNilI || ay.notNilI
theorem eqSafe_ok {C : Ctx} {x y : Operand} {ax ay : AVal} {rx ry : Value} (hx : VRel C ax rx) (hy : VRel C ay ry) (h : eqSafe x y ax ay = true) :
    Region.isConst x = true ∨ Region.isConst y = true ∨ ¬ (rx = .nilIface ∧ ry = .nilIface) := by
  unfold eqSafe at h
  simp only [Bool.or_eq_true] at h
  have key : ∀ {v : AVal} {r : Value}, VRel C v r → v.notNilI = true → r ≠ .nilIface := by
    intro v r hv hn e
    subst e
    cases hv <;> simp [AVal.notNilI] at hn
  rcases h with ((h | h) | h) | h
  · exact .inl h
  · exact .inr (.inl h)
  · exact .inr (.inr fun e => key hx h e.1)
  · exact .inr (.inr fun e => key hy h e.2)
theorem step_ok {P : Program} {C : Ctx} {n : Nat} {t : ATab} {h : AHeap} {a : Act} {w : World} (ht : TRel C n t a.tmps) (hr : HRel C h w) (o : Oper) {K : AVal → AHeap → Prop} (hk : AStep P o.op t h K)
    (heq : ∀ op ty x y yt, o.op = .binOp op ty x y yt → eqSafe x y (aev t x) (aev t y) = true) : OpOut P C h w (execOp a.eval o) K := by
  have ev := fun x => aev_rel ht x
  unfold execOp
  cases hop : o.op <;> rw [hop] at hk <;> simp only [AStep] at hk ⊢ <;> try exact hk.elim
  case move x => exact ⟨_, _, C, h, w, _, rfl, .inl rfl, .refl _ _, hr, ev x, hk⟩
  case assign x => exact ⟨_, _, C, h, w, _, rfl, .inl rfl, .refl _ _, hr, ev x, hk⟩
  case pick c x y =>
    have hc := ev c
    split at hk
    · rename_i q hq
      rw [hq] at hc
      generalize a.eval c = rc at hc
      cases hc
      cases q with
      | true => exact ⟨_, _, C, h, w, _, by simp [asBool], .inl rfl, .refl _ _, hr, ev x, hk.1 rfl⟩
      | false => exact ⟨_, _, C, h, w, _, by simp [asBool], .inl rfl, .refl _ _, hr, ev y, hk.2 rfl⟩
    · exact hk.elim
  case load ty x =>
    obtain ⟨p, hp, hk⟩ := optK_some hk
    exact opOut_val hr (sound_load hr (varT_ok hp) (ev x) hk)
  case store ty x v =>
    obtain ⟨p, hp, hk⟩ := optK_some hk
    obtain ⟨w', h', h1, h2, h3, h4⟩ := sound_store hr (varT_ok hp) (ev x) (ev v) hk
    exact ⟨.junk, undef, C, h', w', _, by simp only [Sem.run_bind, h1, Result.andThen_ok, Sem.run_pure], .inr ⟨rfl, rfl⟩, .refl _ _, h2, .junk _, h4⟩
  case nilCheck x =>
    have hx := ev x
    generalize a.eval x = rx at hx
    unfold ANilc at hk
    split at hk <;> first | exact hk.elim | skip
    all_goals (rename_i hq; rw [hq] at hx; rw [hq] at hk; have hx2 := hx; cases hx; exact ⟨_, _, C, h, w, _, rfl, .inl rfl, .refl _ _, hr, hx2, hk⟩)
  case binOp op ty x y yt =>
    refine opOut_val hr ?_
    obtain ⟨v, rv, h1, h2, h3⟩ := sound_bin (w := w) (ev x) (ev y) hk
    have hg := eqGuard_ok (w := w) (ev x) (ev y) hk (eqSafe_ok (ev x) (ev y) (heq op ty x y yt hop))
    exact ⟨v, rv, by simp only [Sem.run_bind, hg, h1, Result.andThen_ok], h2, h3⟩
  case unOp op ty x => exact opOut_val hr (sound_un (ev x) hk)
  case convert s d x =>
    obtain ⟨p, hp, hk⟩ := optK_some hk
    exact opOut_val hr (sound_conv hp (ev x) hk)
  case makeInterface ty x =>
    refine opOut_val hr ⟨_, .iface ty (a.eval x), ?_, .iface _ _ _ (ev x), hk.2⟩
    have := hk.1
    cases hu : P.underlying ty with
    | none => rw [hu] at this; exact this.elim
    | some d =>
      rw [hu] at this
      simp only [Instr.makeInterface, Sem.run_bind, run_underlying hu, Result.andThen_ok]
      cases d <;> first | rfl | exact this.elim
  case makeFunc fn first cap =>
    refine opOut_val hr ⟨_, .func fn (first.map a.eval) (cap.map a.eval), rfl, ?_, hk⟩
    exact .func _ _ _ _ _ (mapRel ht first).1 (mapRel ht cap).1 (mapRel ht first).2 (mapRel ht cap).2
  case makeSlice ty len cap =>
    obtain ⟨p, hp, hk⟩ := optK_some hk
    exact opOut_out (sound_makeS hr hp (ev len) (ev cap) hk)
  case alloc e =>
    obtain ⟨z, hz, hk⟩ := optK_some hk
    obtain ⟨i, zv, h1, h2, h3, h4⟩ := zeroT_ok hz
    obtain ⟨D, w', g1, g2, g3, g4⟩ := sound_newVar (P := P) hr (h4 C) e
    refine opOut_out ⟨_, _, D, _, w', ?_, g2, g3, g4, hk⟩
    simp only [Instr.alloc, Sem.run_bind, run_zeroValue_of h1 h2, Result.andThen_ok, g1, Sem.run_pure]
  case box e x =>
    obtain ⟨cs, hc, hk⟩ := optK_some hk
    obtain ⟨D, w', g1, g2, g3, g4⟩ := sound_newVar (P := P) hr (acells_ok (ev x) hc) e
    exact opOut_out ⟨_, _, D, _, w', box_run e _ w w' g1, g2, g3, g4, hk⟩
  case build ty parts =>
    obtain ⟨p, hp, hk⟩ := optK_some hk
    refine opOut_val hr (sound_build hp ?_ hk)
    rw [Array.toList_map]
    exact partsRel ht parts.toList
  case buildSlice ty len parts =>
    obtain ⟨p, hp, hk⟩ := optK_some hk
    refine opOut_out (sound_buildS hr hp ?_ hk)
    rw [Array.toList_map]
    exact partsRel ht parts.toList
  case fieldAddr ty x f =>
    obtain ⟨p, hp, hk⟩ := optK_some hk
    exact opOut_val hr (sound_fieldAddr hp (ev x) hk)
  case field ty x f =>
    obtain ⟨p, hp, hk⟩ := optK_some hk
    exact opOut_val hr (sound_fieldV hp (ev x) hk)
  case indexAddr ty x i => exact opOut_val hr (sound_idxT (ev x) (ev i) hk)
  case makeMap ty r =>
    cases r with
    | some r => exact hk.elim
    | none => exact opOut_out (sound_makeMap hr ty hk)
  case mapUpdate ty m k v =>
    obtain ⟨q, hq, hk⟩ := optK_some hk
    obtain ⟨w', h', h1, h2, h3⟩ := sound_mapPut hr hq (ev m) (ev k) (ev v) hk
    exact ⟨.junk, undef, C, h', w', _, by simp only [Sem.run_bind, h1, Result.andThen_ok, Sem.run_pure], .inr ⟨rfl, rfl⟩, .refl _ _, h2, .junk _, h3⟩
  case insert ty m k v =>
    obtain ⟨q, hq, hk⟩ := optK_some hk
    obtain ⟨w', h', h1, h2, h3⟩ := sound_mapPut hr hq (ev m) (ev k) (ev v) hk
    exact ⟨.junk, undef, C, h', w', _, by simp only [Sem.run_bind, h1, Result.andThen_ok, Sem.run_pure], .inr ⟨rfl, rfl⟩, .refl _ _, h2, .junk _, h3⟩
  case lookup ty x k ok =>
    obtain ⟨p, hp, hk⟩ := optK_some hk
    exact opOut_val hr (sound_mapGet hr (mapTZ_ok hp).1 (mapTZ_ok hp).2 (ev x) (ev k) hk)
  case index ty x i => exact opOut_val hr (sound_indexS hk.1 (ev x) (ev i) hk.2)
  case slice ty x lo hi mx =>
    cases mx with
    | some m => exact hk.elim
    | none =>
      simp only [AStep] at hk
      obtain ⟨p, hp, h1, hk⟩ := optK_some hk
      exact opOut_val hr (sound_slice hp (ev x) (optRel ht lo) (optRel ht hi) h1 hk)
  case extract x i =>
    have hx := ev x
    split at hk
    · rename_i vs hq
      obtain ⟨v, hv, hk⟩ := optK_some hk
      rw [hq] at hx
      generalize a.eval x = rx at hx
      cases hx with
      | tuple _ rs hn hrel =>
        have hlt := (List.getElem?_eq_some_iff.1 hv).1
        refine opOut_val hr ⟨v, rs[i]'(by omega), ?_, hrel i v _ hv (Array.getElem?_eq_getElem (by omega)), hk⟩
        simp only [Instr.extract]
        rw [Array.getElem?_eq_getElem (by omega)]
        rfl
    · exact hk.elim
  case call c =>
    obtain ⟨callee, args, argTypes⟩ := c
    cases callee with
    | value f => exact hk.elim
    | invoke r m => exact hk.elim
    | builtin b =>
      cases b <;> simp only [AStep] at hk <;> try exact hk.elim
      case len =>
        split at hk
        · rename_i x hq
          obtain ⟨q, hp, h1, hk⟩ := optK_some hk
          obtain ⟨args⟩ := args
          simp only at hq
          subst hq
          have := opOut_val (P := P) (K := K) hr (sound_len hr hp o.type (ev x) h1 hk)
          simpa [resolve, invoke, builtin] using this
        · exact hk.elim
      case min =>
        have h1 := mapRel ht args
        obtain ⟨v, rv, g1, g2, g3⟩ := sound_minMax (P := P) (w := w) false (rs := (args.map a.eval).toList) (by rw [h1.1]; simp) (fun i v rv a b => h1.2 i v rv a (by simpa using b)) hk argTypes o.type
        have := opOut_val (P := P) (K := K) (s := Builtin.min_ argTypes o.type (args.map a.eval)) hr ⟨v, rv, by rw [Array.toArray_toList] at g1; exact g1, g2, g3⟩
        simpa [resolve, invoke, builtin] using this
      case max =>
        have h1 := mapRel ht args
        obtain ⟨v, rv, g1, g2, g3⟩ := sound_minMax (P := P) (w := w) true (rs := (args.map a.eval).toList) (by rw [h1.1]; simp) (fun i v rv a b => h1.2 i v rv a (by simpa using b)) hk argTypes o.type
        have := opOut_val (P := P) (K := K) (s := Builtin.max_ argTypes o.type (args.map a.eval)) hr ⟨v, rv, by rw [Array.toArray_toList] at g1; exact g1, g2, g3⟩
        simpa [resolve, invoke, builtin] using this
      case copy =>
        split at hk
        · rename_i d s hq
          obtain ⟨e, he, hk⟩ := optK_some hk
          obtain ⟨args⟩ := args
          simp only at hq
          subst hq
          have := opOut_out (sound_copy hr he o.type (ev d) (ev s) hk)
          simpa [resolve, invoke, builtin] using this
        · exact hk.elim
      case append =>
        split at hk
        · rename_i s x hq
          obtain ⟨p, hp, hk⟩ := optK_some hk
          obtain ⟨args⟩ := args
          simp only at hq
          subst hq
          have hap := appT_ok hp
          have hs := ev s
          have hx := ev x
          have : Out P C h w (Builtin.append_ argTypes o.type #[a.eval s, a.eval x]) K := by
            generalize a.eval s = rs at hs
            generalize aev t s = as at hs hk
            cases hs with
            | slice sa e i len cap rcap L ha hesz hcap hlen hroom =>
              have he : e = p.2 := by
                unfold AApp at hk
                obtain ⟨_, _, _, hk', _⟩ := sound_elems (P := P) hx hk
                cases cap with
                | none => obtain ⟨_, _, h, _⟩ := hk'; exact h
                | some c => obtain ⟨_, _, h, _⟩ := hk'; exact h
              exact app_slice hr hap o.type hx ha (hesz.trans he) hlen hroom cap hcap hk
            | gs tok e es L rcap rc hne htk hesz hlen hroom hsz hc hv =>
              exact app_gs hr hap o.type (.gs tok e es L rcap rc hne htk hesz hlen hroom hsz hc hv) hx hk
            | gnil tok e => exact app_gs hr hap o.type (.gnil tok e) hx hk
            | eslice q => exact app_empty hr hap o.type (.eslice q) hx hk
            | lit =>
              cases rs with
              | slice q m c =>
                cases q with
                | none =>
                  cases m with
                  | zero =>
                    cases c with
                    | zero => exact app_empty hr hap o.type (.lit _) hx hk
                    | succ c => unfold AApp at hk; obtain ⟨_, _, _, hk', _⟩ := sound_elems (P := P) hx hk; exact hk'.elim
                  | succ m => unfold AApp at hk; obtain ⟨_, _, _, hk', _⟩ := sound_elems (P := P) hx hk; exact hk'.elim
                | some q => unfold AApp at hk; obtain ⟨_, _, _, hk', _⟩ := sound_elems (P := P) hx hk; exact hk'.elim
              | _ => unfold AApp at hk; obtain ⟨_, _, _, hk', _⟩ := sound_elems (P := P) hx hk; exact hk'.elim
            | _ =>
              unfold AApp at hk
              obtain ⟨_, _, _, hk', _⟩ := sound_elems (P := P) hx hk
              exact hk'.elim
          have := opOut_out this
          simpa [resolve, invoke, builtin] using this
        · exact hk.elim
end Go.AL
