/- Ranges over functions: the statement; one round. -/
import Derived.Test.YtjiccnebfbpcgaaGreatDoorQAl20
import Derived.RangeFuncIn
import Derived.RangeFuncRecord
set_option linter.unusedSimpArgs false
set_option linter.unusedVariables false
set_option linter.unusedSectionVars false
namespace Go.AL
def RangeEnd (P : Program) (n0 n : Nat) (t : ATab) (d : List ADef) (l0 : Nat) (ps : Array Tmp) (assign body : Code) (Q : Exit → ASt → Prop) (h' : AHeap) : Prop :=
  ∃ st pend, hget h' (l0 + 1) = some (.loop n t ps assign body st pend l0) ∧ (st = .busy → False) ∧ l0 + 2 ≤ h'.length ∧
    match pend with
    | none => Q .normal ⟨n, t, .mark l0 :: d, h'.set (l0 + 1) none⟩
    | some c => AWp P n0 none c Q ⟨n, t, .mark l0 :: d, h'.set (l0 + 1) none⟩
theorem awp_rangeFunc {P : Program} {n0 n : Nat} {Q : Exit → ASt → Prop} {t : ATab} {d : List ADef} {h : AHeap} {g : Operand} {ps : Array Tmp} {assign body : Code} {gf : FuncId} {first cap : List AVal}
    (hg : aev t g = .func (.func gf) first cap) (hok : callOk P gf = true)
    (hk : ACall P gf (first ++ ([.yieldf (h.length + 1)] ++ cap)) (h ++ [some .defd, some (.loop n t ps assign body .ready none h.length)]) fun _ h' => RangeEnd P n0 n t d h.length ps assign body Q h') :
    AWp P n0 none (.rangeFunc g ps assign body) Q ⟨n, t, d, h⟩ := by
  intro C a w ro hs hm hn
  cases hm
  refine wpIn_rangeFunc fun fn hfn => ?_
  have hgv := aev_rel hs.t g
  rw [hg] at hgv
  generalize hev : a.eval g = rg at hgv
  cases hgv with
  | func _ _ _ r1 r2 n1 n2 v1 v2 =>
    -- the two blocks
    have hno := (hs.h.fresh h.length (Nat.le_refl _)).1
    have hr1 := hs.h.alloc (.deferred (some [])) (w' := { w with heap := w.heap.push (.deferred (some [])) }) rfl .defd (fun _ _ => by simp) 0 0 0 0 rfl
    have hsub1 := Ctx.with_sub (C := C) (a := h.length) ⟨w.heap.size, 0, 0, 0, 0⟩ hno
    have hl1 : (h ++ [some AObj.defd]).length = h.length + 1 := by simp
    have hno2 := (hr1.fresh (h ++ [some AObj.defd]).length (Nat.le_refl _)).1
    have hsub2 := Ctx.with_sub (C := C.with h.length ⟨w.heap.size, 0, 0, 0, 0⟩) (a := (h ++ [some AObj.defd]).length) ⟨w.heap.size + 1, 0, 0, 0, 0⟩ hno2
    have hsz1 : ({ w with heap := w.heap.push (.deferred (some [])) } : World).heap.size = w.heap.size + 1 := by simp
    have hr2 := hr1.alloc (.loop { state := .ready, pending := none, fn, tmps := a.tmps, params := ps, assign, body, defers := w.heap.size })
      (w' := { w with heap := (w.heap.push (.deferred (some []))).push (.loop { state := .ready, pending := none, fn, tmps := a.tmps, params := ps, assign, body, defers := w.heap.size }) }) rfl
      (.loop n t ps assign body .ready none h.length) (fun _ _ => by simp) 0 0 0 0 ?_
    rotate_left
    · rw [hsz1]
      refine ⟨fn, a.tmps, ⟨w.heap.size, 0, 0, 0, 0⟩, hsub2.μ _ _ (Ctx.with_self _ _ _), rfl, ?_⟩
      exact (hs.t.mono hsub1).mono hsub2
    rw [hsz1, hl1] at hr2
    have hleC : C.le h.length ((C.with h.length ⟨w.heap.size, 0, 0, 0, 0⟩).with (h.length + 1) ⟨w.heap.size + 1, 0, 0, 0, 0⟩) :=
      (Ctx.with_le C h.length _).trans ((Ctx.with_le _ (h.length + 1) _).mono (Nat.le_succ _))
    generalize hE : (C.with h.length ⟨w.heap.size, 0, 0, 0, 0⟩).with (h.length + 1) ⟨w.heap.size + 1, 0, 0, 0, 0⟩ = E at hr2 hleC
    have hEsub : C.sub E := by rw [← hE]; rw [hl1] at hsub2; exact hsub1.trans hsub2
    have hEl : E.μ (h.length + 1) = some ⟨w.heap.size + 1, 0, 0, 0, 0⟩ := by rw [← hE]; exact Ctx.with_self _ _ _
    have hEd : E.μ h.length = some ⟨w.heap.size, 0, 0, 0, 0⟩ := by
      rw [← hE]; simp only [Ctx.with]; rw [if_neg (by omega)]; simp
    have hheap : h ++ [some .defd] ++ [some (.loop n t ps assign body .ready none h.length)] = h ++ [some .defd, some (.loop n t ps assign body .ready none h.length)] := by simp
    rw [hheap] at hr2
    generalize hW : ({ w with heap := (w.heap.push (.deferred (some []))).push (.loop { state := .ready, pending := none, fn, tmps := a.tmps, params := ps, assign, body, defers := w.heap.size }) } : World) = W at hr2
    have hargs : VRels E (first ++ ([.yieldf (h.length + 1)] ++ cap)) (r1 ++ #[.func (.yield (w.heap.size + 1)) #[] #[]] ++ r2) := by
      rw [← List.append_assoc]
      refine vrels_append (vrels_append ?_ ?_) ?_
      · exact VRels.mono hEsub ⟨n1, v1⟩
      · refine ⟨rfl, fun i v rv a b => ?_⟩
        cases i with
        | zero =>
          simp only [List.getElem?_cons_zero, Option.some.injEq] at a
          simp at b
          subst a; subst b
          exact .yieldf _ _ hEl
        | succ i => simp at a
      · exact VRels.mono hEsub ⟨n2, v2⟩
    have hcall := hk E W _ hr2 hargs
    refine ⟨w.heap.size + 1, [{ target := .collected w.heap.size, args := #[] }], W, { target := .fn (.func gf) r2, args := r1 ++ #[.func (.yield (w.heap.size + 1)) #[] #[]] }, W, gf,
      r1 ++ #[.func (.yield (w.heap.size + 1)) #[] #[]] ++ r2, W, ?_, ?_, fun _ _ => trivial, ?_, fun h => by simp [AFence, Fence.wide] at h, ?_⟩
    · rw [← hW]; exact run_enterLoop_outer _ _ _ _ _
    · simp only [resolve, hev]
      simp [Deferred.ofValue, Act.eval]
    · simp only [invoke]; exact callFunc_run hok _ _
    · have hin : CallsIn (AFence none) (0 - 1) P gf (r1 ++ #[.func (.yield (w.heap.size + 1)) #[] #[]] ++ r2) W _ := (callsIn_wide (n := 0)).2 hcall
      refine hin.mono ?_
      rintro e w3 ⟨v, rv, D, h', rfl, hle, hr', _, st, pend, hgl, hbusy, hlen, hq⟩
      have hl0 : (h ++ [some AObj.defd, some (AObj.loop n t ps assign body .ready none h.length)]).length = h.length + 2 := by simp
      rw [hl0] at hle
      have hDl : D.μ (h.length + 1) = some ⟨w.heap.size + 1, 0, 0, 0, 0⟩ := (hle.eq _ (by omega)).trans hEl
      have hDd : D.μ h.length = some ⟨w.heap.size, 0, 0, 0, 0⟩ := (hle.eq _ (by omega)).trans hEd
      obtain ⟨_, _, r, hr3, fn', rt, Ld, hLd, rfl, _⟩ := hr'.live _ _ _ hgl hDl
      have hlt := hr'.there _ _ hDl
      have hEfresh : E.Fresh (h.length + 2) := by have := hr2.fresh; rwa [hl0] at this
      have hsubD : C.sub D := hEsub.trans (hle.sub hEfresh)
      have hleD : C.le h.length D := hleC.trans (hle.mono (by omega))
      have hnb : st ≠ .busy := fun e => hbusy e
      have hend := run_endLoop (P := P) hr3 hnb
      have hr4 : HRel D (h'.set (h.length + 1) none) (w3.putObj (w.heap.size + 1) (.loop { state := .exhausted, pending := pend, fn := fn', tmps := rt, params := ps, assign, body, defers := Ld.b })) :=
        hr'.turn hgl (fun _ _ => by simp) hDl _ (by simp) (World.putObj_heap_same hlt) (fun b hb => World.putObj_heap_other hb) none (fun x hx => by cases hx)
      have hst : StRel D ⟨n, t, .mark h.length :: d, h'.set (h.length + 1) none⟩ { a with defers := [{ target := .collected w.heap.size, args := #[] }] ++ a.defers } _ :=
        ⟨hs.t.mono hsubD, ⟨⟨_, hDd, rfl⟩, hs.d.mono hsubD⟩, hr4⟩
      refine ⟨pend, _, hend, ?_⟩
      cases pend with
      | none => exact ⟨D, _, hleD.mono hn, hst, by simp only [List.length_set]; have : n0 ≤ h.length := hn; omega, hq⟩
      | some c =>
        have : n0 ≤ h.length := hn
        exact wpIn_mono (hq D _ _ none hst rfl (by simp only [List.length_set]; omega)) fun _ _ _ hp => hp.of_le (hleD.mono hn)
noncomputable def putParams : List Tmp → List AVal → ATab → ATab
  | p :: ps, v :: vs, t => putParams ps vs (t.set p v)
  | _, _, t => t
theorem putParams_rel {C : Ctx} {n : Nat} : ∀ (ps : List Tmp) (vs : List AVal) (rs : List Value) (t : ATab) (tmps : Array Value), TRel C n t tmps → (∀ p ∈ ps, p < n) → vs.length = rs.length → (∀ (i : Nat) v rv, vs[i]? = some v → rs[i]? = some rv → VRel C v rv) →
    TRel C n (putParams ps vs t) ((ps.zip rs).foldl (fun tmps (x : Tmp × Value) => tmps.setIfInBounds x.1 x.2) tmps)
  | [], vs, rs, t, tmps, ht, _, _, _ => by simpa [putParams] using ht
  | p :: ps, [], [], t, tmps, ht, _, _, _ => by simpa [putParams] using ht
  | p :: ps, [], r :: rs, t, tmps, ht, _, h, _ => by simp at h
  | p :: ps, v :: vs, [], t, tmps, ht, _, h, _ => by simp at h
  | p :: ps, v :: vs, r :: rs, t, tmps, ht, hp, hl, hv => by
    simp only [putParams, List.zip_cons_cons, List.foldl_cons]
    refine putParams_rel ps vs rs _ _ ?_ (fun q hq => hp q (List.mem_cons_of_mem _ hq)) (by simpa using hl) (fun i v rv a b => hv (i + 1) v rv a b)
    have := (ht.put (a := { tmps := tmps, defers := [] }) (d := some p) (v := v) (rv := r) (fun x hx => by cases hx; exact hp p (List.mem_cons_self ..)) (hv 0 v r rfl rfl))
    exact this
def RoundEnd (l0 : Nat) (n : Nat) (t : ATab) (ps : Array Tmp) (assign body : Code) (a0 : Nat) (h0 : AHeap) (R : AVal → AHeap → Prop) (jump : Option Code) (h1 : AHeap) : Prop :=
  ∃ pend, hget h1 l0 = some (.loop n t ps assign body .busy pend a0) ∧
    FEnd h0 R (vbool jump.isNone) (hset h1 l0 (.loop n t ps assign body (if jump.isNone then .ready else .done) jump a0))
def RoundPost (l0 : Nat) (n : Nat) (t : ATab) (ps : Array Tmp) (assign body : Code) (a0 : Nat) (h0 : AHeap) (R : AVal → AHeap → Prop) : Exit → ASt → Prop
  | .normal, s => RoundEnd l0 n t ps assign body a0 h0 R none s.h
  | .ret, s => RoundEnd l0 n t ps assign body a0 h0 R (some .ret) s.h
  | .exit id, s => RoundEnd l0 n t ps assign body a0 h0 R (some (.exit id)) s.h
  | .goto x, s => RoundEnd l0 n t ps assign body a0 h0 R (some (.goto x)) s.h
  | _, _ => False
theorem HRel.keep {C D : Ctx} {h h1 : AHeap} {w w' : World} (hr : HRel C h w) (hle : C.le h.length D) (hr' : HRel D h1 w') {m : Nat} (g3 : h.length ≤ m) (g4 : m ≤ h1.length) (g6 : HKeep m h h1) : HRel (D.cut m) (h1.take m) w' := by
  refine hr'.cut m g4 fun a o ho ha => ?_
  rcases g6 a o ho ha with ⟨k1, k2⟩ | k
  · right
    intro L r hL hor
    have : locOf C a o = some L ∨ ∃ e n, o = .tok e n := by
      cases o with
      | tok e n => exact .inr ⟨e, n, rfl⟩
      | _ => left; simp only [locOf] at hL ⊢; rw [hle.eq a k1] at hL; exact hL
    rcases this with hL0 | ⟨e, n, rfl⟩
    · obtain ⟨_, _, r0, _, hor0⟩ := hr.live a o L k2 hL0
      have hb := hor0.isBelow hr.fresh
      have hb2 : OBelow m o := by
        cases hb with
        | rows es h => exact .rows es fun i j e v a b => (h i j e v a b).mono g3
        | tok e k => exact .tok e k
        | map es h => exact .map es fun i e a => ⟨(h i e a).1.mono g3, (h i e a).2.mono g3⟩
        | loop k t p a b st pe de h hd => exact .loop k t p a b st pe de (fun i => (h i).mono g3) (by omega)
        | defd => exact .defd
        | siter s p => exact .siter s p
      exact hor.le (Ctx.cut_le m D) hb2
    · exact hor
  · exact .inl k
theorem ayield_intro {P : Program} {l0 : Nat} {args : List AVal} {h : AHeap} {R : AVal → AHeap → Prop} {n : Nat} {t : ATab} {ps : Array Tmp} {assign body : Code} {pend : Option Code} {a0 : Nat}
    (hl : hget h l0 = some (.loop n t ps assign body .ready pend a0)) (hargs : args.length = ps.size) (hps : ps.toList.all (fun p => decide (p < n)) = true)
    (hk : AWp P h.length (some l0) assign (Then (fun s => hget s.h l0 = some (.loop n t ps assign body .ready pend a0) ∧
        AWp P h.length (some l0) body (RoundPost l0 n t ps assign body a0 h R) ⟨s.n, s.t, s.d, hset s.h l0 (.loop n t ps assign body .busy pend a0)⟩) fun _ _ => False) ⟨n, putParams ps.toList args t, [], h⟩) :
    AYield P l0 args h R := by
  intro C w rargs L hr hv hL
  obtain ⟨_, _, r, hr1, fn, rt, Ld, hLd, rfl, ht⟩ := hr.live l0 _ L hl hL
  refine ⟨_, hr1, by rw [← hv.1]; exact hargs, ?_⟩
  refine roundIn_of_wpIn trivial ?_
  have hlt0 := hget_lt hl
  have htm : TRel C n (putParams ps.toList args t) ((ps.zip rargs).foldl (fun tmps (x : Tmp × Value) => tmps.setIfInBounds x.1 x.2) rt) := by
    rw [← Array.foldl_toList, Array.toList_zip]
    exact putParams_rel _ _ _ _ _ ht (fun p hp => of_decide_eq_true (List.all_eq_true.1 hps p hp)) (by rw [hv.1]; simp) (fun i v rv a b => hv.2 i v rv a (by simpa using b))
  have hm : MRel h.length C (some l0) (some L.b) := ⟨hlt0, L, hL, rfl⟩
  refine wpIn_mono (hk C { tmps := (ps.zip rargs).foldl (fun tmps (x : Tmp × Value) => tmps.setIfInBounds x.1 x.2) rt, defers := [] } w (some L.b) ⟨htm, trivial, hr⟩ hm (Nat.le_refl _)) ?_
  rintro e a1 w1 ⟨D, s, hle, hs, hn, hq⟩
  cases e with
  | normal =>
    obtain ⟨hgs, hq⟩ := hq
    have hDL : D.μ l0 = some L := (hle.eq l0 hlt0).trans hL
    obtain ⟨_, _, r1, hr2, fn1, rt1, Ld1, hLd1, rfl, ht1⟩ := hs.h.live l0 _ L hgs hDL
    have hlt := hs.h.there l0 L hDL
    refine ⟨_, run_beginRound hr2 rfl, ?_⟩
    have hr3 : HRel D (hset s.h l0 (.loop n t ps assign body .busy pend a0)) (w1.putObj L.b (.loop { state := .busy, pending := pend, fn := fn1, tmps := rt1, params := ps, assign, body, defers := Ld1.b })) := by
      refine hs.h.turn hgs (fun _ _ => by simp) hDL _ (by simp) (World.putObj_heap_same hlt) (fun b hb => World.putObj_heap_other hb) _ fun x hx => ?_
      cases hx
      exact ⟨fun _ _ => by simp, fn1, rt1, Ld1, hLd1, rfl, ht1⟩
    refine wpIn_mono (hq D a1 _ (some L.b) ⟨hs.t, hs.d, hr3⟩ (hm.le hle) (by simp only [hset, List.length_set]; exact hn)) ?_
    rintro e2 a2 w2 ⟨E, s2, hle2, hs2, hn2, hq2⟩
    have fin : ∀ jump, RoundEnd l0 n t ps assign body a0 h R jump s2.h → ∃ v w', (Instr.endRound L.b jump).run P w2 = .ok v w' ∧
        (∃ v' rv D' h', Ending.returned v = .returned rv ∧ C.le h.length D' ∧ HRel D' h' w' ∧ VRel D' v' rv ∧ R v' h') := by
      rintro jump ⟨pend2, hg2, hfe⟩
      have hEL : E.μ l0 = some L := (hle2.eq l0 hlt0).trans hDL
      obtain ⟨_, _, r2, hr4, fn2, rt2, Ld2, hLd2, rfl, ht2⟩ := hs2.h.live l0 _ L hg2 hEL
      have hlt2 := hs2.h.there l0 L hEL
      have hr5 : HRel E (hset s2.h l0 (.loop n t ps assign body (if jump.isNone then .ready else .done) jump a0)) (w2.putObj L.b (.loop { state := if jump.isNone then .ready else .done, pending := jump, fn := fn2, tmps := rt2, params := ps, assign, body, defers := Ld2.b })) := by
        refine hs2.h.turn hg2 (fun _ _ => by simp) hEL _ (by simp) (World.putObj_heap_same hlt2) (fun b hb => World.putObj_heap_other hb) _ fun x hx => ?_
        cases hx
        exact ⟨fun _ _ => by simp, fn2, rt2, Ld2, hLd2, rfl, ht2⟩
      have hle3 : C.le h.length E := hle.trans hle2
      obtain ⟨v', h2, ht, hfe⟩ := hfe
      obtain ⟨E2, hle4, hr6, hv⟩ := ht E _ _ hr5 (.lit _)
      have hle3 := hle3.trans hle4
      rcases hfe with g0 | ⟨m, g3, g4, g5, g6, g7⟩
      · exact ⟨_, _, run_endRound jump hr4, _, _, E2, _, rfl, hle3, hr6, hv, g0⟩
      refine ⟨_, _, run_endRound jump hr4, _, _, E2.cut m, _, rfl, hle3.trans ((Ctx.cut_le m E2).mono g3), hr.keep hle3 hr6 g3 g4 g6, hv.le (Ctx.cut_le m E2) g5, g7⟩
    cases e2 with
    | normal => exact fin none hq2
    | ret => exact fin (some .ret) hq2
    | exit id => exact fin (some (.exit id)) hq2
    | goto x => exact fin (some (.goto x)) hq2
    | panic ch => exact hq2.elim
    | outgrown => exact hq2.elim
  | exit id => exact hq.elim
  | goto l => exact hq.elim
  | ret => exact hq.elim
  | panic ch => exact hq.elim
  | outgrown => exact hq.elim
end Go.AL
