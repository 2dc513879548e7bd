/- A function's contract out of its body's walk. -/
import Derived.Test.YtjiccnebfbpcgaaGreatDoorQAl14
set_option linter.unusedSimpArgs false
set_option linter.unusedVariables false
set_option linter.unusedSectionVars false
namespace Go.AL
def ARes1 (P : Program) (r : ResultVar) (t : ATab) (h : AHeap) (K : AVal → Prop) : Prop :=
  match r with
  | .tmp i => K (t.get i)
  | .cell a ty => optK (varT P ty) fun p => ALoad h (t.get a) p.1 p.2 K
def AResL (P : Program) : List ResultVar → ATab → AHeap → (List AVal → Prop) → Prop
  | [], _, _, K => K []
  | r :: rs, t, h, K => ARes1 P r t h fun v => AResL P rs t h fun vs => K (v :: vs)
def AResV (P : Program) (rs : List ResultVar) (t : ATab) (h : AHeap) (K : AVal → Prop) : Prop :=
  AResL P rs t h fun vs => match vs with
    | [v] => K v
    | vs => K (.tuple vs)
def ALeave : List ADef → AHeap → (AHeap → Prop) → Prop
  | [], h, K => K h
  | .mark a :: ds, h, K => hget h a = some .defd ∧ ALeave ds (h.set a none) K
  | .call .. :: _, _, _ => False
def HKeep (m : Nat) (h0 h1 : AHeap) : Prop := ∀ a o, hget h1 a = some o → a < m → (a < h0.length ∧ hget h0 a = some o) ∨ OBelow m o
def Turns (n0 : Nat) (v : AVal) (h : AHeap) (v' : AVal) (h' : AHeap) : Prop :=
  ∀ C w rv, HRel C h w → VRel C v rv → ∃ D, C.le n0 D ∧ HRel D h' w ∧ VRel D v' rv
theorem Turns.refl (n0 : Nat) (v : AVal) (h : AHeap) : Turns n0 v h v h := fun C _ _ hr hv => ⟨C, .refl _ _, hr, hv⟩
theorem Turns.trans {n0 : Nat} {v v' v'' : AVal} {h h' h'' : AHeap} (a : Turns n0 v h v' h') (b : Turns n0 v' h' v'' h'') : Turns n0 v h v'' h'' := fun C w rv hr hv =>
  let ⟨D, h1, h2, h3⟩ := a C w rv hr hv; let ⟨E, h4, h5, h6⟩ := b D w rv h2 h3; ⟨E, h1.trans h4, h5, h6⟩
def FEnd (h0 : AHeap) (R : AVal → AHeap → Prop) (v : AVal) (h1 : AHeap) : Prop :=
  ∃ v' h2, Turns h0.length v h1 v' h2 ∧ (R v' h2 ∨ ∃ m, h0.length ≤ m ∧ m ≤ h2.length ∧ Below m v' ∧ HKeep m h0 h2 ∧ R v' (h2.take m))
theorem FEnd.all {h0 : AHeap} {R : AVal → AHeap → Prop} {v : AVal} {h1 : AHeap} (h : R v h1) : FEnd h0 R v h1 := ⟨v, h1, .refl _ _ _, .inl h⟩
theorem FEnd.cut {h0 : AHeap} {R : AVal → AHeap → Prop} {v : AVal} {h1 : AHeap} (m : Nat) (a : h0.length ≤ m) (b : m ≤ h1.length) (c : Below m v) (d : HKeep m h0 h1) (h : R v (h1.take m)) : FEnd h0 R v h1 :=
  ⟨v, h1, .refl _ _ _, .inr ⟨m, a, b, c, d, h⟩⟩
def FPost (P : Program) (rs : List ResultVar) (h0 : AHeap) (R : AVal → AHeap → Prop) : Exit → ASt → Prop
  | .normal, s | .ret, s => ALeave s.d s.h fun h1 => AResV P rs s.t h1 fun v => FEnd h0 R v h1
  | _, _ => False
noncomputable def mkTab (k : Nat) : List AVal → ATab
  | [] => .nil
  | v :: vs => (mkTab (k + 1) vs).set k v
theorem mkTab_get (args : List AVal) : ∀ k i, (mkTab k args).get i = if k ≤ i then (args[i - k]?).getD .junk else .junk := by
  induction args with
  | nil => intro k i; simp [mkTab, ATab.get_nil]
  | cons v vs ih =>
    intro k i
    simp only [mkTab, ATab.get_set]
    by_cases h : k = i
    · subst h; simp
    · rw [if_neg h, ih]
      by_cases h1 : k ≤ i
      · rw [if_pos (by omega), if_pos h1]
        obtain ⟨j, hj⟩ : ∃ j, i - k = j + 1 := ⟨i - k - 1, by omega⟩
        rw [hj, show i - (k + 1) = j by omega]; simp
      · rw [if_neg (by omega), if_neg h1]
def resOne (tmps : Array Value) (r : ResultVar) : Sem Value :=
  match r with
  | .tmp i => pure (tmps.getD i undef)
  | .cell a ty => do loadVar ty (← asAddr (tmps.getD a undef))
theorem results_eq (fn : Func) (tmps : Array Value) : results fn tmps = (do
    let vs ← fn.results.mapM (resOne tmps)
    pure (if h : vs.size = 1 then vs[0] else .tuple vs)) := by
  have : (fun (x : ResultVar) => (match x with | .tmp t => pure (tmps.getD t undef) | .cell a t => do loadVar t (← asAddr (tmps.getD a undef)) : Sem Value)) = resOne tmps := by
    funext x; cases x <;> rfl
  unfold results
  rw [← this]
  rfl
theorem res1_ok {P : Program} {C : Ctx} {n : Nat} {t : ATab} {tmps : Array Value} (ht : TRel C n t tmps) {h : AHeap} {w : World} (hr : HRel C h w) (r : ResultVar) {K : AVal → Prop} (hk : ARes1 P r t h K) :
    ∃ v rv, (resOne tmps r).run P w = .ok rv w ∧ VRel C v rv ∧ K v := by
  cases r with
  | tmp i => exact ⟨_, _, rfl, ht.val i, hk⟩
  | cell a ty =>
    obtain ⟨p, hp, hk⟩ := optK_some hk
    have hv := ht.val a
    obtain ⟨v, rv, h1, h2, h3⟩ := sound_load (P := P) hr (varT_ok hp) hv hk
    refine ⟨v, rv, ?_, h2, h3⟩
    unfold resOne
    simp only []
    generalize tmps.getD a undef = x at *
    unfold Instr.loadAt Instr.sureAddr at h1
    unfold asAddr
    cases x with
    | pointer q =>
      cases q with
      | none => simp at h1
      | some q => simpa using h1
    | _ => simp at h1
theorem resL_ok {P : Program} {C : Ctx} {n : Nat} {t : ATab} {tmps : Array Value} (ht : TRel C n t tmps) {h : AHeap} {w : World} (hr : HRel C h w) : ∀ (rs : List ResultVar) {K : List AVal → Prop}, AResL P rs t h K →
    ∃ vs rvs, (rs.mapM (resOne tmps)).run P w = .ok rvs w ∧ rvs.length = vs.length ∧ (∀ (i : Nat) v rv, vs[i]? = some v → rvs[i]? = some rv → VRel C v rv) ∧ K vs := by
  intro rs
  induction rs with
  | nil => intro K hk; exact ⟨[], [], rfl, rfl, fun i v rv h => by simp at h, hk⟩
  | cons r rs ih =>
    intro K hk
    obtain ⟨v, rv, h1, h2, hk⟩ := res1_ok ht hr r hk
    obtain ⟨vs, rvs, g1, g2, g3, hk⟩ := ih hk
    refine ⟨v :: vs, rv :: rvs, ?_, by simp [g2], ?_, hk⟩
    · rw [List.mapM_cons]
      simp only [Sem.run_bind, h1, Result.andThen_ok, g1, Sem.run_pure]
    · intro i x rx a b
      cases i with
      | zero => simp at a b; subst a; subst b; exact h2
      | succ i => simp at a b; exact g3 i x rx a b
theorem resV_ok {P : Program} {C : Ctx} {n : Nat} {t : ATab} {tmps : Array Value} (ht : TRel C n t tmps) {h : AHeap} {w : World} (hr : HRel C h w) (fn : Func) {K : AVal → Prop} (hk : AResV P fn.results.toList t h K) :
    ∃ v rv, (results fn tmps).run P w = .ok rv w ∧ VRel C v rv ∧ K v := by
  obtain ⟨vs, rvs, h1, h2, h3, hk⟩ := resL_ok ht hr fn.results.toList hk
  have hrun : ∀ (rvs : List Value), (fn.results.toList.mapM (resOne tmps)).run P w = .ok rvs w → (results fn tmps).run P w = .ok (if h : rvs.toArray.size = 1 then rvs.toArray[0] else Value.tuple rvs.toArray) w := by
    intro rvs h1
    rw [results_eq]
    simp only [Sem.run_bind, Array.mapM_eq_mapM_toList, Sem.run_map, h1, Result.andThen_ok, Sem.run_pure]
  match vs, rvs, h1, h2, h3, hk with
  | [v], [rv], h1, _, h3, hk => exact ⟨v, rv, hrun _ h1, h3 0 v rv rfl rfl, hk⟩
  | [], [], h1, _, h3, hk => exact ⟨_, _, hrun _ h1, .tuple [] #[] rfl fun i v rv h => by simp at h, hk⟩
  | v :: v2 :: vs, rv :: rv2 :: rvs, h1, h2, h3, hk =>
    refine ⟨_, _, hrun _ h1, ?_, hk⟩
    rw [dif_neg (by simp)]
    exact .tuple _ _ (by simpa using h2.symm) fun i x rx a b => h3 i x rx a (by simpa using b)
  | [], _ :: _, _, h2, _, _ => simp at h2
  | _ :: _, [], _, h2, _, _ => simp at h2
  | [_], _ :: _ :: _, _, h2, _, _ => simp at h2
  | _ :: _ :: _, [_], _, h2, _, _ => simp at h2
theorem acall_intro {P : Program} {f : FuncId} {fn : Func} {c : Code} {args : List AVal} {h : AHeap} {R : AVal → AHeap → Prop} (hf : P.funcs[f]? = some fn) (hb : fn.body = some c) (hn : args.length ≤ fn.ntmps)
    (hw : AWp P h.length none c (FPost P fn.results.toList h R) ⟨fn.ntmps, mkTab 0 args, [], h⟩) : ACall P f args h R := by
  intro C w rargs hr hv
  refine (callsIn_wide (n := 0)).1 (callsIn_of_wp_marks hf hb trivial ?_ rfl)
  have hst : StRel C ⟨fn.ntmps, mkTab 0 args, [], h⟩ { tmps := rargs ++ Array.replicate (fn.ntmps - rargs.size) undef, defers := [] } w := by
    refine ⟨⟨by simp; have := hv.1; omega, fun i => ?_⟩, trivial, hr⟩
    show VRel C ((mkTab 0 args).get i) _
    rw [mkTab_get]
    simp only [Nat.zero_le, if_true, Nat.sub_zero]
    cases ha : args[i]? with
    | none => exact .junk _
    | some v =>
      have hlt := (List.getElem?_eq_some_iff.1 ha).1
      have hlt2 : i < rargs.size := by rw [← hv.1]; exact hlt
      have : (rargs ++ Array.replicate (fn.ntmps - rargs.size) undef).getD i undef = rargs[i] := by
        rw [Array.getD_eq_getD_getElem?, Array.getElem?_append_left hlt2, Array.getElem?_eq_getElem hlt2]; rfl
      rw [this]
      exact hv.2 i v _ ha (Array.getElem?_eq_getElem hlt2)
  refine wpIn_mono (hw C _ w none hst rfl (Nat.le_refl _)) ?_
  rintro e a' w' ⟨D, s, hle, hs, hlen, hq⟩
  have fin : FPost P fn.results.toList h R .ret s → LeavesInM Fence.wide 0 P fn a'.tmps (fun e w' => ∃ v rv D h', e = .returned rv ∧ C.le h.length D ∧ HRel D h' w' ∧ VRel D v rv ∧ R v h') a'.defers .returning w' := by
    intro hq
    simp only [FPost] at hq
    obtain ⟨n, t, d, h1⟩ := s
    simp only at hq hlen
    have key : ∀ (d : List ADef) (ds : List Deferred) (h1 : AHeap) (w' : World), DRels D d ds → HRel D h1 w' → h.length ≤ h1.length →
        ALeave d h1 (fun h1 => AResV P fn.results.toList t h1 fun v => FEnd h R v h1) →
        LeavesInM Fence.wide 0 P fn a'.tmps (fun e w' => ∃ v rv D h', e = .returned rv ∧ C.le h.length D ∧ HRel D h' w' ∧ VRel D v rv ∧ R v h') ds .returning w' := by
      intro d
      induction d with
      | nil =>
        intro ds h1 w' hd hr' hl hq
        cases ds with
        | cons _ _ => exact hd.elim
        | nil =>
          obtain ⟨v0, rv, g1, g20, v, h2, ht, hq⟩ := resV_ok hs.t hr' fn hq
          obtain ⟨D2, hle2, hr2, g2⟩ := ht D w' rv hr' g20
          have hle := hle.trans hle2
          rcases hq with g0 | ⟨m, g3, g4, g5, g6, g7⟩
          · exact ⟨rv, g1, v, rv, D2, h2, rfl, hle, hr2, g2, g0⟩
          refine ⟨rv, g1, v, rv, D2.cut m, h2.take m, rfl, hle.trans ((Ctx.cut_le m D2).mono g3), ?_, g2.le (Ctx.cut_le m D2) g5, g7⟩
          refine hr2.cut m g4 fun a o ho ha => ?_
          rcases g6 a o ho ha with ⟨k1, k2⟩ | k
          · right
            intro L r hL hor
            have : locOf C a o = some L ∨ ∃ e n, o = .tok e n := by
              cases o with
              | tok e n => exact .inr ⟨e, n, rfl⟩
              | _ => left; simp only [locOf] at hL ⊢; rw [hle.eq a k1] at hL; exact hL
            rcases this with hL0 | ⟨e, n, rfl⟩
            · obtain ⟨_, _, r0, _, hor0⟩ := hr.live a o L k2 hL0
              have hb := hor0.isBelow hr.fresh
              have hb2 : OBelow m o := by
                cases hb with
                | rows es h => exact .rows es fun i j e v a b => (h i j e v a b).mono g3
                | tok e k => exact .tok e k
                | map es h => exact .map es fun i e a => ⟨(h i e a).1.mono g3, (h i e a).2.mono g3⟩
                | loop k t p a b st pe de h hd => exact .loop k t p a b st pe de (fun i => (h i).mono g3) (by omega)
                | defd => exact .defd
                | siter s p => exact .siter s p
              exact hor.le (Ctx.cut_le m D2) hb2
            · exact hor
          · exact .inl k
      | cons x xs ih =>
        intro ds h1 w' hd hr' hl hq
        cases ds with
        | nil => exact hd.elim
        | cons y ys =>
          cases x with
          | call _ _ _ => exact hq.elim
          | mark a =>
            obtain ⟨⟨L, hL, rfl⟩, hd2⟩ := hd
            obtain ⟨q1, q2⟩ := hq
            obtain ⟨_, _, r, hr1, rfl⟩ := hr'.live a _ L q1 hL
            have hlt := hr'.there a L hL
            refine ⟨by simp, .inl ⟨L.b, { w' with heap := w'.heap.setIfInBounds L.b (.deferred none) }, rfl, ?_, ?_⟩⟩
            · simp [Instr.takeDeferred, getObj, setObj, Sem.run, Bind.bind, Sem.bind, hr1]
            · refine ih ys (h1.set a none) _ hd2 ?_ (by rw [List.length_set]; exact hl) q2
              refine hr'.turn q1 (fun _ _ => by simp) hL (.deferred none) (by simp) (by simp [hlt]) (fun b hb => ?_) none (fun x hx => by cases hx)
              simp only [Array.getElem?_setIfInBounds]
              rw [if_neg (fun e => hb e.symm)]
    exact key d a'.defers h1 w' hs.d hs.h hlen hq
  cases e with
  | normal => exact fin hq
  | ret => exact fin hq
  | exit id => exact hq.elim
  | goto l => exact hq.elim
  | panic ch => exact hq.elim
  | outgrown => exact hq.elim
end Go.AL
