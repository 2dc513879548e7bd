/- Regions that draw their order: the rule, its proof. -/
import Derived.Test.YtjiccnebfbpcgaaGreatDoorQAl19
set_option linter.unusedSimpArgs false
set_option linter.unusedVariables false
set_option linter.unusedSectionVars false
namespace Go.AL
def Listed (listed : Array Bool) (i : Nat) : Prop := listed.getD i false = true
theorem listed_set {listed : Array Bool} {i : Nat} (hi : i < listed.size) (k : Nat) : Listed (listed.setIfInBounds i true) k ↔ k = i ∨ Listed listed k := by
  unfold Listed
  by_cases e : i = k
  · subst e; simp [hi]
  · simp [Array.getElem?_setIfInBounds_ne e, Ne.symm e]
structure DEnv (P : Program) (n0 n : Nat) (ops : Array Oper) (pl : List DP) (V : Nat → AVal) (t0 : ATab) (H : Nat → AHeap) (M nz0 : Nat) : Prop where
  plan : Plan n ops.toList pl
  fact : ∀ (k : Nat) o p, ops.toList[k]? = some o → pl[k]? = some p → DFact P ops.toList o p (Tk ops.toList V t0 k) H M (stOf pl k) (nz0 + nzOf pl k) (V k)
  hM : (effs pl 0).length = M
  n0 : n0 ≤ nz0
  room : nz0 + nzOf pl pl.length ≤ (H 0).length
structure DInv (n0 n : Nat) (ops : Array Oper) (pl : List DP) (V : Nat → AVal) (t0 : ATab) (H : Nat → AHeap) (M nz0 : Nat) (defs : List Deferred) (C0 : Ctx) (listed : Array Bool) (a : Act) (w : World) (C : Ctx) (ts : ATab) (j : Nat) : Prop where
  size : listed.size = ops.size
  down : ∀ (i : Nat) o, ops.toList[i]? = some o → Listed listed i → ∀ e ∈ o.after, Region.binds .any e = true → Listed listed e.on
  jM : j ≤ M
  st : ∀ (q e : Nat), (effs pl 0)[q]? = some e → (Listed listed e ↔ q < j)
  t : TRel C n ts a.tmps
  tab : TabOk ops.toList V t0 (Listed listed) ts
  h : HRel C (H j) w
  names : ∀ (i : Nat) p, pl[i]? = some p → p.k = .fresh → ¬ Listed listed i → C.μ (nz0 + nzOf pl i) = none
  le : C0.le n0 C
  sub : C0.sub C
  defs : a.defers = defs
theorem nzOf_mono {pl : List DP} {i : Nat} : ∀ k, i ≤ k → nzOf pl i ≤ nzOf pl k := by
  intro k hk
  rw [nzOf, nzOf]
  have : pl.take k = pl.take i ++ (pl.drop i).take (k - i) := by
    have := List.take_append_drop i (pl.take k)
    rw [List.take_take, Nat.min_eq_left hk, List.drop_take] at this
    exact this.symm
  rw [this, List.countP_append]; omega
theorem nzOf_lt {pl : List DP} {i k : Nat} {p : DP} (h : pl[i]? = some p) (hp : p.k = .fresh) (hk : i < k) : nzOf pl i < nzOf pl k := by
  have h1 := nzOf_succ h
  rw [if_pos hp] at h1
  have := nzOf_mono (pl := pl) k (show i + 1 ≤ k from hk)
  omega
section
variable {P : Program} {n0 n : Nat} {ops : Array Oper} {pl : List DP} {V : Nat → AVal} {t0 : ATab} {H : Nat → AHeap} {M nz0 : Nat} {defs : List Deferred} {C0 : Ctx}
theorem DEnv.grows (E : DEnv P n0 n ops pl V t0 H M nz0) (q : Nat) (hq : q < M) : (H q).length ≤ (H (q + 1)).length := by
  obtain ⟨e, he⟩ : ∃ e, (effs pl 0)[q]? = some e := ⟨_, List.getElem?_eq_getElem (by rw [E.hM]; exact hq)⟩
  obtain ⟨_, p, hp, hk, hs⟩ := effs_spec pl 0 q e he
  simp only [Nat.sub_zero] at hp hs
  have hlt : e < ops.toList.length := by rw [← E.plan.len]; exact (List.getElem?_eq_some_iff.1 hp).1
  have hf := E.fact e _ p (List.getElem?_eq_getElem hlt) hp
  rw [hs] at hf
  rcases hf with ⟨_, _, h⟩ | ⟨_, h⟩
  · rw [h hk]; exact Nat.le_refl _
  · rw [hk] at h; exact h.2
theorem DEnv.len (E : DEnv P n0 n ops pl V t0 H M nz0) : ∀ j, j ≤ M → (H 0).length ≤ (H j).length
  | 0, _ => Nat.le_refl _
  | j + 1, h => Nat.le_trans (E.len j (by omega)) (E.grows j (by omega))
theorem dwant {ops : Array Oper} {t ts : ATab} {a : Act} {C : Ctx} (ht : TRel C n ts a.tmps) (hd : dstOk n ops.toList = true) {o : Oper} (he : ∀ d ∈ tmpsOf ops.toList o, ts.get d = t.get d) {b : Bool} (hw : DWant ops.toList t o = some b) :
    Region.wanted o (yielded ops a.tmps) = b := by
  unfold DWant at hw
  unfold Region.wanted
  cases hg : o.guard with
  | none => rw [hg] at hw; simpa using hw
  | some g =>
    obtain ⟨g, want⟩ := g
    rw [hg] at hw
    simp only at hw ⊢
    split at hw
    · rename_i w hgv
      have : gval ops.toList ts g = .lit (.bool w) := by
        unfold gval at hgv ⊢
        cases hgd : gdst ops.toList g with
        | none => rw [hgd] at hgv; cases hgv
        | some d =>
          rw [hgd] at hgv
          simp only at hgv ⊢
          rw [he d (by unfold tmpsOf; rw [hg]; simp [hgd])]; exact hgv
      rw [wanted_of ht ops hd this]
      simp only [Option.some.injEq] at hw
      rw [← hw]
      cases w <;> cases want <;> rfl
    · rename_i w hgv
      have : gval ops.toList ts g = .lit (.tuple w) := by
        unfold gval at hgv ⊢
        cases hgd : gdst ops.toList g with
        | none => rw [hgd] at hgv; cases hgv
        | some d =>
          rw [hgd] at hgv
          simp only at hgv ⊢
          rw [he d (by unfold tmpsOf; rw [hg]; simp [hgd])]; exact hgv
      rw [unwanted_of ht ops hd this]
      simp only [Option.some.injEq] at hw
      rw [← hw]
      rfl
    · cases hw
theorem draw_step {ro : Option Nat} {Q : Exit → Act → World → Prop} (E : DEnv P n0 n ops pl V t0 H M nz0) {listed : Array Bool} {a : Act} {w : World} {C : Ctx} {ts : ATab} {j : Nat}
    (I : DInv n0 n ops pl V t0 H M nz0 defs C0 listed a w C ts j) {i : Nat} (hi : i ∈ Region.ready .any ops listed) {K : Act → World → Prop}
    (hK : ∀ a' w' C' ts' j', DInv n0 n ops pl V t0 H M nz0 defs C0 (listed.setIfInBounds i true) a' w' C' ts' j' → K a' w') : wpOpIn (AFence ro) 0 P ops Q i K a w := by
  obtain ⟨hun, o, ho, hall⟩ := mem_ready.1 hi
  have hsz : i < ops.size := (Array.getElem?_eq_some_iff.1 ho).1
  have hil : i < listed.size := by rw [I.size]; exact hsz
  have hni : ¬ Listed listed i := by
    unfold Listed
    simp [hil] at hun ⊢; exact hun
  have hoL : ops.toList[i]? = some o := by rw [Array.getElem?_toList]; exact ho
  have hlen : i < pl.length := by rw [E.plan.len]; simpa using hsz
  obtain ⟨p, hp⟩ : ∃ p, pl[i]? = some p := ⟨_, List.getElem?_eq_getElem hlen⟩
  have hkind := E.plan.kind i o p hoL hp
  have hset := listed_set hil
  have ltL : ∀ {k : Nat} {o}, ops.toList[k]? = some o → k < ops.toList.length := fun h => (List.getElem?_eq_some_iff.1 h).1
  -- what is ahead
  have down' : ∀ (k : Nat) o, ops.toList[k]? = some o → (k = i ∨ Listed listed k) → ∀ e ∈ o.after, Region.binds .any e = true → (e.on = i ∨ Listed listed e.on) := by
    intro k o' ho' hs e he hb
    rcases hs with rfl | hs
    · rw [hoL] at ho'; cases ho'
      exact .inr (hall e he hb)
    · exact .inr (I.down k o' ho' hs e he hb)
  have cl' : ∀ k, ((ahead ops.toList []).getD i 0).testBit k = true → k ≠ i → Listed listed k := fun k hk hne =>
    (E.plan.closed down' i (ltL hoL) k hk (.inl rfl)).resolve_left hne
  have clB : ∀ k, k < ops.toList.length → ((ahead ops.toList []).getD k 0).testBit i = true → ¬ Listed listed k := fun k hk hb hs => hni (E.plan.closed I.down k hk i hb hs)
  -- tables
  have heq : ∀ d ∈ tmpsOf ops.toList o, ts.get d = (Tk ops.toList V t0 i).get d := by
    intro d hd
    refine I.tab.eq (tabOk_take i (Nat.le_of_lt (ltL hoL))) fun k o' ho' hd' => ?_
    by_cases e : k = i
    · subst e; exact ⟨fun h => absurd h hni, fun h => absurd h (Nat.lt_irrefl _)⟩
    · obtain ⟨r1, r2⟩ := E.plan.reads i k o o' d hoL ho' hd hd' e
      constructor
      · intro hs
        rcases Nat.lt_or_ge k i with h | h
        · exact h
        · exact absurd hs (clB k (ltL ho') (r2 (by omega)))
      · intro hlt; exact cl' k (r1 hlt) e
  have hev : ∀ x ∈ o.op.operands, aev (Tk ops.toList V t0 i) x = aev ts x := by
    intro x hx
    cases x with
    | tmp d =>
      refine (heq d ?_).symm
      unfold tmpsOf
      refine List.mem_append_left _ (List.mem_filterMap.2 ⟨.tmp d, by simpa using hx, rfl⟩)
    | const v => cases v <;> rfl
    | global g => rfl
    | func f => rfl
  have hf := E.fact i o p hoL hp
  have hjlen := E.len j I.jM
  have hn0j : n0 ≤ (H j).length := by have := E.n0; have := E.room; omega
  -- stage
  have hjst : p.k = .eff → j = stOf pl i := by
    intro hk
    have hes := effs_get pl 0 i p hp hk
    rw [Nat.zero_add] at hes
    have h1 : ¬ stOf pl i < j := fun h => hni ((I.st _ _ hes).2 h)
    by_cases h2 : j < stOf pl i
    · have hlt := (List.getElem?_eq_some_iff.1 hes).1
      obtain ⟨e, he⟩ : ∃ e, (effs pl 0)[j]? = some e := ⟨_, List.getElem?_eq_getElem (show j < (effs pl 0).length by omega)⟩
      have hne : e ≠ i := by
        rintro rfl
        obtain ⟨_, _, _, _, hs⟩ := effs_spec pl 0 j e he
        simp only [Nat.sub_zero] at hs; omega
      have := cl' e (E.plan.tot (stOf pl i) j i e hes he h2) hne
      exact absurd ((I.st j e he).1 this) (Nat.lt_irrefl _)
    · omega
  have hst' : ∀ (q e : Nat), (effs pl 0)[q]? = some e → (Listed (listed.setIfInBounds i true) e ↔ q < if p.k = .eff then j + 1 else j) := by
    intro q e he
    rw [hset]
    obtain ⟨_, p', hp', hk', hs'⟩ := effs_spec pl 0 q e he
    simp only [Nat.sub_zero] at hp' hs'
    split
    · rename_i hk
      have hes := effs_get pl 0 i p hp hk
      rw [Nat.zero_add, ← hjst hk] at hes
      constructor
      · rintro (rfl | hs)
        · rw [hjst hk, hs']; omega
        · have := (I.st q e he).1 hs; omega
      · intro hq
        by_cases e2 : q = j
        · subst e2; rw [hes] at he; cases he; exact .inl rfl
        · exact .inr ((I.st q e he).2 (by omega))
    · rename_i hk
      have hne : e ≠ i := by rintro rfl; rw [hp] at hp'; cases hp'; exact hk hk'
      rw [← I.st q e he]
      exact ⟨fun h => h.resolve_left hne, .inr⟩
  have hjM : p.k = .eff → j + 1 ≤ M := by
    intro hk
    have hes := effs_get pl 0 i p hp hk
    have := (List.getElem?_eq_some_iff.1 hes).1
    rw [E.hM, ← hjst hk] at this; exact this
  have hdst : ∀ x, o.dst = some x → x < n := fun x hx => by
    have hm : o ∈ ops.toList := List.mem_of_getElem? hoL
    have := List.all_eq_true.1 E.plan.dst o hm
    rw [hx] at this; simpa using this
  -- going on
  have go : ∀ C' rv w' j', C.sub C' → C0.le n0 C' → HRel C' (H j') w' → VRel C' (V i) rv → (j' = if p.k = .eff then j + 1 else j) →
      (∀ (k : Nat) p', pl[k]? = some p' → p'.k = .fresh → k ≠ i → ¬ Listed listed k → C'.μ (nz0 + nzOf pl k) = none) → K (a.put o.dst rv) w' := by
    intro C' rv w' j' g1 g2 g3 g4 g5 g6
    refine hK _ _ C' (ts.put o.dst (V i)) j' ⟨by simp [I.size], ?_, ?_, ?_, ?_, ?_, g3, ?_, g2, I.sub.trans g1, ?_⟩
    · intro k o' ho' hs e he hb
      rw [hset] at hs ⊢
      exact down' k o' ho' hs e he hb
    · rw [g5]; split
      · rename_i hk; exact hjM hk
      · exact I.jM
    · intro q e he; rw [hst' q e he, g5]
    · exact (I.t.mono g1).put hdst g4
    · refine (I.tab.put hoL hni ?_).congr fun k _ => (hset k).symm
      intro k o' d ho' hd hd' hlt
      exact clB k (ltL ho') (E.plan.writes i k o o' d hoL ho' hd hd' hlt)
    · intro k p' hp' hk' hs
      rw [hset] at hs
      exact g6 k p' hp' hk' (fun e => hs (.inl e)) fun e => hs (.inr e)
    · rw [← I.defs]; cases o.dst <;> rfl
  have keepNames : ∀ (D : Ctx), C.le (H j).length D → ∀ (k : Nat) p', pl[k]? = some p' → p'.k = .fresh → k ≠ i → ¬ Listed listed k → D.μ (nz0 + nzOf pl k) = none := by
    intro D hle k p' hp' hk' _ hs
    have hlt := nzOf_lt hp' hk' (List.getElem?_eq_some_iff.1 hp').1
    rw [hle.eq _ (by have := E.room; omega)]
    exact I.names k p' hp' hk' hs
  unfold wpOpIn
  simp only [ho]
  rcases hf with ⟨hw, hv, hH⟩ | ⟨hw, hf⟩
  · have hw' := dwant I.t E.plan.dst heq hw
    simp only [hw', Bool.false_eq_true, if_false]
    refine ⟨fun _ _ => trivial, go C undef w _ (.refl _) I.le ?_ (by rw [hv]; exact .lit _) rfl fun k p' a b c d => I.names k p' a b d⟩
    split
    · rename_i hk
      have e := hH hk
      rw [← hjst hk] at e
      rw [e]; exact I.h
    · exact I.h
  · have hw' := dwant I.t E.plan.dst heq hw
    simp only [hw', if_true]
    have stage : p.k = .read ∨ p.k = .fresh → p.lo ≤ j ∧ j ≤ p.hi := by
      intro hk
      obtain ⟨s1, s2, s3, s4⟩ := E.plan.stage i p hp hk
      have hne : ∀ (q e : Nat), (effs pl 0)[q]? = some e → e ≠ i := by
        rintro q e he rfl
        obtain ⟨_, p', hp', hk', _⟩ := effs_spec pl 0 q e he
        simp only [Nat.sub_zero] at hp'
        rw [hp] at hp'; cases hp'
        rcases hk with hk | hk <;> (rw [hk] at hk'; cases hk')
      constructor
      · by_cases h : p.lo ≤ j
        · exact h
        · obtain ⟨e, he⟩ : ∃ e, (effs pl 0)[j]? = some e := ⟨_, List.getElem?_eq_getElem (show j < (effs pl 0).length by omega)⟩
          exact absurd ((I.st j e he).1 (cl' e (s2 j e (by omega) he) (hne j e he))) (Nat.lt_irrefl _)
      · by_cases h : j ≤ p.hi
        · exact h
        · cases he : (effs pl 0)[p.hi]? with
          | none => have := s4 he; have := I.jM; have := E.hM; omega
          | some e =>
            obtain ⟨_, p', hp', _, _⟩ := effs_spec pl 0 _ e he
            simp only [Nat.sub_zero] at hp'
            have hlt : e < ops.toList.length := by rw [← E.plan.len]; exact (List.getElem?_eq_some_iff.1 hp').1
            exact absurd ((I.st _ e he).2 (by omega)) (clB e hlt (s3 e he))
    cases hk : p.k with
    | pure =>
      rw [hk] at hf
      have hop := hf (H j) (by rw [← hkind]; exact hk)
      refine op_ok I.t I.h o (AOp1_ops hev hop) ?_
      rintro D h' w' v rv d1 d2 d3 ⟨rfl, rfl⟩
      exact go D rv w' j (d1.sub I.h.fresh) (I.le.trans (d1.mono hn0j)) d2 d3 (by rw [hk]; simp) (keepNames D d1)
    | read =>
      rw [hk] at hf
      obtain ⟨s1, s2⟩ := stage (.inl hk)
      have hop := hf j s1 s2 I.jM
      refine op_ok I.t I.h o (AOp1_ops hev hop) ?_
      rintro D h' w' v rv d1 d2 d3 ⟨rfl, rfl⟩
      exact go D rv w' j (d1.sub I.h.fresh) (I.le.trans (d1.mono hn0j)) d2 d3 (by rw [hk]; simp) (keepNames D d1)
    | eff =>
      rw [hk] at hf
      rw [← hjst hk] at hf
      refine op_ok I.t I.h o (AOp1_ops hev hf.1) ?_
      rintro D h' w' v rv d1 d2 d3 ⟨rfl, rfl⟩
      exact go D rv w' (j + 1) (d1.sub I.h.fresh) (I.le.trans (d1.mono hn0j)) d2 d3 (by rw [hk]; simp) (keepNames D d1)
    | fresh =>
      rw [hk] at hf
      obtain ⟨s1, s2⟩ := stage (.inr hk)
      obtain ⟨z, val, h1, h2, h3⟩ := hf
      obtain ⟨s, hs, obj, val', rv, r, w', g1, g2, gio, g3, ⟨rfl, rfl⟩, base, esz, size, elem, g5⟩ := fresh_ok (w := w) I.t o (AFresh_congr hev h1)
      refine ⟨fun _ _ => trivial, ?_⟩
      have hnd : ∀ c, o.op ≠ .defer c := by intro c e; rw [e] at h1; exact h1.elim
      rw [Oper.semAt_eq _ _ _ hnd, hs rv w' g1]
      have hμ := I.names i p hp hk hni
      have hlt := hget_lt (h3 j s1 s2 I.jM)
      have hsub := Ctx.with_sub (C := C) (a := nz0 + nzOf pl i) ⟨w.heap.size, base, esz, size, elem⟩ hμ
      obtain ⟨k1, k2⟩ := g5 _ (nz0 + nzOf pl i) hsub (Ctx.with_self _ _ _)
      have hr' := I.h.realize r g2 (h3 j s1 s2 I.jM) hμ g3 ⟨w.heap.size, base, esz, size, elem⟩ rfl k1 gio
      refine go _ rv w' j hsub (I.le.trans ((Ctx.with_le C _ _).mono (by have := E.n0; omega))) hr' (by rw [h2]; exact k2) (by rw [hk]; simp) ?_
      intro k p' hp' hk' hne hs'
      simp only [Ctx.with]
      rw [if_neg]
      · exact I.names k p' hp' hk' hs'
      · rcases Nat.lt_or_gt_of_ne hne with h | h
        · have := nzOf_lt hp' hk' h; omega
        · have := nzOf_lt hp hk h; omega
theorem count_set {l : List Bool} : ∀ {i : Nat}, l[i]? = some false → (l.set i true).count false + 1 = l.count false := by
  induction l with
  | nil => intro i h; simp at h
  | cons b l ih =>
    intro i h
    cases i with
    | zero => simp only [List.getElem?_cons_zero, Option.some.injEq] at h; subst h; simp
    | succ i =>
      simp only [List.getElem?_cons_succ] at h
      have := ih h
      simp only [List.set_cons_succ, List.count_cons]
      omega
theorem draw_all {ro : Option Nat} {Q : Exit → Act → World → Prop} (E : DEnv P n0 n ops pl V t0 H M nz0)
    (hQ : ∀ C a w, C0.le n0 C → C0.sub C → TRel C n (Tk ops.toList V t0 ops.size) a.tmps → HRel C (H M) w → a.defers = defs → Q .normal a w) :
    ∀ (fuel : Nat) (listed : Array Bool) (a : Act) (w : World) (C : Ctx) (ts : ATab) (j : Nat), listed.toList.count false = fuel → DInv n0 n ops pl V t0 H M nz0 defs C0 listed a w C ts j →
      wpAnyIn (AFence ro) 0 P .any ops Q fuel listed a w := by
  have done : ∀ (listed : Array Bool) (a : Act) (w : World) (C : Ctx) (ts : ATab) (j : Nat), DInv n0 n ops pl V t0 H M nz0 defs C0 listed a w C ts j → Region.ready .any ops listed = [] → Q .normal a w := by
    intro listed a w C ts j I hr
    have hall : ∀ i, i < ops.size → Listed listed i := by
      intro i
      induction i using Nat.strongRecOn with
      | _ i ih =>
        intro hi
        by_cases h : Listed listed i
        · exact h
        · exfalso
          have : i ∈ Region.ready .any ops listed := by
            refine mem_ready.2 ⟨?_, ops[i], Array.getElem?_eq_getElem hi, fun e he hb => ?_⟩
            · unfold Listed at h
              have hil : i < listed.size := by rw [I.size]; exact hi
              simp [hil] at h ⊢; exact h
            · have hlt := E.plan.back i ops[i] (by rw [Array.getElem?_toList]; exact Array.getElem?_eq_getElem hi) e he hb
              exact ih e.on hlt (by omega)
          rw [hr] at this; cases this
    have hj : j = M := by
      rcases Nat.lt_or_ge j M with h | h
      · obtain ⟨e, he⟩ : ∃ e, (effs pl 0)[j]? = some e := ⟨_, List.getElem?_eq_getElem (by rw [E.hM]; exact h)⟩
        obtain ⟨_, p', hp', _, _⟩ := effs_spec pl 0 _ e he
        simp only [Nat.sub_zero] at hp'
        have hlt : e < ops.size := by have := (List.getElem?_eq_some_iff.1 hp').1; rw [E.plan.len] at this; simpa using this
        exact absurd ((I.st j e he).1 (hall e hlt)) (Nat.lt_irrefl _)
      · have := I.jM; omega
    subst hj
    refine hQ C a w I.le I.sub ⟨I.t.size, fun d => ?_⟩ I.h I.defs
    have := I.tab.eq (tabOk_take (V := V) (t0 := t0) ops.size (by simp)) (d := d) fun k o ho _ => by
      have hlt : k < ops.size := by have := (List.getElem?_eq_some_iff.1 ho).1; simpa using this
      exact ⟨fun _ => hlt, fun _ => hall k hlt⟩
    rw [← this]; exact I.t.val d
  intro fuel
  induction fuel with
  | zero =>
    intro listed a w C ts j hc I
    have hr : Region.ready .any ops listed = [] := by
      cases hr : Region.ready .any ops listed with
      | nil => rfl
      | cons i l =>
        have hi : i ∈ Region.ready .any ops listed := by rw [hr]; exact List.mem_cons_self ..
        obtain ⟨hun, o, ho, _⟩ := mem_ready.1 hi
        have hil : i < listed.size := by rw [I.size]; exact (Array.getElem?_eq_some_iff.1 ho).1
        have : listed.toList[i]? = some false := by simp [hil] at hun ⊢; exact hun
        have := count_set this
        omega
    exact ⟨hr, done listed a w C ts j I hr⟩
  | succ fuel ih =>
    intro listed a w C ts j hc I
    refine ⟨done listed a w C ts j I, fun i hi => draw_step E I hi fun a' w' C' ts' j' I' => ?_⟩
    refine ih _ a' w' C' ts' j' ?_ I'
    obtain ⟨hun, o, ho, _⟩ := mem_ready.1 hi
    have hil : i < listed.size := by rw [I.size]; exact (Array.getElem?_eq_some_iff.1 ho).1
    have : listed.toList[i]? = some false := by simp [hil] at hun ⊢; exact hun
    have := count_set this
    rw [Array.toList_setIfInBounds]
    omega
end
theorem not_listed (N i : Nat) : ¬ Listed (Array.replicate N false) i := by
  unfold Listed
  simp only [Array.getD_eq_getD_getElem?, Array.getElem?_replicate]
  split <;> simp
theorem awp_draw {P : Program} {n0 : Nat} {md : Option Nat} {Q : Exit → ASt → Prop} {n : Nat} {t : ATab} {d : List ADef} {h : AHeap} {id : Nat} {ops : Array Oper} (hm : P.follows .mixedOrders = true) (pl : List DP) (hpl : planOk n ops.toList pl = true)
    (Z : List AObj) (hZ : nzOf pl pl.length ≤ Z.length)
    (hk : ADraw P ops.toList ops.toList pl 0 t (h ++ Z.map some) [] Z h.length [] fun t' h' => Q .normal ⟨n, t', d, h'⟩) : AWp P n0 md (.region id ops true) Q ⟨n, t, d, h⟩ := by
  intro C a w ro hs hm' hn
  have plan := plan_of hpl
  obtain ⟨V, H, M, tf, a1, a2, a3, _, a5⟩ := adraw_ext (i := 0) _ _ _ _ _ _ _ _ _ (fun _ => h ++ Z.map some) rfl (fun q hq => absurd hq (Nat.not_lt_zero _)) (fun c hc => by cases hc) hk
  have hH0 : H 0 = h ++ Z.map some := a2 0 (Nat.le_refl _)
  obtain ⟨f1, f2⟩ := DRun.get (pl0 := pl) (nz0 := h.length) ops.toList pl 0 rfl rfl a3
  obtain ⟨f2, f3⟩ := f2 (Nat.zero_le _)
  have E : DEnv P n0 n ops pl V t H M h.length := ⟨plan, fun k o p ho hp => f1 k o p (Nat.zero_le _) ho hp, by rw [effs_len, plan.len, f2], hn, by rw [hH0]; simp; exact hZ⟩
  refine wpIn_region_any hm (draw_all (defs := a.defers) (C0 := C) E ?_ ops.size _ a _ C t 0 (by simp [List.count_replicate]) ?_)
  · intro D a' w' e1 e2 e3 e4 e5
    refine ⟨D, ⟨n, tf, d, H M⟩, e1, ⟨?_, by rw [e5]; exact hs.d.mono e2, e4⟩, ?_, a5⟩
    · rw [f3]; simpa using e3
    · have := E.len M (Nat.le_refl _)
      rw [hH0, List.length_append] at this
      show n0 ≤ (H M).length
      have : n0 ≤ h.length := hn
      omega
  · refine ⟨by simp, ?_, Nat.zero_le _, ?_, hs.t, ?_, ?_, ?_, .refl _ _, .refl _, rfl⟩
    · intro i o ho hl
      exfalso
      exact not_listed _ _ hl
    · intro q e he
      refine ⟨fun hl => ?_, fun h => absurd h (Nat.not_lt_zero _)⟩
      exfalso
      exact not_listed _ _ hl
    · refine ⟨fun d k o ho hd hl => ?_, fun _ _ => rfl⟩
      exfalso
      exact not_listed _ _ hl
    · rw [hH0]
      exact (hs.h.same (w' := { w with drawn := w.drawn + 1 }) rfl).reserve Z
    · intro i p hp hk _
      exact (hs.h.fresh _ (Nat.le_add_right _ _)).1
end Go.AL
