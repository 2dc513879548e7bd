/- Regions that draw their order: the rule. -/
import Derived.Test.YtjiccnebfbpcgaaGreatDoorQAl18
set_option linter.unusedSimpArgs false
set_option linter.unusedVariables false
set_option linter.unusedSectionVars false
namespace Go.AL
theorem fold_bits (acc : List Nat) (k : Nat) : ∀ (es : List Edge) (m : Nat), (es.foldl (fun m e => (m ||| (2 ^ e.on ||| acc.getD e.on 0))) m).testBit k = true → m.testBit k = true ∨ ∃ e ∈ es, k = e.on ∨ (acc.getD e.on 0).testBit k = true
  | [], m, h => .inl h
  | e :: es, m, h => by
    rcases fold_bits acc k es _ h with h | ⟨e', he, h⟩
    · simp only [Nat.testBit_or, Bool.or_eq_true, Nat.testBit_two_pow, decide_eq_true_eq] at h
      rcases h with h | h | h
      · exact .inl h
      · exact .inr ⟨e, List.mem_cons_self .., .inl h.symm⟩
      · exact .inr ⟨e, List.mem_cons_self .., .inr h⟩
    · exact .inr ⟨e', List.mem_cons_of_mem _ he, h⟩
theorem ahead_pre : ∀ (os : List Oper) (acc : List Nat) (k : Nat), k < acc.length → (ahead os acc).getD k 0 = acc.getD k 0
  | [], _, _, _ => rfl
  | o :: os, acc, k, h => by
    unfold ahead
    rw [ahead_pre os _ k (by simp; omega)]
    simp only [List.getD_eq_getElem?_getD]
    rw [List.getElem?_append_left h]
theorem ahead_spec : ∀ (os : List Oper) (acc : List Nat) (m : Nat) (o : Oper), os[m]? = some o → ∀ k, ((ahead os acc).getD (acc.length + m) 0).testBit k = true →
    ∃ e ∈ o.after, Region.binds .any e = true ∧ (k = e.on ∨ ((ahead os acc).getD e.on 0).testBit k = true)
  | [], _, _, _, h, _, _ => by simp at h
  | o :: os, acc, 0, o', h, k, hk => by
    simp only [List.getElem?_cons_zero, Option.some.injEq] at h
    subst h
    unfold ahead at hk ⊢
    rw [ahead_pre os _ _ (by simp)] at hk
    simp only [List.getD_eq_getElem?_getD, Nat.add_zero, List.getElem?_concat_length, Option.getD_some] at hk
    have hk' := fold_bits acc k _ 0 (by simpa only [List.getD_eq_getElem?_getD] using hk)
    rcases hk' with h | ⟨e, he, h⟩
    · simp at h
    · rw [List.mem_filter] at he
      refine ⟨e, by simpa using he.1, he.2, ?_⟩
      rcases h with h | h
      · exact .inl h
      · right
        by_cases hl : e.on < acc.length
        · rw [ahead_pre os _ _ (by simp; omega)]
          simp only [List.getD_eq_getElem?_getD] at h ⊢
          rw [List.getElem?_append_left hl]; exact h
        · simp only [List.getD_eq_getElem?_getD] at h
          rw [List.getElem?_eq_none (by omega)] at h
          simp at h
  | o :: os, acc, m + 1, o', h, k, hk => by
    simp only [List.getElem?_cons_succ] at h
    unfold ahead at hk ⊢
    generalize (o.after.toList.filter (Region.binds .any)).foldl (fun m e => (m ||| (2 ^ e.on ||| acc.getD e.on 0))) 0 = x at *
    have := ahead_spec os (acc ++ [x]) m o' h k (by rw [List.length_append]; simpa [Nat.add_assoc, Nat.add_comm 1 m] using hk)
    exact this
structure Plan (n : Nat) (ops : List Oper) (pl : List DP) : Prop where
  len : pl.length = ops.length
  dst : dstOk n ops = true
  kind : ∀ (i : Nat) o p, ops[i]? = some o → pl[i]? = some p → p.k = dkind o.op
  back : ∀ (i : Nat) o, ops[i]? = some o → ∀ e ∈ o.after, Region.binds .any e = true → e.on < i
  tot : ∀ (q q' : Nat) e e', (effs pl 0)[q]? = some e → (effs pl 0)[q']? = some e' → q' < q → ((ahead ops []).getD e 0).testBit e' = true
  stage : ∀ (i : Nat) p, pl[i]? = some p → p.k = .read ∨ p.k = .fresh → p.lo ≤ (effs pl 0).length ∧ (∀ (q : Nat) e, q < p.lo → (effs pl 0)[q]? = some e → ((ahead ops []).getD i 0).testBit e = true) ∧
    (∀ e, (effs pl 0)[p.hi]? = some e → ((ahead ops []).getD e 0).testBit i = true) ∧ ((effs pl 0)[p.hi]? = none → (effs pl 0).length ≤ p.hi)
  reads : ∀ (i k : Nat) o o' d, ops[i]? = some o → ops[k]? = some o' → d ∈ tmpsOf ops o → o'.dst = some d → k ≠ i → (k < i → ((ahead ops []).getD i 0).testBit k = true) ∧ (i < k → ((ahead ops []).getD k 0).testBit i = true)
  writes : ∀ (i k : Nat) o o' d, ops[i]? = some o → ops[k]? = some o' → o.dst = some d → o'.dst = some d → i < k → ((ahead ops []).getD k 0).testBit i = true
theorem mem_zipIdx {α : Type} {l : List α} {i : Nat} {x : α} (h : l[i]? = some x) : (x, i) ∈ l.zipIdx := by
  rw [List.mem_zipIdx_iff_getElem?]; exact h
theorem plan_of {n : Nat} {ops : List Oper} {pl : List DP} (h : planOk n ops pl = true) : Plan n ops pl := by
  unfold planOk at h
  simp only [Bool.and_eq_true, List.all_eq_true, Prod.forall, beq_iff_eq] at h
  obtain ⟨⟨⟨⟨⟨⟨⟨h1, h2⟩, h3⟩, h4⟩, h5⟩, h6⟩, h7⟩, h8⟩ := h
  refine ⟨h1, h2, ?_, ?_, ?_, ?_, ?_, ?_⟩
  · intro i o p ho hp
    have : (o, p) ∈ ops.zip pl := List.mem_of_getElem? (i := i) (by simp [List.getElem?_zip_eq_some, ho, hp])
    exact of_decide_eq_true (h3 o p this)
  · intro i o ho e he hb
    have := h4 o i (mem_zipIdx ho) e (by simpa using he)
    simpa [hb] using this
  · intro q q' e e' he he' hq
    have := h5 e q (mem_zipIdx he) e' (List.mem_of_getElem? (i := q') (by rw [List.getElem?_take, if_pos hq]; exact he'))
    exact this
  · intro i p hp hk
    have := h6 p i (mem_zipIdx hp)
    have h : (decide (p.lo ≤ (effs pl 0).length) && ((effs pl 0).take p.lo).all (fun e => ((ahead ops []).getD i 0).testBit e) && (match (effs pl 0)[p.hi]? with | some e => ((ahead ops []).getD e 0).testBit i | none => decide ((effs pl 0).length ≤ p.hi))) = true := by
      rcases hk with hk | hk <;> (rw [hk] at this; exact this)
    simp only [Bool.and_eq_true, decide_eq_true_eq, List.all_eq_true] at h
    refine ⟨h.1.1, fun q e hq he => h.1.2 e (List.mem_of_getElem? (i := q) (by rw [List.getElem?_take, if_pos hq]; exact he)), fun e he => ?_, fun hn => ?_⟩
    · have := h.2; rw [he] at this; exact this
    · have := h.2; rw [hn] at this; simpa using this
  · intro i k o o' d ho ho' hd hd' hne
    have := h7 o i (mem_zipIdx ho) d hd o' k (mem_zipIdx ho')
    simp only [hd', Bool.or_eq_true, Bool.not_eq_true', beq_eq_false_iff_ne, ne_eq, not_true_eq_false, false_or, beq_iff_eq, hne] at this
    constructor
    · intro hlt; rw [if_pos hlt] at this; exact this
    · intro hlt; rw [if_neg (by omega)] at this; exact this
  · intro i k o o' d ho ho' hd hd' hlt
    have := h8 o i (mem_zipIdx ho) o' k (mem_zipIdx ho')
    simpa [hd, hd', hlt] using this
theorem Plan.closed {n : Nat} {ops : List Oper} {pl : List DP} (hp : Plan n ops pl) {S : Nat → Prop} (hS : ∀ (i : Nat) o, ops[i]? = some o → S i → ∀ e ∈ o.after, Region.binds .any e = true → S e.on) :
    ∀ i, i < ops.length → ∀ k, ((ahead ops []).getD i 0).testBit k = true → S i → S k := by
  intro i
  induction i using Nat.strongRecOn with
  | _ i ih =>
    intro hi k hk hs
    obtain ⟨o, ho⟩ : ∃ o, ops[i]? = some o := ⟨ops[i], List.getElem?_eq_getElem hi⟩
    obtain ⟨e, he, hb, h⟩ := ahead_spec ops [] i o ho k (by simpa using hk)
    have hlt := hp.back i o ho e he hb
    have hse := hS i o ho hs e he hb
    rcases h with rfl | h
    · exact hse
    · exact ih e.on hlt (by omega) k h hse
/-! ### Tables -/
noncomputable def Tk (ops : List Oper) (V : Nat → AVal) (t : ATab) : Nat → ATab
  | 0 => t
  | k + 1 => match ops[k]? with | some o => (Tk ops V t k).put o.dst (V k) | none => Tk ops V t k
structure TabOk (ops : List Oper) (V : Nat → AVal) (t0 : ATab) (S : Nat → Prop) (ts : ATab) : Prop where
  last : ∀ (d k : Nat) o, ops[k]? = some o → o.dst = some d → S k → (∀ (k' : Nat) o', k < k' → ops[k']? = some o' → o'.dst = some d → ¬ S k') → ts.get d = V k
  old : ∀ d, (∀ (k : Nat) o, ops[k]? = some o → o.dst = some d → ¬ S k) → ts.get d = t0.get d
theorem ATab.put_get_ne {t : ATab} {x : Option Tmp} {v : AVal} {d : Nat} (h : x ≠ some d) : (t.put x v).get d = t.get d := by
  cases x with
  | none => rfl
  | some y => simp only [ATab.put, ATab.get_set]; rw [if_neg (fun e => h (by rw [e]))]
theorem ATab.put_get_eq {t : ATab} {v : AVal} {d : Nat} : (t.put (some d) v).get d = v := by simp [ATab.put, ATab.get_set]
theorem TabOk.put {ops : List Oper} {V : Nat → AVal} {t0 : ATab} {S : Nat → Prop} {ts : ATab} (h : TabOk ops V t0 S ts) {i : Nat} {o : Oper} (ho : ops[i]? = some o) (hi : ¬ S i)
    (hw : ∀ (k : Nat) o' d, ops[k]? = some o' → o.dst = some d → o'.dst = some d → i < k → ¬ S k) : TabOk ops V t0 (fun k => k = i ∨ S k) (ts.put o.dst (V i)) := by
  constructor
  · intro d k o' ho' hd hs hl
    by_cases hod : o.dst = some d
    · have : k = i := by
        rcases hs with rfl | hs
        · rfl
        · rcases Nat.lt_trichotomy k i with hlt | rfl | hlt
          · exact absurd (.inl rfl) (hl i o hlt ho hod)
          · rfl
          · exact absurd hs (hw k o' d ho' hod hd hlt)
      subst this
      rw [hod, ATab.put_get_eq]
    · rw [ATab.put_get_ne hod]
      have hne : k ≠ i := by rintro rfl; rw [ho] at ho'; cases ho'; exact hod hd
      exact h.last d k o' ho' hd (hs.resolve_left hne) fun k' o'' a b c hs' => hl k' o'' a b c (.inr hs')
  · intro d hn
    have hod : o.dst ≠ some d := fun e => hn i o ho e (.inl rfl)
    rw [ATab.put_get_ne hod]
    exact h.old d fun k o' a b hs => hn k o' a b (.inr hs)
theorem TabOk.congr {ops : List Oper} {V : Nat → AVal} {t0 : ATab} {S S' : Nat → Prop} {ts : ATab} (h : TabOk ops V t0 S ts) (he : ∀ k, k < ops.length → (S k ↔ S' k)) : TabOk ops V t0 S' ts := by
  have lt : ∀ {k : Nat} {o}, ops[k]? = some o → k < ops.length := fun h => (List.getElem?_eq_some_iff.1 h).1
  exact ⟨fun d k o a b c e => h.last d k o a b ((he k (lt a)).2 c) fun k' o' x y z hs => e k' o' x y z ((he k' (lt y)).1 hs), fun d hn => h.old d fun k o a b hs => hn k o a b ((he k (lt a)).1 hs)⟩
theorem tabOk_take {ops : List Oper} {V : Nat → AVal} {t0 : ATab} : ∀ i, i ≤ ops.length → TabOk ops V t0 (fun k => k < i) (Tk ops V t0 i)
  | 0, _ => ⟨fun d k o a b c => absurd c (Nat.not_lt_zero _), fun d _ => rfl⟩
  | i + 1, h => by
    obtain ⟨o, ho⟩ : ∃ o, ops[i]? = some o := ⟨ops[i], List.getElem?_eq_getElem h⟩
    have := (tabOk_take (V := V) (t0 := t0) i (by omega)).put ho (Nat.lt_irrefl _) (fun k o' d a b c hlt hk => by omega)
    simp only [Tk, ho]
    exact this.congr fun k _ => by omega
theorem exists_last {p : Nat → Prop} : ∀ N, (∃ k, k < N ∧ p k) → ∃ k, k < N ∧ p k ∧ ∀ k', k < k' → k' < N → ¬ p k'
  | 0, ⟨_, h, _⟩ => absurd h (Nat.not_lt_zero _)
  | N + 1, ⟨k, hk, hp⟩ => by
    by_cases hN : p N
    · exact ⟨N, Nat.lt_succ_self _, hN, fun k' a b => by omega⟩
    · have hk' : k < N := by
        rcases Nat.lt_or_ge k N with h | h
        · exact h
        · have : k = N := by omega
          subst this; exact absurd hp hN
      obtain ⟨m, a, b, c⟩ := exists_last N ⟨k, hk', hp⟩
      refine ⟨m, by omega, b, fun k' x y => ?_⟩
      by_cases e : k' = N
      · rw [e]; exact hN
      · exact c k' x (by omega)
theorem TabOk.eq {ops : List Oper} {V : Nat → AVal} {t0 : ATab} {S S' : Nat → Prop} {ts ts' : ATab} (h : TabOk ops V t0 S ts) (h' : TabOk ops V t0 S' ts') {d : Nat}
    (he : ∀ (k : Nat) o, ops[k]? = some o → o.dst = some d → (S k ↔ S' k)) : ts.get d = ts'.get d := by
  by_cases hex : ∃ k, k < ops.length ∧ ∃ o, ops[k]? = some o ∧ o.dst = some d ∧ S k
  · obtain ⟨k, hk, ⟨o, ho, hd, hs⟩, hl⟩ := exists_last _ hex
    have lt : ∀ {k : Nat} {o}, ops[k]? = some o → k < ops.length := fun h => (List.getElem?_eq_some_iff.1 h).1
    rw [h.last d k o ho hd hs fun k' o' a b c hs' => hl k' a (lt b) ⟨o', b, c, hs'⟩]
    rw [h'.last d k o ho hd ((he k o ho hd).1 hs) fun k' o' a b c hs' => hl k' a (lt b) ⟨o', b, c, (he k' o' b c).2 hs'⟩]
  · have lt : ∀ {k : Nat} {o}, ops[k]? = some o → k < ops.length := fun h => (List.getElem?_eq_some_iff.1 h).1
    rw [h.old d fun k o a b hs => hex ⟨k, lt a, o, a, b, hs⟩, h'.old d fun k o a b hs => hex ⟨k, lt a, o, a, b, (he k o a b).2 hs⟩]
/-! ### Stages -/
def stOf (pl : List DP) (i : Nat) : Nat := (pl.take i).countP fun p => decide (p.k = .eff)
def nzOf (pl : List DP) (i : Nat) : Nat := (pl.take i).countP fun p => decide (p.k = .fresh)
theorem effs_spec : ∀ (pl : List DP) (b q e : Nat), (effs pl b)[q]? = some e → b ≤ e ∧ ∃ p, pl[e - b]? = some p ∧ p.k = .eff ∧ stOf pl (e - b) = q
  | [], _, _, _, h => by simp [effs] at h
  | p :: pl, b, q, e, h => by
    unfold effs at h
    split at h
    · rename_i hp
      cases q with
      | zero =>
        simp only [List.getElem?_cons_zero, Option.some.injEq] at h
        subst h
        exact ⟨Nat.le_refl _, p, by simp, hp, by simp [stOf]⟩
      | succ q =>
        simp only [List.getElem?_cons_succ] at h
        obtain ⟨h1, p', h2, h3, h4⟩ := effs_spec pl (b + 1) q e h
        obtain ⟨m, hm⟩ : ∃ m, e - b = m + 1 := ⟨e - b - 1, by omega⟩
        have hm' : e - (b + 1) = m := by omega
        rw [hm'] at h2 h4
        refine ⟨by omega, p', by rw [hm]; simpa using h2, h3, ?_⟩
        rw [hm, stOf, List.take_succ_cons, List.countP_cons, if_pos (by simp [hp])]
        rw [stOf] at h4; omega
    · rename_i hp
      obtain ⟨h1, p', h2, h3, h4⟩ := effs_spec pl (b + 1) q e h
      obtain ⟨m, hm⟩ : ∃ m, e - b = m + 1 := ⟨e - b - 1, by omega⟩
      have hm' : e - (b + 1) = m := by omega
      rw [hm'] at h2 h4
      refine ⟨by omega, p', by rw [hm]; simpa using h2, h3, ?_⟩
      rw [hm, stOf, List.take_succ_cons, List.countP_cons, if_neg (by simp [hp])]
      rw [stOf] at h4; omega
theorem effs_get : ∀ (pl : List DP) (b i : Nat) (p : DP), pl[i]? = some p → p.k = .eff → (effs pl b)[stOf pl i]? = some (b + i)
  | [], _, _, _, h, _ => by simp at h
  | p :: pl, b, 0, p', h, hk => by
    simp only [List.getElem?_cons_zero, Option.some.injEq] at h
    subst h
    simp [effs, hk, stOf]
  | p :: pl, b, i + 1, p', h, hk => by
    simp only [List.getElem?_cons_succ] at h
    have := effs_get pl (b + 1) i p' h hk
    unfold effs
    rw [stOf, List.take_succ_cons, List.countP_cons]
    split
    · rename_i hp
      rw [if_pos (by simp [hp]), List.getElem?_cons_succ]
      rw [stOf] at this; rw [this]; congr 1; omega
    · rename_i hp
      rw [if_neg (by simp [hp])]
      rw [stOf] at this
      have e : List.countP (fun p => decide (p.k = DKind.eff)) (List.take i pl) + 0 = List.countP (fun p => decide (p.k = DKind.eff)) (List.take i pl) := rfl
      rw [e, this]; congr 1; omega
theorem effs_len (pl : List DP) : ∀ b, (effs pl b).length = stOf pl pl.length := by
  induction pl with
  | nil => intro b; rfl
  | cons p pl ih =>
    intro b
    unfold effs
    rw [List.length_cons, stOf, List.take_succ_cons, List.countP_cons]
    split
    · rename_i hp
      rw [if_pos (by simp [hp]), List.length_cons, ih, stOf]
    · rename_i hp
      rw [if_neg (by simp [hp]), ih, stOf]; omega
theorem take_succ_of {α : Type} {l : List α} {i : Nat} {x : α} (h : l[i]? = some x) : l.take (i + 1) = l.take i ++ [x] := by
  rw [List.take_add_one, h]; rfl
theorem stOf_succ {pl : List DP} {i : Nat} {p : DP} (h : pl[i]? = some p) : stOf pl (i + 1) = if p.k = .eff then stOf pl i + 1 else stOf pl i := by
  rw [stOf, take_succ_of h, List.countP_append, stOf]
  by_cases e : p.k = .eff <;> simp [e]
theorem nzOf_succ {pl : List DP} {i : Nat} {p : DP} (h : pl[i]? = some p) : nzOf pl (i + 1) = if p.k = .fresh then nzOf pl i + 1 else nzOf pl i := by
  rw [nzOf, take_succ_of h, List.countP_append, nzOf]
  by_cases e : p.k = .fresh <;> simp [e]
theorem DRun.get {P : Program} {all : List Oper} {V : Nat → AVal} {H : Nat → AHeap} {M : Nat} {pl0 : List DP} {t0 : ATab} {nz0 : Nat} {tf : ATab} : ∀ (os : List Oper) (pl : List DP) (i : Nat), all.drop i = os → pl0.drop i = pl →
    DRun P all V H M os pl i (stOf pl0 i) (Tk all V t0 i) (nz0 + nzOf pl0 i) tf →
    (∀ (k : Nat) o p, i ≤ k → all[k]? = some o → pl0[k]? = some p → DFact P all o p (Tk all V t0 k) H M (stOf pl0 k) (nz0 + nzOf pl0 k) (V k)) ∧ (i ≤ all.length → stOf pl0 all.length = M ∧ tf = Tk all V t0 all.length) := by
  intro os
  induction os with
  | nil =>
    intro pl i h1 h2 hr
    have hlen : all.length ≤ i := List.drop_eq_nil_iff.1 h1
    refine ⟨fun k o p hk ho _ => ?_, fun hi => ?_⟩
    · have := (List.getElem?_eq_some_iff.1 ho).1; omega
    · have : i = all.length := by omega
      subst this
      simp only [DRun] at hr
      exact hr
  | cons o os ih =>
    intro pl i h1 h2 hr
    cases pl with
    | nil => exact hr.elim
    | cons p pl =>
      have ho : all[i]? = some o := by rw [← List.head?_drop, h1]; rfl
      have hp : pl0[i]? = some p := by rw [← List.head?_drop, h2]; rfl
      obtain ⟨hf, hr⟩ := hr
      have g1 : all.drop (i + 1) = os := by rw [← List.tail_drop, h1]; rfl
      have g2 : pl0.drop (i + 1) = pl := by rw [← List.tail_drop, h2]; rfl
      have e1 : Tk all V t0 (i + 1) = (Tk all V t0 i).put o.dst (V i) := by simp only [Tk, ho]
      have e3 : nz0 + nzOf pl0 (i + 1) = if p.k = .fresh then nz0 + nzOf pl0 i + 1 else nz0 + nzOf pl0 i := by rw [nzOf_succ hp]; split <;> omega
      have := ih pl (i + 1) g1 g2 (by rw [e1, stOf_succ hp, e3]; exact hr)
      have hi := (List.getElem?_eq_some_iff.1 ho).1
      refine ⟨fun k o' p' hk ho' hp' => ?_, fun _ => this.2 (by omega)⟩
      by_cases e : k = i
      · subst e
        rw [ho] at ho'; cases ho'
        rw [hp] at hp'; cases hp'
        exact hf
      · exact this.1 k o' p' (by omega) ho' hp'
end Go.AL
