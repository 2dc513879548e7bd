/- Regions that draw their order: one walk in the order of the text is enough where what is read in another order is the same. -/
import Derived.Test.YtjiccnebfbpcgaaGreatDoorQAl17
set_option linter.unusedSimpArgs false
set_option linter.unusedVariables false
set_option linter.unusedSectionVars false
namespace Go.AL
structure DP where
  k : DKind
  lo : Nat
  hi : Nat
def ahead : List Oper → List Nat → List Nat
  | [], acc => acc
  | o :: os, acc => ahead os (acc ++ [(o.after.toList.filter (Region.binds .any)).foldl (fun m e => (m ||| (2 ^ e.on ||| acc.getD e.on 0))) 0])
def effs : List DP → Nat → List Nat
  | [], _ => []
  | p :: ps, i => if p.k = .eff then i :: effs ps (i + 1) else effs ps (i + 1)
def tmpsOf (ops : List Oper) (o : Oper) : List Tmp :=
  o.op.operands.toList.filterMap (fun x => match x with | .tmp d => some d | _ => none) ++ (match o.guard with | some (g, _) => (gdst ops g).toList | none => [])
def planOk (n : Nat) (ops : List Oper) (pl : List DP) : Bool :=
  let cl := ahead ops []
  let es := effs pl 0
  let idx := ops.zipIdx
  pl.length == ops.length && dstOk n ops
  && (ops.zip pl).all (fun p => decide (p.2.k = dkind p.1.op))
  && idx.all (fun (o, i) => o.after.toList.all fun e => !Region.binds .any e || decide (e.on < i))
  && es.zipIdx.all (fun (e, q) => (es.take q).all fun e' => (cl.getD e 0).testBit e')
  && pl.zipIdx.all (fun (p, i) => match p.k with
      | .read | .fresh => decide (p.lo ≤ es.length) && (es.take p.lo).all (fun e => (cl.getD i 0).testBit e) && (match es[p.hi]? with | some e => (cl.getD e 0).testBit i | none => decide (es.length ≤ p.hi))
      | _ => true)
  && idx.all (fun (o, i) => (tmpsOf ops o).all fun d => idx.all fun (o', k) => !(o'.dst == some d) || k == i || (if k < i then (cl.getD i 0).testBit k else (cl.getD k 0).testBit i))
  && idx.all (fun (o, i) => idx.all fun (o', k) => !(decide (i < k) && o.dst.isSome && o.dst == o'.dst) || (cl.getD k 0).testBit i)
def AChk (q : Nat) : List (Nat × (AHeap → Prop)) → AHeap → Prop
  | [], _ => True
  | (hi, p) :: cs, g => (q ≤ hi → p g) ∧ AChk q cs g
def ABack (lo : Nat) : List (Nat × AHeap) → (AHeap → Prop) → Prop
  | [], _ => True
  | (q, g) :: hs, p => (lo ≤ q → p g) ∧ ABack lo hs p
def AIs (P : Program) (o : Oper) (t : ATab) (h : AHeap) (v : AVal) (h' : AHeap) : Prop := AOp1 P o t h fun v' k => v' = v ∧ k = h'
def AWant (all : List Oper) (t : ATab) (o : Oper) (A B : Prop) : Prop :=
  match o.guard with
  | none => A
  | some (g, b) => AGuard (gval all t g) b A B
def ADraw (P : Program) (all : List Oper) : List Oper → List DP → Nat → ATab → AHeap → List (Nat × AHeap) → List AObj → Nat → List (Nat × (AHeap → Prop)) → (ATab → AHeap → Prop) → Prop
  | [], _, _, t, h, _, _, _, _, K => K t h
  | _ :: _, [], _, _, _, _, _, _, _, _ => False
  | o :: os, ⟨.pure, _, _⟩ :: pl, j, t, h, hist, Z, nz, chk, K =>
    AWant all t o (∃ v, AIs P o t h v h ∧ ADraw P all os pl j (t.put o.dst v) h hist Z nz chk K) (ADraw P all os pl j (t.put o.dst skip) h hist Z nz chk K)
  | o :: os, ⟨.read, lo, hi⟩ :: pl, j, t, h, hist, Z, nz, chk, K =>
    AWant all t o (∃ v, AIs P o t h v h ∧ ABack lo hist (fun g => AIs P o t g v g) ∧ ADraw P all os pl j (t.put o.dst v) h hist Z nz ((hi, fun g => AIs P o t g v g) :: chk) K)
      (ADraw P all os pl j (t.put o.dst skip) h hist Z nz chk K)
  | o :: os, ⟨.fresh, lo, hi⟩ :: pl, j, t, h, hist, Z, nz, chk, K =>
    AWant all t o (∃ z val, Z.head? = some z ∧ AFresh P o.op t (fun ob va => ob = z ∧ va = val) ∧ hget h nz = some z ∧ ABack lo hist (fun g => hget g nz = some z) ∧
        ADraw P all os pl j (t.put o.dst (val nz)) h hist Z.tail (nz + 1) ((hi, fun g => hget g nz = some z) :: chk) K)
      (ADraw P all os pl j (t.put o.dst skip) h hist Z.tail (nz + 1) chk K)
  | o :: os, ⟨.eff, _, _⟩ :: pl, j, t, h, hist, Z, nz, chk, K =>
    AWant all t o (∃ v h', AIs P o t h v h' ∧ h.length ≤ h'.length ∧ AChk (j + 1) chk h' ∧ ADraw P all os pl (j + 1) (t.put o.dst v) h' ((j, h) :: hist) Z nz chk K)
      (ADraw P all os pl (j + 1) (t.put o.dst skip) h ((j, h) :: hist) Z nz chk K)
noncomputable def DWant (all : List Oper) (t : ATab) (o : Oper) : Option Bool :=
  match o.guard with
  | none => some true
  | some (g, b) => match gval all t g with | .lit (.bool w) => some (w == b) | .lit (.tuple _) => some false | _ => none
def DFact (P : Program) (all : List Oper) (o : Oper) (p : DP) (t : ATab) (H : Nat → AHeap) (M j nz : Nat) (v : AVal) : Prop :=
  (DWant all t o = some false ∧ v = skip ∧ (p.k = .eff → H (j + 1) = H j)) ∨
  (DWant all t o = some true ∧ match p.k with
    | .pure => ∀ g, dkind o.op = .pure → AIs P o t g v g
    | .read => ∀ q, p.lo ≤ q → q ≤ p.hi → q ≤ M → AIs P o t (H q) v (H q)
    | .fresh => ∃ z val, AFresh P o.op t (fun ob va => ob = z ∧ va = val) ∧ v = val nz ∧ ∀ q, p.lo ≤ q → q ≤ p.hi → q ≤ M → hget (H q) nz = some z
    | .eff => AIs P o t (H j) v (H (j + 1)) ∧ (H j).length ≤ (H (j + 1)).length)
def DRun (P : Program) (all : List Oper) (V : Nat → AVal) (H : Nat → AHeap) (M : Nat) : List Oper → List DP → Nat → Nat → ATab → Nat → ATab → Prop
  | [], _, _, j, t, _, tf => j = M ∧ tf = t
  | _ :: _, [], _, _, _, _, _ => False
  | o :: os, p :: pl, i, j, t, nz, tf => DFact P all o p t H M j nz (V i) ∧
      DRun P all V H M os pl (i + 1) (if p.k = .eff then j + 1 else j) (t.put o.dst (V i)) (if p.k = .fresh then nz + 1 else nz) tf
theorem DRun.ext {P : Program} {all : List Oper} {V V' : Nat → AVal} {H : Nat → AHeap} {M : Nat} : ∀ {os : List Oper} {pl : List DP} {i j : Nat} {t : ATab} {nz : Nat} {tf : ATab}, (∀ k, i ≤ k → V' k = V k) →
    DRun P all V H M os pl i j t nz tf → DRun P all V' H M os pl i j t nz tf := by
  intro os
  induction os with
  | nil => intro pl i j t nz tf _ h; exact h
  | cons o os ih =>
    intro pl i j t nz tf hv h
    cases pl with
    | nil => exact h
    | cons p pl =>
      refine ⟨by rw [hv i (Nat.le_refl _)]; exact h.1, ?_⟩
      rw [hv i (Nat.le_refl _)]
      exact ih (fun k hk => hv k (by omega)) h.2
theorem want_cases {all : List Oper} {t : ATab} {o : Oper} {A B : Prop} (h : AWant all t o A B) : (DWant all t o = some true ∧ A) ∨ (DWant all t o = some false ∧ B) := by
  unfold AWant at h
  unfold DWant
  cases hg : o.guard with
  | none => rw [hg] at h; exact .inl ⟨rfl, h⟩
  | some g =>
    obtain ⟨g, b⟩ := g
    rw [hg] at h
    simp only at h ⊢
    unfold AGuard at h
    split at h
    · rename_i w hw
      rw [hw]
      by_cases e : w = b
      · exact .inl ⟨by simp [e], h.1 e⟩
      · refine .inr ⟨by simp [e], h.2 (by cases w <;> cases b <;> simp_all)⟩
    · rename_i w hw
      rw [hw]
      exact .inr ⟨rfl, h⟩
    · exact h.elim
theorem achk_get {q : Nat} {g : AHeap} : ∀ {cs : List (Nat × (AHeap → Prop))}, AChk q cs g → ∀ c ∈ cs, q ≤ c.1 → c.2 g
  | [], _, c, hc, _ => by cases hc
  | (hi, p) :: cs, h, c, hc, hq => by
    rcases List.mem_cons.1 hc with rfl | hc
    · exact h.1 hq
    · exact achk_get h.2 c hc hq
theorem aback_get {lo : Nat} {p : AHeap → Prop} : ∀ {hs : List (Nat × AHeap)}, ABack lo hs p → ∀ c ∈ hs, lo ≤ c.1 → p c.2
  | [], _, c, hc, _ => by cases hc
  | (q, g) :: hs, h, c, hc, hq => by
    rcases List.mem_cons.1 hc with rfl | hc
    · exact h.1 hq
    · exact aback_get h.2 c hc hq
theorem adraw_ext {P : Program} {all : List Oper} {K : ATab → AHeap → Prop} : ∀ (os : List Oper) (pl : List DP) (j : Nat) (t : ATab) (h : AHeap) (hist : List (Nat × AHeap)) (Z : List AObj) (nz : Nat) (chk : List (Nat × (AHeap → Prop))) (i : Nat) (Hp : Nat → AHeap),
    Hp j = h → (∀ q, q < j → (q, Hp q) ∈ hist) → (∀ c ∈ chk, j ≤ c.1 → c.2 h) → ADraw P all os pl j t h hist Z nz chk K →
    ∃ (V : Nat → AVal) (H : Nat → AHeap) (M : Nat) (tf : ATab), j ≤ M ∧ (∀ q, q ≤ j → H q = Hp q) ∧ DRun P all V H M os pl i j t nz tf ∧ (∀ c ∈ chk, ∀ q, j < q → q ≤ M → q ≤ c.1 → c.2 (H q)) ∧ K tf (H M) := by
  intro os
  induction os with
  | nil =>
    intro pl j t h hist Z nz chk i Hp h1 h2 h3 hk
    refine ⟨fun _ => .junk, Hp, j, t, Nat.le_refl _, fun _ _ => rfl, ⟨rfl, rfl⟩, fun c hc q a b => by omega, ?_⟩
    rw [h1]
    simpa only [ADraw] using hk
  | cons o os ih =>
    intro pl j t h hist Z nz chk i Hp h1 h2 h3 hk
    cases pl with
    | nil => simp only [ADraw] at hk
    | cons p pl =>
      obtain ⟨k, lo, hi⟩ := p
      have setV : ∀ {H : Nat → AHeap} {M : Nat} {V : Nat → AVal} {v : AVal} {j' nz' : Nat} {tf : ATab}, DRun P all V H M os pl (i + 1) j' (t.put o.dst v) nz' tf →
          DRun P all (fun k => if k = i then v else V k) H M os pl (i + 1) j' (t.put o.dst v) nz' tf := by
        intro H M V v j' nz' tf hr
        exact hr.ext fun k hk => by rw [if_neg (by omega)]
      have getV : ∀ (V : Nat → AVal) (v : AVal), (fun k => if k = i then v else V k) i = v := by intro V v; simp
      cases k with
      | pure =>
        simp only [ADraw] at hk
        rcases want_cases hk with ⟨hw, v, hv, hk⟩ | ⟨hw, hk⟩
        · obtain ⟨V, H, M, tf, a1, a2, a3, a4, a5⟩ := ih pl j _ h hist Z nz chk (i + 1) Hp h1 h2 h3 hk
          refine ⟨fun k => if k = i then v else V k, H, M, tf, a1, a2, ⟨?_, ?_⟩, a4, a5⟩
          · refine .inr ⟨hw, ?_⟩
            simp only [getV, if_true]
            intro g hp
            obtain ⟨X, hX⟩ := pure_indep (P := P) o t hp
            unfold AIs at hv ⊢
            rw [hX] at hv ⊢
            simpa using hv
          · simp only [if_true, reduceCtorEq, if_false]; exact setV a3
        · obtain ⟨V, H, M, tf, a1, a2, a3, a4, a5⟩ := ih pl j _ h hist Z nz chk (i + 1) Hp h1 h2 h3 hk
          refine ⟨fun k => if k = i then skip else V k, H, M, tf, a1, a2, ⟨.inl ⟨hw, by simp, fun e => by cases e⟩, ?_⟩, a4, a5⟩
          simp only [if_true, reduceCtorEq, if_false]; exact setV a3
      | read =>
        simp only [ADraw] at hk
        rcases want_cases hk with ⟨hw, v, hv, hb, hk⟩ | ⟨hw, hk⟩
        · obtain ⟨V, H, M, tf, a1, a2, a3, a4, a5⟩ := ih pl j _ h hist Z nz _ (i + 1) Hp h1 h2 (fun c hc hj => (List.mem_cons.1 hc).elim (fun e => by rw [e]; exact hv) (fun hc => h3 c hc hj)) hk
          refine ⟨fun k => if k = i then v else V k, H, M, tf, a1, a2, ⟨?_, ?_⟩, fun c hc => a4 c (List.mem_cons_of_mem _ hc), a5⟩
          · refine .inr ⟨hw, ?_⟩
            simp only [if_true]
            intro q hlo hhi hM
            rcases Nat.lt_trichotomy q j with hq | hq | hq
            · rw [a2 q (by omega)]; exact aback_get hb _ (h2 q hq) hlo
            · rw [hq, a2 j (Nat.le_refl _), h1]; exact hv
            · exact a4 _ (List.mem_cons_self ..) q hq hM hhi
          · simp only [if_true, reduceCtorEq, if_false]; exact setV a3
        · obtain ⟨V, H, M, tf, a1, a2, a3, a4, a5⟩ := ih pl j _ h hist Z nz chk (i + 1) Hp h1 h2 h3 hk
          refine ⟨fun k => if k = i then skip else V k, H, M, tf, a1, a2, ⟨.inl ⟨hw, by simp, fun e => by cases e⟩, ?_⟩, a4, a5⟩
          simp only [if_true, reduceCtorEq, if_false]; exact setV a3
      | fresh =>
        simp only [ADraw] at hk
        rcases want_cases hk with ⟨hw, z, val, _, hv, hz, hb, hk⟩ | ⟨hw, hk⟩
        · obtain ⟨V, H, M, tf, a1, a2, a3, a4, a5⟩ := ih pl j _ h hist Z.tail (nz + 1) _ (i + 1) Hp h1 h2 (fun c hc hj => (List.mem_cons.1 hc).elim (fun e => by rw [e]; exact hz) (fun hc => h3 c hc hj)) hk
          refine ⟨fun k => if k = i then val nz else V k, H, M, tf, a1, a2, ⟨?_, ?_⟩, fun c hc => a4 c (List.mem_cons_of_mem _ hc), a5⟩
          · refine .inr ⟨hw, ?_⟩
            simp only [if_true]
            refine ⟨z, val, hv, rfl, ?_⟩
            intro q hlo hhi hM
            rcases Nat.lt_trichotomy q j with hq | hq | hq
            · rw [a2 q (by omega)]; exact aback_get hb _ (h2 q hq) hlo
            · rw [hq, a2 j (Nat.le_refl _), h1]; exact hz
            · exact a4 _ (List.mem_cons_self ..) q hq hM hhi
          · simp only [if_true, reduceCtorEq, if_false]; exact setV a3
        · obtain ⟨V, H, M, tf, a1, a2, a3, a4, a5⟩ := ih pl j _ h hist Z.tail (nz + 1) chk (i + 1) Hp h1 h2 h3 hk
          refine ⟨fun k => if k = i then skip else V k, H, M, tf, a1, a2, ⟨.inl ⟨hw, by simp, fun e => by cases e⟩, ?_⟩, a4, a5⟩
          simp only [if_true, reduceCtorEq, if_false]; exact setV a3
      | eff =>
        simp only [ADraw] at hk
        rcases want_cases hk with ⟨hw, v, h', hv, hl, hc, hk⟩ | ⟨hw, hk⟩
        · obtain ⟨V, H, M, tf, a1, a2, a3, a4, a5⟩ := ih pl (j + 1) _ h' ((j, h) :: hist) Z nz chk (i + 1) (fun q => if q ≤ j then Hp q else h') (by rw [if_neg (by omega)]) (by
              intro q hq
              by_cases e : q = j
              · subst e; rw [if_pos (Nat.le_refl _), h1]; exact List.mem_cons_self ..
              · rw [if_pos (by omega)]; exact List.mem_cons_of_mem _ (h2 q (by omega))) (fun c hcm hj => achk_get hc c hcm hj) hk
          have hHj : H j = h := by rw [a2 j (by omega), if_pos (Nat.le_refl _), h1]
          have hHj1 : H (j + 1) = h' := by rw [a2 (j + 1) (Nat.le_refl _), if_neg (by omega)]
          refine ⟨fun k => if k = i then v else V k, H, M, tf, by omega, fun q hq => by rw [a2 q (by omega), if_pos hq], ⟨?_, ?_⟩, ?_, a5⟩
          · refine .inr ⟨hw, ?_⟩
            simp only [if_true]
            rw [hHj, hHj1]
            exact ⟨hv, hl⟩
          · simp only [if_true, reduceCtorEq, if_false]; exact setV a3
          · intro c hcm q hq hM hh
            by_cases e : q = j + 1
            · rw [e, hHj1]; exact achk_get hc c hcm (by omega)
            · exact a4 c hcm q (by omega) hM hh
        · obtain ⟨V, H, M, tf, a1, a2, a3, a4, a5⟩ := ih pl (j + 1) _ h ((j, h) :: hist) Z nz chk (i + 1) (fun q => if q ≤ j then Hp q else h) (by rw [if_neg (by omega)]) (by
              intro q hq
              by_cases e : q = j
              · subst e; rw [if_pos (Nat.le_refl _), h1]; exact List.mem_cons_self ..
              · rw [if_pos (by omega)]; exact List.mem_cons_of_mem _ (h2 q (by omega))) (fun c hcm hj => h3 c hcm (by omega)) hk
          have hHj : H j = h := by rw [a2 j (by omega), if_pos (Nat.le_refl _), h1]
          have hHj1 : H (j + 1) = h := by rw [a2 (j + 1) (Nat.le_refl _), if_neg (by omega)]
          refine ⟨fun k => if k = i then skip else V k, H, M, tf, by omega, fun q hq => by rw [a2 q (by omega), if_pos hq], ⟨.inl ⟨hw, by simp, fun _ => by rw [hHj, hHj1]⟩, ?_⟩, ?_, a5⟩
          · simp only [if_true, reduceCtorEq, if_false]; exact setV a3
          · intro c hcm q hq hM hh
            by_cases e : q = j + 1
            · rw [e, hHj1]; exact h3 c hcm (by omega)
            · exact a4 c hcm q (by omega) hM hh
end Go.AL
