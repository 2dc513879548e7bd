/- Drawn orders, walked as regions in the text's order are. -/
import Derived.Test.YtjiccnebfbpcgaaGreatDoorQAl23
set_option linter.unusedSimpArgs false
set_option linter.unusedVariables false
set_option linter.unusedSectionVars false
namespace Go.AL
def ADetC (P : Program) (f : AVal) (args : List AVal) (h : AHeap) (K : AVal → AHeap → Prop) : Prop :=
  ∃ v h', ACallV P f args h (fun v' k => v' = v ∧ k = h') ∧ K v h'
def AOpD (P : Program) (o : Oper) (t : ATab) (h : AHeap) (K : AVal → AHeap → Prop) : Prop :=
  match o.op with
  | .call { callee := .value f, args, .. } => ADetC P (aev t f) (args.toList.map (aev t)) h K
  | _ => AOp1 P o t h K
theorem aopd_det {P : Program} {o : Oper} {t : ATab} {h : AHeap} {K : AVal → AHeap → Prop} (hk : AOpD P o t h K) : ∃ v h', AIs P o t h v h' ∧ K v h' := by
  obtain ⟨d, op, ty, pos, af, g⟩ := o
  have plain : AStep P op t h K → ∃ v h', AStep P op t h (fun v' k => v' = v ∧ k = h') ∧ K v h' := det_step K
  cases op
  case call c =>
    obtain ⟨callee, args, ats⟩ := c
    cases callee with
    | value f => exact hk
    | invoke r m => exact plain hk
    | builtin b => exact plain hk
  case binOp op xt x y yt =>
    obtain ⟨v, h', h1, h2⟩ := det_step (P := P) (op := .binOp op xt x y yt) K hk.2
    exact ⟨v, h', ⟨hk.1, h1⟩, h2⟩
  all_goals exact plain hk
theorem det_fresh {P : Program} {op : Op} {t : ATab} {K : AObj → (Nat → AVal) → Prop} (hk : AFresh P op t K) : ∃ z val, AFresh P op t (fun ob va => ob = z ∧ va = val) ∧ K z val := by
  cases op <;> try exact hk.elim
  case alloc e =>
    obtain ⟨p, hp, hk⟩ := optK_some hk
    refine ⟨_, _, ?_, hk⟩
    show optK (zeroT P e) _
    rw [hp]; exact ⟨rfl, rfl⟩
  case box e x =>
    obtain ⟨p, hp, hk⟩ := optK_some hk
    refine ⟨_, _, ?_, hk⟩
    show optK (acells (aev t x)) _
    rw [hp]; exact ⟨rfl, rfl⟩
  case buildSlice e n ps =>
    obtain ⟨p, hp, h1, hk⟩ := optK_some hk
    obtain ⟨es, h2, h3⟩ := det_set _ hk
    refine ⟨_, _, ?_, h3⟩
    show optK (rowT P e) _
    rw [hp]
    exact ⟨h1, set_mono (fun b e => by subst e; exact ⟨rfl, rfl⟩) h2⟩
  case makeSlice e x y =>
    obtain ⟨p, hp, hk⟩ := optK_some hk
    have : ∃ v h', AFresh.ABuildM p.2 (aev t x) (aev t y) (fun v' k => v' = v ∧ k = h') ∧ K v h' := by
      unfold AFresh.ABuildM at hk ⊢
      split at hk
      · exact ⟨_, _, ⟨hk.1, hk.2.1, hk.2.2.1, rfl, rfl⟩, hk.2.2.2⟩
      · exact hk.elim
    obtain ⟨v, h', h1, h2⟩ := this
    refine ⟨v, h', ?_, h2⟩
    show optK (rowT P e) _
    rw [hp]; exact h1
def ADrw (P : Program) (all : List Oper) : List Oper → List DP → Nat → ATab → AHeap → List (Nat × AHeap) → List AObj → Nat → List (Nat × (AHeap → Prop)) → (ATab → AHeap → Prop) → Prop
  | [], _, _, t, h, _, _, _, _, K => K t h
  | _ :: _, [], _, _, _, _, _, _, _, _ => False
  | o :: os, ⟨.pure, _, _⟩ :: pl, j, t, h, hist, Z, nz, chk, K =>
    AWant all t o (AOpD P o t h fun v h' => h' = h ∧ ADrw P all os pl j (t.put o.dst v) h hist Z nz chk K) (ADrw P all os pl j (t.put o.dst skip) h hist Z nz chk K)
  | o :: os, ⟨.read, lo, hi⟩ :: pl, j, t, h, hist, Z, nz, chk, K =>
    AWant all t o (AOpD P o t h fun v h' => h' = h ∧ ABack lo hist (fun g => AIs P o t g v g) ∧ ADrw P all os pl j (t.put o.dst v) h hist Z nz ((hi, fun g => AIs P o t g v g) :: chk) K)
      (ADrw P all os pl j (t.put o.dst skip) h hist Z nz chk K)
  | o :: os, ⟨.fresh, lo, hi⟩ :: pl, j, t, h, hist, Z, nz, chk, K =>
    AWant all t o (AFresh P o.op t fun z val => Z.head? = some z ∧ hget h nz = some z ∧ ABack lo hist (fun g => hget g nz = some z) ∧
        ADrw P all os pl j (t.put o.dst (val nz)) h hist Z.tail (nz + 1) ((hi, fun g => hget g nz = some z) :: chk) K)
      (ADrw P all os pl j (t.put o.dst skip) h hist Z.tail (nz + 1) chk K)
  | o :: os, ⟨.eff, _, _⟩ :: pl, j, t, h, hist, Z, nz, chk, K =>
    AWant all t o (AOpD P o t h fun v h' => h.length ≤ h'.length ∧ AChk (j + 1) chk h' ∧ ADrw P all os pl (j + 1) (t.put o.dst v) h' ((j, h) :: hist) Z nz chk K)
      (ADrw P all os pl (j + 1) (t.put o.dst skip) h ((j, h) :: hist) Z nz chk K)
theorem want_mono {all : List Oper} {t : ATab} {o : Oper} {A B A' B' : Prop} (ha : A → A') (hb : B → B') (h : AWant all t o A B) : AWant all t o A' B' := by
  unfold AWant at *
  split at h
  · exact ha h
  · unfold AGuard at *
    split at h
    · exact ⟨fun e => ha (h.1 e), fun e => hb (h.2 e)⟩
    · exact hb h
    · exact h.elim
theorem adrw {P : Program} {all : List Oper} {K : ATab → AHeap → Prop} : ∀ (os : List Oper) (pl : List DP) (j : Nat) (t : ATab) (h : AHeap) (hist : List (Nat × AHeap)) (Z : List AObj) (nz : Nat) (chk : List (Nat × (AHeap → Prop))),
    ADrw P all os pl j t h hist Z nz chk K → ADraw P all os pl j t h hist Z nz chk K := by
  intro os
  induction os with
  | nil => intro pl j t h hist Z nz chk hk; cases pl <;> exact hk
  | cons o os ih =>
    intro pl j t h hist Z nz chk hk
    cases pl with
    | nil => exact hk
    | cons p pl =>
      obtain ⟨k, lo, hi⟩ := p
      cases k with
      | pure =>
        refine want_mono (fun hk => ?_) (ih _ _ _ _ _ _ _ _) hk
        obtain ⟨v, h', h1, rfl, h2⟩ := aopd_det hk
        exact ⟨v, h1, ih _ _ _ _ _ _ _ _ h2⟩
      | read =>
        refine want_mono (fun hk => ?_) (ih _ _ _ _ _ _ _ _) hk
        obtain ⟨v, h', h1, rfl, h3, h2⟩ := aopd_det hk
        exact ⟨v, h1, h3, ih _ _ _ _ _ _ _ _ h2⟩
      | fresh =>
        refine want_mono (fun hk => ?_) (ih _ _ _ _ _ _ _ _) hk
        obtain ⟨z, val, h1, h2, h3, h4, h5⟩ := det_fresh hk
        exact ⟨z, val, h2, h1, h3, h4, ih _ _ _ _ _ _ _ _ h5⟩
      | eff =>
        refine want_mono (fun hk => ?_) (ih _ _ _ _ _ _ _ _) hk
        obtain ⟨v, h', h1, h2, h3, h4⟩ := aopd_det hk
        exact ⟨v, h', h1, h2, h3, ih _ _ _ _ _ _ _ _ h4⟩
theorem awp_drawn {P : Program} {n0 : Nat} {md : Option Nat} {Q : Exit → ASt → Prop} {n : Nat} {t : ATab} {d : List ADef} {h : AHeap} {id : Nat} {ops : Array Oper} (hm : P.follows .mixedOrders = true) (pl : List DP) (Z : List AObj) (hpl : planOk n ops.toList pl = true)
    (hZ : Nat.ble (nzOf pl pl.length) Z.length = true)
    (hk : ADrw P ops.toList ops.toList pl 0 t (h ++ Z.map some) [] Z h.length [] fun t' h' => Q .normal ⟨n, t', d, h'⟩) : AWp P n0 md (.region id ops true) Q ⟨n, t, d, h⟩ :=
  awp_draw hm pl hpl Z (Nat.le_of_ble_eq_true hZ) (adrw _ _ _ _ _ _ _ _ _ hk)
theorem adetc_intro {P : Program} {f : FuncId} {first cap args : List AVal} {h : AHeap} {K : AVal → AHeap → Prop} (v : AVal) (h' : AHeap) (hok : callOk P f = true) (hc : ACall P f (first ++ (args ++ cap)) h fun v' k => v' = v ∧ k = h') (hk : K v h') :
    ADetC P (.func (.func f) first cap) args h K := ⟨v, h', .inl ⟨hok, hc⟩, hk⟩
theorem aguard_split {q w : Bool} {A B : Prop} (h1 : q = w → A) (h0 : q = (!w) → B) : AGuard (.lit (.bool q)) w A B := ⟨h1, h0⟩
end Go.AL
