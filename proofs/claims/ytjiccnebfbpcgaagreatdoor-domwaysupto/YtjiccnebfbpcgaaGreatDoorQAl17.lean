/- Regions that draw their order: kinds of operations; what an operation says depends on its operands alone; new blocks under a name that was kept for them. -/
import Derived.Test.YtjiccnebfbpcgaaGreatDoorQAl15
set_option linter.unusedSimpArgs false
set_option linter.unusedVariables false
set_option linter.unusedSectionVars false
namespace Go.AL
inductive DKind where
  | pure | read | fresh | eff
  deriving DecidableEq
def dkind : Op → DKind
  | .move _ | .assign _ | .pick .. | .nilCheck _ | .binOp .. | .unOp .. | .convert .. | .fieldAddr .. | .field .. | .indexAddr .. | .index .. | .build .. | .makeInterface .. | .makeFunc .. | .extract .. => .pure
  | .slice .. => .pure
  | .load .. => .read
  | .alloc .. | .box .. | .buildSlice .. | .makeSlice .. => .fresh
  | .call c => match c.callee with | .builtin .len => .read | _ => .eff
  | _ => .eff
theorem pure_indep {P : Program} (o : Oper) (t : ATab) (h : dkind o.op = .pure) : ∃ X : (AVal → Prop) → Prop, ∀ (h : AHeap) (K : AVal → AHeap → Prop), AOp1 P o t h K = X (fun v => K v h) := by
  obtain ⟨d, op, ty, pos, af, g⟩ := o
  cases op <;> simp only [dkind, reduceCtorEq] at h
  case move x => exact ⟨fun KV => KV (aev t x), fun _ _ => rfl⟩
  case assign x => exact ⟨fun KV => KV (aev t x), fun _ _ => rfl⟩
  case pick c x y =>
    refine ⟨fun KV => (match aev t c with | .lit (.bool q) => (q = true → KV (aev t x)) ∧ (q = false → KV (aev t y)) | _ => False), fun h K => ?_⟩
    show (match aev t c with | .lit (.bool q) => (q = true → K (aev t x) h) ∧ (q = false → K (aev t y) h) | _ => False) = _
    split <;> rfl
  case nilCheck x => exact ⟨fun KV => ANilc (aev t x) (KV (aev t x)), fun _ _ => rfl⟩
  case binOp op xt x y yt => exact ⟨fun KV => (eqSafe x y (aev t x) (aev t y) = true ∧ ABin (eqK P xt) op (aev t x) (aev t y) KV), fun _ _ => rfl⟩
  case unOp op xt x => exact ⟨fun KV => AUn op (aev t x) KV, fun _ _ => rfl⟩
  case convert s d x => exact ⟨fun KV => optK (convT P s d) fun q => AConv q (aev t x) KV, fun _ _ => rfl⟩
  case build e ps => exact ⟨fun KV => optK (buildT P e) fun p => AFill p.2 p.1 (ps.toList.map fun q => (q.1, aev t q.2)) fun cs => KV (.agg cs), fun _ _ => rfl⟩
  case makeInterface xt x => exact ⟨fun KV => (match P.underlying xt with | some (.interface _) | none => False | _ => True) ∧ KV (.iface xt (aev t x)), fun _ _ => rfl⟩
  case makeFunc fn f c => exact ⟨fun KV => KV (.func fn (f.toList.map (aev t)) (c.toList.map (aev t))), fun _ _ => rfl⟩
  case slice xt x lo hi mx =>
    cases mx with
    | some m => exact ⟨fun _ => False, fun _ _ => rfl⟩
    | none => exact ⟨fun KV => optK (sliceT P xt) fun esz => ((aev t x).isStr = true ↔ P.underlying xt = some .string) ∧ ASlice (aev t x) (lo.map (aev t)) (hi.map (aev t)) esz KV, fun _ _ => rfl⟩
  case fieldAddr xt x f => exact ⟨fun KV => optK (fieldT P xt f) fun off => AField (aev t x) off KV, fun _ _ => rfl⟩
  case field xt x f => exact ⟨fun KV => optK (fieldVT P xt f) fun p => AFieldV (aev t x) p.1 p.2.1 p.2.2 KV, fun _ _ => rfl⟩
  case indexAddr xt x i => exact ⟨fun KV => AIdxT P xt (aev t x) (aev t i) KV, fun _ _ => rfl⟩
  case index xt x i => exact ⟨fun KV => P.underlying xt = some .string ∧ AIndexS (aev t x) (aev t i) KV, fun _ _ => rfl⟩
  case extract x i =>
    refine ⟨fun KV => (match aev t x with | .tuple vs => optK vs[i]? KV | _ => False), fun h K => ?_⟩
    show (match aev t x with | .tuple vs => optK vs[i]? (fun v => K v h) | _ => False) = _
    split <;> rfl
  case call c =>
    split at h <;> cases h
theorem map_aev_congr {t t' : ATab} {l : List Operand} (h : ∀ x ∈ l, aev t x = aev t' x) : l.map (aev t) = l.map (aev t') := List.map_congr_left h
theorem parts_aev_congr {t t' : ATab} {l : List (Nat × Operand)} (h : ∀ x ∈ l, aev t x.2 = aev t' x.2) : (l.map fun q => (q.1, aev t q.2)) = l.map fun q => (q.1, aev t' q.2) := List.map_congr_left fun q hq => by rw [h q hq]
theorem opt_aev_congr {t t' : ATab} {l : Option Operand} (h : ∀ x, l = some x → aev t x = aev t' x) : l.map (aev t) = l.map (aev t') := by
  cases l with
  | none => rfl
  | some x => simp only [Option.map_some]; rw [h x rfl]
theorem AOp1_ops {P : Program} {o : Oper} {t t' : ATab} {h : AHeap} {K : AVal → AHeap → Prop} (hx : ∀ x ∈ o.op.operands, aev t x = aev t' x) (hk : AOp1 P o t h K) : AOp1 P o t' h K := by
  obtain ⟨d, op, ty, pos, af, g⟩ := o
  cases op <;> try exact hk.elim
  case move x => have e := hx x (by simp [Op.operands]); show K (aev t' x) h; rw [← e]; exact hk
  case assign x => have e := hx x (by simp [Op.operands]); show K (aev t' x) h; rw [← e]; exact hk
  case pick c x y =>
    have e1 := hx c (by simp [Op.operands]); have e2 := hx x (by simp [Op.operands]); have e3 := hx y (by simp [Op.operands])
    show (match aev t' c with | .lit (.bool q) => (q = true → K (aev t' x) h) ∧ (q = false → K (aev t' y) h) | _ => False)
    rw [← e1, ← e2, ← e3]; exact hk
  case nilCheck x => have e := hx x (by simp [Op.operands]); show ANilc (aev t' x) (K (aev t' x) h); rw [← e]; exact hk
  case binOp op xt x y yt =>
    have e1 := hx x (by simp [Op.operands]); have e2 := hx y (by simp [Op.operands])
    show (eqSafe x y (aev t' x) (aev t' y) = true ∧ ABin (eqK P xt) op (aev t' x) (aev t' y) fun v => K v h)
    rw [← e1, ← e2]; exact hk
  case unOp op xt x => have e := hx x (by simp [Op.operands]); show AUn op (aev t' x) fun v => K v h; rw [← e]; exact hk
  case convert s d x => have e := hx x (by simp [Op.operands]); show optK (convT P s d) fun q => AConv q (aev t' x) fun v => K v h; rw [← e]; exact hk
  case build e ps =>
    have e1 : (ps.toList.map fun q => (q.1, aev t q.2)) = _ := parts_aev_congr (t' := t') fun q hq => hx q.2 (by simp [Op.operands]; exact ⟨q.1, by simpa using hq⟩)
    show optK (buildT P e) fun p => AFill p.2 p.1 (ps.toList.map fun q => (q.1, aev t' q.2)) fun cs => K (.agg cs) h
    rw [← e1]; exact hk
  case makeInterface xt x => have e := hx x (by simp [Op.operands]); show _ ∧ K (.iface xt (aev t' x)) h; rw [← e]; exact hk
  case makeFunc fn f c =>
    have e1 : f.toList.map (aev t) = _ := map_aev_congr (t' := t') fun x q => hx x (by simp [Op.operands]; left; simpa using q)
    have e2 : c.toList.map (aev t) = _ := map_aev_congr (t' := t') fun x q => hx x (by simp [Op.operands]; right; simpa using q)
    show K (.func fn (f.toList.map (aev t')) (c.toList.map (aev t'))) h
    rw [← e1, ← e2]; exact hk
  case slice xt x lo hi mx =>
    cases mx with
    | some m => exact hk.elim
    | none =>
      have e1 := hx x (by simp [Op.operands])
      have e2 : lo.map (aev t) = _ := opt_aev_congr (t' := t') fun y q => hx y (by simp [Op.operands, q])
      have e3 : hi.map (aev t) = _ := opt_aev_congr (t' := t') fun y q => hx y (by simp [Op.operands, q])
      show optK (sliceT P xt) fun esz => ((aev t' x).isStr = true ↔ P.underlying xt = some .string) ∧ ASlice (aev t' x) (lo.map (aev t')) (hi.map (aev t')) esz fun v => K v h
      rw [← e1, ← e2, ← e3]; exact hk
  case fieldAddr xt x f => have e := hx x (by simp [Op.operands]); show optK (fieldT P xt f) fun off => AField (aev t' x) off fun v => K v h; rw [← e]; exact hk
  case field xt x f => have e := hx x (by simp [Op.operands]); show optK (fieldVT P xt f) fun p => AFieldV (aev t' x) p.1 p.2.1 p.2.2 fun v => K v h; rw [← e]; exact hk
  case indexAddr xt x i =>
    have e1 := hx x (by simp [Op.operands]); have e2 := hx i (by simp [Op.operands])
    show AIdxT P xt (aev t' x) (aev t' i) fun v => K v h
    rw [← e1, ← e2]; exact hk
  case index xt x i =>
    have e1 := hx x (by simp [Op.operands]); have e2 := hx i (by simp [Op.operands])
    show P.underlying xt = some .string ∧ AIndexS (aev t' x) (aev t' i) fun v => K v h
    rw [← e1, ← e2]; exact hk
  case extract x i =>
    have e := hx x (by simp [Op.operands])
    show (match aev t' x with | .tuple vs => optK vs[i]? (fun v => K v h) | _ => False)
    rw [← e]; exact hk
  case load vt x => have e := hx x (by simp [Op.operands]); show optK (varT P vt) fun p => ALoad h (aev t' x) p.1 p.2 fun v => K v h; rw [← e]; exact hk
  case store vt x v =>
    have e1 := hx x (by simp [Op.operands]); have e2 := hx v (by simp [Op.operands])
    show optK (varT P vt) fun p => AStore h (aev t' x) (aev t' v) p.1 fun h' => K .junk h'
    rw [← e1, ← e2]; exact hk
  case alloc e => exact hk
  case box e x => have e := hx x (by simp [Op.operands]); show optK (acells (aev t' x)) fun cs => K (.ptr h.length 0 0) (h ++ [some (.rows [cs])]); rw [← e]; exact hk
  case buildSlice e n ps =>
    have e1 : (ps.toList.map fun q => (q.1, aev t q.2)) = _ := parts_aev_congr (t' := t') fun q hq => hx q.2 (by simp [Op.operands]; exact ⟨q.1, by simpa using hq⟩)
    show optK (rowT P e) fun p => ABuildS h p.2 n (ps.toList.map fun q => (q.1, aev t' q.2)) K
    rw [← e1]; exact hk
  case makeSlice e x y =>
    have e1 := hx x (by simp [Op.operands]); have e2 := hx y (by simp [Op.operands])
    show optK (rowT P e) fun p => AMakeS h p.2 (aev t' x) (aev t' y) K
    rw [← e1, ← e2]; exact hk
  case makeMap mt r =>
    cases r with
    | some r => exact hk.elim
    | none => exact hk
  case mapUpdate mt m k v =>
    have e1 := hx m (by simp [Op.operands]); have e2 := hx k (by simp [Op.operands]); have e3 := hx v (by simp [Op.operands])
    show optK (mapT P mt) fun q => AMapPut h q (aev t' m) (aev t' k) (aev t' v) fun h' => K .junk h'
    rw [← e1, ← e2, ← e3]; exact hk
  case insert mt m k v =>
    have e1 := hx m (by simp [Op.operands]); have e2 := hx k (by simp [Op.operands]); have e3 := hx v (by simp [Op.operands])
    show optK (mapT P mt) fun q => AMapPut h q (aev t' m) (aev t' k) (aev t' v) fun h' => K .junk h'
    rw [← e1, ← e2, ← e3]; exact hk
  case lookup mt m k ok =>
    have e1 := hx m (by simp [Op.operands]); have e2 := hx k (by simp [Op.operands])
    show optK (mapTZ P mt) fun p => AMapGet h p.1 p.2 (aev t' m) (aev t' k) ok fun v => K v h
    rw [← e1, ← e2]; exact hk
  case call c =>
    obtain ⟨callee, args, ats⟩ := c
    have ea : args.toList.map (aev t) = args.toList.map (aev t') := map_aev_congr fun x q => hx x (by simp [Op.operands, Call.operands]; right; simpa using q)
    cases callee with
    | value f =>
      have ef := hx f (by simp [Op.operands, Call.operands])
      show ACallV P (aev t' f) (args.toList.map (aev t')) h K
      rw [← ef, ← ea]; exact hk
    | invoke r m => exact hk.elim
    | builtin b =>
      cases b <;> try exact hk.elim
      case len =>
        change (match args.toList with | [x] => optK (lenT P ats) fun q => (aev t x).lenForm = some q ∧ ALen (aev t x) h fun v => K v h | _ => False) at hk
        show (match args.toList with | [x] => optK (lenT P ats) fun q => (aev t' x).lenForm = some q ∧ ALen (aev t' x) h fun v => K v h | _ => False)
        generalize args.toList = l at hk ea
        cases l with
        | nil => exact hk
        | cons x l =>
          cases l with
          | cons y l => exact hk
          | nil =>
            simp only [List.map_cons, List.cons.injEq] at ea
            simp only [] at hk ⊢
            rw [← ea.1]; exact hk
      case min =>
        show AMinMax false (args.toList.map (aev t')) fun v => K v h
        rw [← ea]; exact hk
      case max =>
        show AMinMax true (args.toList.map (aev t')) fun v => K v h
        rw [← ea]; exact hk
      case copy =>
        change (match args.toList with | [d, s] => optK (copyT P ats) fun e => ACopy h (aev t d) (aev t s) e K | _ => False) at hk
        show (match args.toList with | [d, s] => optK (copyT P ats) fun e => ACopy h (aev t' d) (aev t' s) e K | _ => False)
        generalize args.toList = l at hk ea
        cases l with
        | nil => exact hk
        | cons x l =>
          cases l with
          | nil => exact hk
          | cons y l =>
            cases l with
            | cons z l => exact hk
            | nil =>
              simp only [List.map_cons, List.cons.injEq] at ea
              simp only [] at hk ⊢
              rw [← ea.1, ← ea.2.1]; exact hk
      case append =>
        change (match args.toList with | [s, x] => optK (appT P ats) fun p => AApp h (aev t s) (aev t x) p.2 K | _ => False) at hk
        show (match args.toList with | [s, x] => optK (appT P ats) fun p => AApp h (aev t' s) (aev t' x) p.2 K | _ => False)
        generalize args.toList = l at hk ea
        cases l with
        | nil => exact hk
        | cons x l =>
          cases l with
          | nil => exact hk
          | cons y l =>
            cases l with
            | cons z l => exact hk
            | nil =>
              simp only [List.map_cons, List.cons.injEq] at ea
              simp only [] at hk ⊢
              rw [← ea.1, ← ea.2.1]; exact hk
def AFresh (P : Program) (op : Op) (t : ATab) (K : AObj → (Nat → AVal) → Prop) : Prop :=
  match op with
  | .alloc e => optK (zeroT P e) fun z => K (.rows [z]) fun a => .ptr a 0 0
  | .box _ x => optK (acells (aev t x)) fun cs => K (.rows [cs]) fun a => .ptr a 0 0
  | .buildSlice ty n parts => optK (rowT P ty) fun p => (n * p.2.length ≤ 16777216 ∧ ASet p.2.length (List.replicate n p.2) (parts.toList.map fun q => (q.1, aev t q.2)) fun es => K (.rows es) fun a => .slice a p.2.length 0 n (some n))
  | .makeSlice ty len cap => optK (rowT P ty) fun p => ABuildM p.2 (aev t len) (aev t cap) K
  | _ => False
where
  ABuildM (zero : List AVal) (len cap : AVal) (K : AObj → (Nat → AVal) → Prop) : Prop :=
    match len, cap with
    | .lit (.int _ n), .lit (.int _ c) => 0 ≤ n ∧ n ≤ c ∧ c ≤ 4294967296 ∧ K (.rows (List.replicate c.toNat zero)) fun a => .slice a zero.length 0 n.toNat (some c.toNat)
    | _, _ => False
theorem AFresh_congr {P : Program} {op : Op} {t t' : ATab} {K : AObj → (Nat → AVal) → Prop} (hx : ∀ x ∈ op.operands, aev t x = aev t' x) (hk : AFresh P op t K) : AFresh P op t' K := by
  cases op <;> try exact hk.elim
  case alloc e => exact hk
  case box e x => have e := hx x (by simp [Op.operands]); show optK (acells (aev t' x)) _; rw [← e]; exact hk
  case buildSlice e n ps =>
    have e1 : (ps.toList.map fun q => (q.1, aev t q.2)) = _ := parts_aev_congr (t' := t') fun q hq => hx q.2 (by simp [Op.operands]; exact ⟨q.1, by simpa using hq⟩)
    show optK (rowT P e) fun p => (n * p.2.length ≤ 16777216 ∧ ASet p.2.length (List.replicate n p.2) (ps.toList.map fun q => (q.1, aev t' q.2)) fun es => K (.rows es) fun a => .slice a p.2.length 0 n (some n))
    rw [← e1]; exact hk
  case makeSlice e x y =>
    have e1 := hx x (by simp [Op.operands]); have e2 := hx y (by simp [Op.operands])
    show optK (rowT P e) fun p => AFresh.ABuildM p.2 (aev t' x) (aev t' y) K
    rw [← e1, ← e2]; exact hk
theorem HRel.realize {C : Ctx} {h : AHeap} {w w' : World} (hr : HRel C h w) (r : Obj) (hw : w'.heap = w.heap.push r) {a : Nat} {obj : AObj} (ha : hget h a = some obj) (hμ : C.μ a = none) (hnt : ∀ e n, obj ≠ .tok e n)
    (L : Loc) (hL : L.b = w.heap.size) (ho : ORel (C.with a L) L obj r) (hio : (w'.os, w'.output) = (w.os, w.output) := by rfl) : HRel (C.with a L) h w' := by
  have hlt := hget_lt ha
  have hsub := Ctx.with_sub L hμ
  have hold : ∀ b, b < w.heap.size → w'.heap[b]? = w.heap[b]? := fun b hb => by rw [hw]; exact heap_push_old hb
  have hs : w'.heap.size = w.heap.size + 1 := by rw [hw]; simp
  have hloc : ∀ a1 x1 M, hget h a1 = some x1 → locOf (C.with a L) a1 x1 = some M → (a1 = a ∧ x1 = obj ∧ M = L) ∨ (a1 ≠ a ∧ locOf C a1 x1 = some M) := by
    intro a1 x1 M e hl
    by_cases hq : a1 = a
    · subst hq
      rw [ha] at e; cases e
      left
      cases obj with
      | tok e n => exact absurd rfl (hnt e n)
      | _ => simp only [locOf, Ctx.with_self] at hl; cases hl; exact ⟨rfl, rfl, rfl⟩
    · right
      refine ⟨hq, ?_⟩
      cases x1 with
      | tok e n => exact hl
      | _ => simp only [locOf, Ctx.with] at hl; rw [if_neg hq] at hl; exact hl
  refine ⟨?_, ?_, ?_, ?_, ?_, ?_, ?_, hr.top, hio.trans hr.io⟩
  · intro b q v hc
    rw [cell_congr (hold b (hr.fc_lt hc))]; exact hr.cells b q v hc
  · intro b x hg
    rw [hold b (hr.g_lt hg)]; exact hr.frozen b x hg
  · intro a1 x1 M e hl
    rcases hloc a1 x1 M e hl with ⟨rfl, rfl, rfl⟩ | ⟨_, hl⟩
    · refine ⟨?_, fun q _ => ?_, r, ?_, ho⟩
      · show C.g M.b = none
        cases hg : C.g M.b with
        | none => rfl
        | some y => have := hr.g_lt hg; omega
      · show C.fc M.b q = none
        cases hg : C.fc M.b q with
        | none => rfl
        | some y => have := hr.fc_lt hg; omega
      · rw [hL, hw]; simp
    · obtain ⟨h1, h1', r1, h2, h3⟩ := hr.live a1 x1 M e hl
      exact ⟨h1, h1', r1, by rw [hold _ (hr.loc_lt hl)]; exact h2, h3.mono hsub⟩
  · intro a1 a2 x1 x2 M1 M2 e1 e2 l1 l2 hb
    rcases hloc a1 x1 M1 e1 l1 with ⟨q1, _, z1⟩ | ⟨_, m1⟩ <;> rcases hloc a2 x2 M2 e2 l2 with ⟨q2, _, z2⟩ | ⟨_, m2⟩
    · rw [q1, q2]
    · subst z1; have := hr.loc_lt m2; omega
    · subst z2; have := hr.loc_lt m1; omega
    · exact hr.inj a1 a2 x1 x2 M1 M2 e1 e2 m1 m2 hb
  · intro a1 ha1
    refine ⟨?_, (hr.fresh a1 ha1).2⟩
    simp only [Ctx.with]
    rw [if_neg (by omega)]; exact (hr.fresh a1 ha1).1
  · intro a1 M hM
    simp only [Ctx.with] at hM
    split at hM
    · cases hM; omega
    · have := hr.there a1 M hM; omega
  · intro a1 k M hM
    have := hr.thereτ a1 k M hM; omega
theorem HRel.reserve {C : Ctx} {h : AHeap} {w : World} (hr : HRel C h w) (Z : List AObj) : HRel C (h ++ Z.map some) w := by
  have f : ∀ a x L, hget (h ++ Z.map some) a = some x → locOf C a x = some L → hget h a = some x := by
    intro a x L hx hL
    by_cases ha : a < h.length
    · rw [hget_append_old ha] at hx; exact hx
    · have := hr.fresh a (by omega)
      cases x <;> simp only [locOf] at hL <;> first | (rw [this.1] at hL; cases hL) | (rw [this.2] at hL; cases hL)
  refine ⟨hr.cells, hr.frozen, fun a o L hx hL => hr.live a o L (f a o L hx hL) hL, fun a a' o o' L L' h1 h2 h3 h4 h5 => hr.inj a a' o o' L L' (f _ _ _ h1 h3) (f _ _ _ h2 h4) h3 h4 h5, fun a ha => hr.fresh a ?_, hr.there, hr.thereτ, ?_, hr.io⟩
  · simp only [List.length_append] at ha; omega
  · intro a e n ha m hm
    by_cases hlt : a < h.length
    · rw [hget_append_old hlt] at ha; exact hr.top a e n ha m hm
    · exact (hr.fresh a (by omega)).2 m
def FreshOut (P : Program) (C : Ctx) (w : World) (s : Sem Value) (K : AObj → (Nat → AVal) → Prop) : Prop :=
  ∃ obj val rv r w', s.run P w = .ok rv w' ∧ w'.heap = w.heap.push r ∧ (w'.os, w'.output) = (w.os, w.output) ∧ (∀ e n, obj ≠ AObj.tok e n) ∧ K obj val ∧
    ∃ base esz size elem, ∀ D a, C.sub D → D.μ a = some ⟨w.heap.size, base, esz, size, elem⟩ → ORel D ⟨w.heap.size, base, esz, size, elem⟩ obj r ∧ VRel D (val a) rv
theorem fresh_newVar {P : Program} {C : Ctx} {w : World} {cs : List AVal} {v : Value} (hc : CellsRel C cs v.cells) (t : TypeId) {K : AObj → (Nat → AVal) → Prop} (hk : K (.rows [cs]) fun a => .ptr a 0 0) {s : Sem Value}
    (hs : s.run P w = .ok (.pointer (some ⟨w.heap.size, 0, none⟩)) { w with heap := w.heap.push (.cells v.cells t) }) : FreshOut P C w s K := by
  refine ⟨_, _, _, .cells v.cells t, _, hs, rfl, rfl, fun _ _ => by simp, hk, 0, cs.length, cs.length, t, fun D a hs hD => ⟨rows_one (hc.mono hs) _ _, ?_⟩⟩
  have := VRel.ptr (C := D) a 0 0 _ hD
  simpa using this
theorem fresh_rows {C : Ctx} {w : World} {esz : Nat} {es : List (List AVal)} {rs : Array Value} (hrs : RowsOf C esz es rs) (e : TypeId) (n : Nat) (hn : n ≤ es.length) (D : Ctx) (a : Nat) (hs : C.sub D) (hD : D.μ a = some ⟨w.heap.size, 0, esz, rs.size, e⟩) :
    ORel D ⟨w.heap.size, 0, esz, rs.size, e⟩ (.rows es) (.cells rs e) ∧ VRel D (.slice a esz 0 n (some es.length)) (.slice (some ⟨w.heap.size, 0, none⟩) n es.length) := by
  refine ⟨⟨_, rfl, ?_⟩, ?_⟩
  · have := rowsRel_of (rest := #[]) (hrs.mono hs) ⟨w.heap.size, 0, esz, rs.size, e⟩ rfl rfl (by simp)
    simpa using this
  · have := VRel.slice (C := D) a esz 0 n (some es.length) es.length _ hD rfl (fun c hc => by cases hc; rfl) hn (by simp only [Nat.zero_add]; rw [hrs.size]; exact Nat.le_refl _)
    simpa using this
theorem fresh_buildS {P : Program} {C : Ctx} {w : World} {t e : TypeId} {zero : List AVal} (ht : rowT P t = some (e, zero)) {len : Nat} {parts : List (Nat × AVal)} {rparts : Array (Nat × Value)} (hp : PartsRel C parts rparts.toList)
    {K : AObj → (Nat → AVal) → Prop} (hbig : len * zero.length ≤ 16777216) (hk : ASet zero.length (List.replicate len zero) parts fun es => K (.rows es) fun a => .slice a zero.length 0 len (some len)) : FreshOut P C w (Instr.buildSlice t len rparts) K := by
  obtain ⟨hu, hz, i, hi, hb⟩ := rowT_ok ht
  obtain ⟨i', z, h1, h2, h3, h4⟩ := zeroT_ok hz
  rw [hi] at h1; cases h1
  have hzr := rows_zero (h4 C) len
  have hrow0 : (Array.range (len * i.size)).map (fun x => (if len * i.size = 0 then (#[] : Array Value) else z.cells)[x % (if len * i.size = 0 then (#[] : Array Value) else z.cells).size]!) = (Array.range (len * zero.length)).map (fun i => z.cells[i % z.cells.size]!) := by
    rw [h3]
    by_cases h0 : len * zero.length = 0
    · rw [h0]; simp
    · rw [if_neg h0]
  obtain ⟨out, rout, g1, g2, g3, g4⟩ := set_ok zero.length parts rparts.toList _ _ _ hp hzr hk
  rw [List.length_replicate] at g3
  have key := fun D a => fresh_rows (w := w) g2 e len (by omega) D a
  rw [g3] at key
  refine ⟨_, _, .slice (some ⟨w.heap.size, 0, none⟩) len len, .cells rout e, { w with heap := w.heap.push (.cells rout e) }, ?_, rfl, rfl, fun _ _ => by simp, g4, 0, zero.length, rout.size, e, key⟩
  have hs : ∀ w, (sizeOf e).run P w = .ok i.size w := fun w => by simp [sizeOf, typeInfo, hi]
  have hzv := fun w => run_zeroValue_of (P := P) hi h2 w
  unfold Instr.buildSlice
  simp only [Sem.run_bind, run_underlying hu, Result.andThen_ok, hs]
  rw [if_neg (by rw [h3]; omega)]
  (try simp only [Sem.run_bind, Sem.run_pure, Result.andThen_ok])
  by_cases h0 : len * i.size = 0
  · rw [if_pos h0]
    simp only [Sem.run_bind, Sem.run_pure, Result.andThen_ok]
    rw [if_pos h0] at hrow0
    rw [hrow0, ← h3] at *
    rw [h3, g1]
    simp [newRow]
  · rw [if_neg h0]
    simp only [Sem.run_bind, hzv, Sem.run_pure, Result.andThen_ok]
    rw [if_neg h0] at hrow0
    rw [hrow0, h3, g1]
    simp [newRow]
theorem fresh_makeS {P : Program} {C : Ctx} {w : World} {t e : TypeId} {zero : List AVal} (ht : rowT P t = some (e, zero)) {len cap : AVal} {rl rc : Value} (hl : VRel C len rl) (hc : VRel C cap rc)
    {K : AObj → (Nat → AVal) → Prop} (hk : AFresh.ABuildM zero len cap K) : FreshOut P C w (Instr.makeSlice t rl rc) K := by
  obtain ⟨hu, hz, i, hi, hb⟩ := rowT_ok ht
  obtain ⟨i', z, h1, h2, h3, h4⟩ := zeroT_ok hz
  rw [hi] at h1; cases h1
  cases hl <;> try exact hk.elim
  cases rl <;> try exact hk.elim
  rename_i k1 n
  cases hc <;> try exact hk.elim
  cases rc <;> try exact hk.elim
  rename_i k2 c
  obtain ⟨q1, q2, q3, q4⟩ := hk
  obtain ⟨m, rfl⟩ := Int.eq_ofNat_of_zero_le q1
  obtain ⟨d, rfl⟩ := Int.eq_ofNat_of_zero_le (show 0 ≤ c by omega)
  have hzr := rows_zero (h4 C) d
  have key := fun D a => fresh_rows (w := w) hzr e m (by rw [List.length_replicate]; omega) D a
  rw [List.length_replicate] at key
  simp only [Int.toNat_natCast] at q4
  refine ⟨_, _, .slice (some ⟨w.heap.size, 0, none⟩) m d, .cells ((Array.range (d * zero.length)).map (fun i => z.cells[i % z.cells.size]!)) e, { w with heap := w.heap.push (.cells ((Array.range (d * zero.length)).map (fun i => z.cells[i % z.cells.size]!)) e) }, ?_, rfl, rfl, fun _ _ => by simp, q4, 0, zero.length, _, e, key⟩
  have hs : ∀ w, (sizeOf e).run P w = .ok i.size w := fun w => by simp [sizeOf, typeInfo, hi]
  have hzv := fun w => run_zeroValue_of (P := P) hi h2 w
  have hti : ∀ w, (typeInfo e).run P w = .ok i w := fun w => by simp [typeInfo, hi]
  have w1 : IntKind.i64.wrap (m : Int) = m := wrap64_small q1 (by omega)
  have w2 : IntKind.i64.wrap (d : Int) = d := wrap64_small (by omega) q3
  have hbig : ¬ ((i.bytes : Int) * (d : Int) > 2 ^ 48) := by
    have : i.bytes * d ≤ 4096 * 4294967296 := Nat.mul_le_mul hb (by omega)
    have h5 : (i.bytes : Int) * (d : Int) = ((i.bytes * d : Nat) : Int) := by simp
    rw [h5]
    omega
  unfold Instr.makeSlice
  simp only [Sem.run_bind, run_underlying hu, Result.andThen_ok, asInt, asIntOf, Sem.run_pure, hti, w1, w2]
  rw [if_neg (by simp only [Bool.or_eq_true, decide_eq_true_eq]; omega)]
  simp only [Sem.run_bind, run_askRoom, Result.andThen_ok, hs, Int.toNat_natCast]
  by_cases h0 : d * i.size = 0
  · rw [if_pos h0]
    simp only [Sem.run_bind, Sem.run_pure, Result.andThen_ok, newRow, run_newObj]
    have e1 : (Array.range (d * i.size)).map (fun x => (#[] : Array Value)[x % (#[] : Array Value).size]!) = (Array.range (d * zero.length)).map (fun i => z.cells[i % z.cells.size]!) := by
      rw [← h3, h0]; simp
    rw [e1]
  · rw [if_neg h0]
    simp only [Sem.run_bind, hzv, Sem.run_pure, Result.andThen_ok, newRow, run_newObj]
    rw [h3]
theorem fresh_ok {P : Program} {C : Ctx} {n : Nat} {t : ATab} {a : Act} {w : World} (ht : TRel C n t a.tmps) (o : Oper) {K : AObj → (Nat → AVal) → Prop} (hk : AFresh P o.op t K) :
    ∃ s, (∀ rv w', s.run P w = .ok rv w' → (execOp a.eval o).run P w = .ok (.value rv) w') ∧ FreshOut P C w s K := by
  have ev := fun x => aev_rel ht x
  have lift : ∀ (s : Sem Value), execOp a.eval o = (do pure (.value (← s))) → ∀ rv w', s.run P w = .ok rv w' → (execOp a.eval o).run P w = .ok (.value rv) w' := by
    intro s e rv w' h
    rw [e]; simp only [Sem.run_bind, h, Result.andThen_ok, Sem.run_pure]
  cases hop : o.op <;> rw [hop] at hk <;> simp only [AFresh] at hk <;> try exact hk.elim
  case alloc e =>
    obtain ⟨z, hz, hk⟩ := optK_some hk
    obtain ⟨i, zv, h1, h2, h3, h4⟩ := zeroT_ok hz
    refine ⟨_, lift _ (by unfold execOp; rw [hop]), fresh_newVar (v := zv) (h4 C) e hk ?_⟩
    simp only [Instr.alloc, Sem.run_bind, run_zeroValue_of h1 h2, Result.andThen_ok]
    simp [newVar, newRow]
  case box e x =>
    obtain ⟨cs, hc, hk⟩ := optK_some hk
    refine ⟨_, lift _ (by unfold execOp; rw [hop]), fresh_newVar (v := a.eval x) (acells_ok (ev x) hc) e hk ?_⟩
    exact box_run e _ w _ (by simp [newVar, newRow])
  case buildSlice ty len parts =>
    obtain ⟨p, hp, h1, hk⟩ := optK_some hk
    refine ⟨_, lift _ (by unfold execOp; rw [hop]), fresh_buildS hp ?_ h1 hk⟩
    rw [Array.toList_map]
    exact partsRel ht parts.toList
  case makeSlice ty len cap =>
    obtain ⟨p, hp, hk⟩ := optK_some hk
    exact ⟨_, lift _ (by unfold execOp; rw [hop]), fresh_makeS hp (ev len) (ev cap) hk⟩
end Go.AL
