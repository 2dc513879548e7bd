/- One operation that calls nothing, in the abstract picture: what it does, and that this is sound. -/
import Derived.Test.YtjiccnebfbpcgaaGreatDoorQAl26
set_option linter.unusedSimpArgs false
set_option linter.unusedVariables false
set_option linter.unusedSectionVars false
namespace Go.AL
def AMakeS (h : AHeap) (zero : List AVal) (len cap : AVal) (K : AVal → AHeap → Prop) : Prop :=
  match len, cap with
  | .lit (.int _ n), .lit (.int _ c) => 0 ≤ n ∧ n ≤ c ∧ c ≤ 4294967296 ∧ K (.slice h.length zero.length 0 n.toNat (some c.toNat)) (h ++ [some (.rows (List.replicate c.toNat zero))])
  | _, _ => False
theorem wrap64_small {n : Int} (h0 : 0 ≤ n) (h : n ≤ 4294967296) : IntKind.i64.wrap n = n := by
  unfold IntKind.wrap
  have hb : IntKind.i64.bits = 64 := rfl
  have hs : IntKind.i64.signed = true := rfl
  simp only [hb, hs, Bool.true_and]
  have : n % (2 ^ 64 : Int) = n := Int.emod_eq_of_lt h0 (by omega)
  rw [this]
  rw [if_neg (by simp; omega)]
theorem sound_makeS {P : Program} {C : Ctx} {h : AHeap} {w : World} (hr : HRel C h w) {t e : TypeId} {zero : List AVal} (ht : rowT P t = some (e, zero)) {len cap : AVal} {rl rc : Value} (hl : VRel C len rl) (hc : VRel C cap rc)
    {K : AVal → AHeap → Prop} (hk : AMakeS h zero len cap K) : Out P C h w (Instr.makeSlice t rl rc) K := by
  obtain ⟨hu, hz, i, hi, hb⟩ := rowT_ok ht
  obtain ⟨i', z, h1, h2, h3, h4⟩ := zeroT_ok hz
  rw [hi] at h1; cases h1
  cases hl <;> try exact hk.elim
  cases rl <;> try exact hk.elim
  rename_i k1 n
  cases hc <;> try exact hk.elim
  cases rc <;> try exact hk.elim
  rename_i k2 c
  obtain ⟨q1, q2, q3, q4⟩ := hk
  obtain ⟨m, rfl⟩ := Int.eq_ofNat_of_zero_le q1
  obtain ⟨d, rfl⟩ := Int.eq_ofNat_of_zero_le (show 0 ≤ c by omega)
  have hzr := rows_zero (h4 C) d
  obtain ⟨D, d1, d2, d3⟩ := sliceOf_new hr hzr e m (by rw [List.length_replicate]; omega)
  rw [List.length_replicate] at d3
  refine ⟨_, _, D, _, _, ?_, d1, d2, d3, by simpa using q4⟩
  have hs : ∀ w, (sizeOf e).run P w = .ok i.size w := fun w => by simp [sizeOf, typeInfo, hi]
  have hzv := fun w => run_zeroValue_of (P := P) hi h2 w
  have hti : ∀ w, (typeInfo e).run P w = .ok i w := fun w => by simp [typeInfo, hi]
  have w1 : IntKind.i64.wrap (m : Int) = m := wrap64_small q1 (by omega)
  have w2 : IntKind.i64.wrap (d : Int) = d := wrap64_small (by omega) q3
  have hbig : ¬ ((i.bytes : Int) * (d : Int) > 2 ^ 48) := by
    have : i.bytes * d ≤ 4096 * 4294967296 := Nat.mul_le_mul hb (by omega)
    have h5 : (i.bytes : Int) * (d : Int) = ((i.bytes * d : Nat) : Int) := by simp
    rw [h5]
    omega
  unfold Instr.makeSlice
  simp only [Sem.run_bind, run_underlying hu, Result.andThen_ok, asInt, asIntOf, Sem.run_pure, hti, w1, w2]
  rw [if_neg (by simp only [Bool.or_eq_true, decide_eq_true_eq]; omega)]
  simp only [Sem.run_bind, run_askRoom, Result.andThen_ok, hs, Int.toNat_natCast]
  by_cases h0 : d * i.size = 0
  · rw [if_pos h0]
    simp only [Sem.run_bind, Sem.run_pure, Result.andThen_ok, newRow, run_newObj]
    have e1 : (Array.range (d * i.size)).map (fun x => (#[] : Array Value)[x % (#[] : Array Value).size]!) = (Array.range (d * zero.length)).map (fun i => z.cells[i % z.cells.size]!) := by
      rw [← h3, h0]; simp
    rw [e1]
  · rw [if_neg h0]
    simp only [Sem.run_bind, hzv, Sem.run_pure, Result.andThen_ok, newRow, run_newObj]
    rw [h3]
inductive ConvK where
  | int (k : IntKind)
  | same
def convT (P : Program) (s d : TypeId) : Option ConvK :=
  match P.underlying s, P.underlying d with
  | some (.int _), some (.int k) => some (.int k)
  | some .string, some .string => some .same
  | _, _ => none
def AConv (q : ConvK) (x : AVal) (K : AVal → Prop) : Prop :=
  match q, x with
  | .int k, .lit (.int _ n) => K (.lit (.int k (k.wrap n)))
  | .same, .str l => K (.str l)
  | _, _ => False
theorem sound_conv {P : Program} {C : Ctx} {w : World} {s d : TypeId} {q : ConvK} (ht : convT P s d = some q) {x : AVal} {rx : Value} (hx : VRel C x rx) {K : AVal → Prop} (hk : AConv q x K) :
    ∃ v rv, (convert s d rx).run P w = .ok rv w ∧ VRel C v rv ∧ K v := by
  unfold convT at ht
  split at ht
  · rename_i k0 k h1 h2
    cases ht
    cases hx <;> try exact hk.elim
    cases rx <;> try exact hk.elim
    rename_i k1 n
    exact ⟨_, _, by simp only [convert, Sem.run_bind, run_underlying h1, run_underlying h2, Result.andThen_ok, Conv.intToInt, Sem.run_pure], .lit _, hk⟩
  · rename_i h1 h2
    cases ht
    cases hx <;> try exact hk.elim
    rename_i l st hs
    exact ⟨_, _, by simp only [convert, Sem.run_bind, run_underlying h1, run_underlying h2, Result.andThen_ok, Sem.run_pure], .str l st hs, hk⟩
  · cases ht
def ANilc (x : AVal) (K : Prop) : Prop :=
  match x with
  | .ptr .. | .fptr .. | .iter _ | .slice .. | .map _ | .fmap _ | .func (.func _) _ _ | .yieldf _ | .iface _ _ => K
  | _ => False
def AFieldV (x : AVal) (off n : Nat) (agg : Bool) (K : AVal → Prop) : Prop :=
  match x with
  | .agg cs => off + n ≤ cs.length ∧ K (mkv agg n (cs.drop off))
  | _ => False
def fieldVT (P : Program) (t : TypeId) (f : Nat) : Option (Nat × Nat × Bool) :=
  match P.underlying t with
  | some (.struct fs) => match fs[f]? with
    | some fd => (varT P fd.type).map fun p => (fd.offset, p)
    | none => none
  | _ => none
theorem sound_fieldV {P : Program} {C : Ctx} {w : World} {t : TypeId} {f off n : Nat} {agg : Bool} (ht : fieldVT P t f = some (off, n, agg)) {x : AVal} {rx : Value} (hx : VRel C x rx) {K : AVal → Prop} (hk : AFieldV x off n agg K) :
    ∃ v rv, (Instr.field t rx f).run P w = .ok rv w ∧ VRel C v rv ∧ K v := by
  unfold fieldVT at ht
  split at ht
  · rename_i fs hu
    split at ht
    · rename_i fd hf
      cases hv : varT P fd.type with
      | none => rw [hv] at ht; cases ht
      | some p =>
        rw [hv] at ht
        cases ht
        have hvt := varT_ok hv
        cases hx <;> try exact hk.elim
        rename_i cs rs hn hv'
        obtain ⟨h1, h2⟩ := hk
        have hrun : ∀ rv, (part fd.type rs fd.offset).run P w = .ok rv w → (Instr.field t (.agg rs) f).run P w = .ok rv w := by
          intro rv h
          simp only [Instr.field, Sem.run_bind, run_underlying hu, Result.andThen_ok, hf, asAgg, Sem.run_pure, h]
        cases agg with
        | true =>
          refine ⟨_, .agg (rs.extract fd.offset (fd.offset + n)), hrun _ ?_, ?_, h2⟩
          · simp only [part, Sem.run_bind, run_isAgg hvt, Result.andThen_ok, if_true, run_sizeOf' hvt, Sem.run_pure]
          · simp only [mkv, if_true]
            refine .agg _ _ (by simp; omega) fun i v rv a b => ?_
            rw [List.getElem?_take] at a
            split at a
            · rename_i hi
              rw [List.getElem?_drop] at a
              rw [Array.getElem?_extract] at b
              split at b
              · exact hv' _ v rv a b
              · cases b
            · cases a
        | false =>
          have h1n := hvt.one rfl
          subst h1n
          have hlt : fd.offset < cs.length := by omega
          refine ⟨_, rs[fd.offset]'(by omega), hrun _ ?_, ?_, h2⟩
          · simp only [part, Sem.run_bind, run_isAgg hvt, Result.andThen_ok, Bool.false_eq_true, if_false]
            rw [Array.getElem?_eq_getElem (by omega)]
            rfl
          · simp only [mkv, Bool.false_eq_true, if_false]
            rw [List.drop_eq_getElem_cons hlt]
            exact hv' fd.offset _ _ (List.getElem?_eq_getElem hlt) (Array.getElem?_eq_getElem (by omega))
    · cases ht
  · cases ht
def optK {α : Type} (o : Option α) (K : α → Prop) : Prop := match o with | some a => K a | none => False
theorem optK_some {α : Type} {o : Option α} {K : α → Prop} (h : optK o K) : ∃ a, o = some a ∧ K a := by
  cases o with
  | none => exact h.elim
  | some a => exact ⟨a, rfl, h⟩
noncomputable def ATab.ev (t : ATab) : AOpd → AVal
  | .t i => t.get i
  | .v x => x
noncomputable def aev (t : ATab) (x : Operand) : AVal := t.ev (opdOf x)
theorem aev_rel {C : Ctx} {n : Nat} {t : ATab} {a : Act} (h : TRel C n t a.tmps) (x : Operand) : VRel C (aev t x) (a.eval x) := by
  cases x with
  | tmp i => exact h.val i
  | const v =>
    cases v with
    | agg cs =>
      refine .agg _ cs (by simp) fun i v rv h1 h2 => ?_
      simp only [List.getElem?_map] at h1
      simp only [Array.getElem?_toList] at h1
      rw [h2] at h1
      cases h1
      exact absV_rel C _
    | string s => exact .str _ s rfl
    | _ => exact .lit _
  | global g => exact globA_rel C _
  | func f => exact .func _ [] [] #[] #[] rfl rfl (fun i v rv h1 => by simp at h1) (fun i v rv h1 => by simp at h1)
def AStep (P : Program) (op : Op) (t : ATab) (h : AHeap) (K : AVal → AHeap → Prop) : Prop :=
  match op with
  | .move x | .assign x => K (aev t x) h
  | .pick c a b => (match aev t c with
    | .lit (.bool q) => (q = true → K (aev t a) h) ∧ (q = false → K (aev t b) h)
    | _ => False)
  | .load ty x => optK (varT P ty) fun p => ALoad h (aev t x) p.1 p.2 fun v => K v h
  | .store ty x v => optK (varT P ty) fun p => AStore h (aev t x) (aev t v) p.1 fun h' => K .junk h'
  | .nilCheck x => ANilc (aev t x) (K (aev t x) h)
  | .binOp op ty x y _ => ABin (eqK P ty) op (aev t x) (aev t y) fun v => K v h
  | .unOp op _ x => AUn op (aev t x) fun v => K v h
  | .convert s d x => optK (convT P s d) fun q => AConv q (aev t x) fun v => K v h
  | .fieldAddr ty x f => optK (fieldT P ty f) fun off => AField (aev t x) off fun v => K v h
  | .field ty x f => optK (fieldVT P ty f) fun p => AFieldV (aev t x) p.1 p.2.1 p.2.2 fun v => K v h
  | .indexAddr ty x i => AIdxT P ty (aev t x) (aev t i) fun v => K v h
  | .makeMap _ none => K (.map h.length) (h ++ [some (.map [])])
  | .mapUpdate ty m k v | .insert ty m k v => optK (mapT P ty) fun q => AMapPut h q (aev t m) (aev t k) (aev t v) fun h' => K .junk h'
  | .lookup ty x k ok => optK (mapTZ P ty) fun p => AMapGet h p.1 p.2 (aev t x) (aev t k) ok fun v => K v h
  | .call { callee := .builtin .min, args, .. } => AMinMax false (args.toList.map (aev t)) fun v => K v h
  | .call { callee := .builtin .max, args, .. } => AMinMax true (args.toList.map (aev t)) fun v => K v h
  | .call { callee := .builtin .copy, args, argTypes } => (match args.toList with
    | [d, s] => optK (copyT P argTypes) fun e => ACopy h (aev t d) (aev t s) e K
    | _ => False)
  | .index ty x i => P.underlying ty = some .string ∧ AIndexS (aev t x) (aev t i) fun v => K v h
  | .alloc e => optK (zeroT P e) fun z => K (.ptr h.length 0 0) (h ++ [some (.rows [z])])
  | .box _ x => optK (acells (aev t x)) fun cs => K (.ptr h.length 0 0) (h ++ [some (.rows [cs])])
  | .build ty parts => optK (buildT P ty) fun p => AFill p.2 p.1 (parts.toList.map fun q => (q.1, aev t q.2)) fun cs => K (.agg cs) h
  | .buildSlice ty len parts => optK (rowT P ty) fun p => ABuildS h p.2 len (parts.toList.map fun q => (q.1, aev t q.2)) K
  | .makeSlice ty len cap => optK (rowT P ty) fun p => AMakeS h p.2 (aev t len) (aev t cap) K
  | .makeInterface ty x => (match P.underlying ty with | some (.interface _) | none => False | _ => True) ∧ K (.iface ty (aev t x)) h
  | .makeFunc fn first cap => K (.func fn (first.toList.map (aev t)) (cap.toList.map (aev t))) h
  | .extract x i => (match aev t x with
    | .tuple vs => optK vs[i]? fun v => K v h
    | _ => False)
  | .slice ty x lo hi none => optK (sliceT P ty) fun esz => ((aev t x).isStr = true ↔ P.underlying ty = some .string) ∧ ASlice (aev t x) (lo.map (aev t)) (hi.map (aev t)) esz fun v => K v h
  | .call { callee := .builtin .len, args, argTypes } => (match args.toList with
    | [x] => optK (lenT P argTypes) fun q => (aev t x).lenForm = some q ∧ ALen (aev t x) h fun v => K v h
    | _ => False)
  | .call { callee := .builtin .append, args, argTypes } => (match args.toList with
    | [s, x] => optK (appT P argTypes) fun p => AApp h (aev t s) (aev t x) p.2 K
    | _ => False)
  | _ => False
def OpOut (P : Program) (C : Ctx) (h : AHeap) (w : World) (s : Sem Next) (K : AVal → AHeap → Prop) : Prop :=
  ∃ v rv D h' w' r, s.run P w = .ok r w' ∧ (r = .value rv ∨ (r = .skip ∧ rv = undef)) ∧ C.le h.length D ∧ HRel D h' w' ∧ VRel D v rv ∧ K v h'
theorem opOut_val {P : Program} {C : Ctx} {h : AHeap} {w : World} (hr : HRel C h w) {s : Sem Value} {K : AVal → AHeap → Prop} (hs : ∃ v rv, s.run P w = .ok rv w ∧ VRel C v rv ∧ K v h) :
    OpOut P C h w (do pure (.value (← s))) K := by
  obtain ⟨v, rv, h1, h2, h3⟩ := hs
  exact ⟨v, rv, C, h, w, _, by simp only [Sem.run_bind, h1, Result.andThen_ok, Sem.run_pure], .inl rfl, .refl _ _, hr, h2, h3⟩
theorem opOut_out {P : Program} {C : Ctx} {h : AHeap} {w : World} {s : Sem Value} {K : AVal → AHeap → Prop} (hs : Out P C h w s K) : OpOut P C h w (do pure (.value (← s))) K := by
  obtain ⟨v, rv, D, h', w', h1, h2, h3, h4, h5⟩ := hs
  exact ⟨v, rv, D, h', w', _, by simp only [Sem.run_bind, h1, Result.andThen_ok, Sem.run_pure], .inl rfl, h2, h3, h4, h5⟩
theorem partsRel {C : Ctx} {n : Nat} {t : ATab} {a : Act} (ht : TRel C n t a.tmps) : ∀ (ps : List (Nat × Operand)), PartsRel C (ps.map fun q => (q.1, aev t q.2)) (ps.map fun q => (q.1, a.eval q.2))
  | [] => trivial
  | (_, x) :: ps => ⟨rfl, aev_rel ht x, partsRel ht ps⟩
theorem mapRel {C : Ctx} {n : Nat} {t : ATab} {a : Act} (ht : TRel C n t a.tmps) (xs : Array Operand) : VRels C (xs.toList.map (aev t)) (xs.map a.eval) := by
  refine ⟨by simp, fun i v rv h1 h2 => ?_⟩
  simp only [List.getElem?_map, Option.map_eq_some_iff, Array.getElem?_toList] at h1
  simp only [Array.getElem?_map, Option.map_eq_some_iff] at h2
  obtain ⟨x, g1, rfl⟩ := h1
  obtain ⟨y, g2, rfl⟩ := h2
  rw [g1] at g2; cases g2
  exact aev_rel ht x
theorem optRel {C : Ctx} {n : Nat} {t : ATab} {a : Act} (ht : TRel C n t a.tmps) (x : Option Operand) : OptRel C (x.map (aev t)) (x.map a.eval) := by
  cases x with
  | none => trivial
  | some x => exact aev_rel ht x
theorem box_run {P : Program} (e : TypeId) (v : Value) (w w' : World) (h : (newVar e v).run P w = .ok ⟨w.heap.size, 0, none⟩ w') : (Instr.box e v).run P w = .ok (.pointer (some ⟨w.heap.size, 0, none⟩)) w' := by
  simp [Instr.box, h]
end Go.AL
