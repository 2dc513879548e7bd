/- Regions in the order of the text, with calls; a function's contract out of its body. -/
import Derived.Test.YtjiccnebfbpcgaaGreatDoorQAl13
import Derived.Laws.Externs
set_option linter.unusedSimpArgs false
set_option linter.unusedVariables false
set_option linter.unusedSectionVars false
namespace Go.AL
def callOk (P : Program) (f : FuncId) : Bool :=
  match P.funcs[f]? with
  | some fn => fn.body.isSome && !(fn.name == "runtime.NumGoroutine")
  | none => false
theorem callFunc_run {P : Program} {f : FuncId} (h : callOk P f = true) (args : Array Value) (w : World) : (callFunc f args).run P w = .ok (.enter f args) w := by
  unfold callOk at h
  split at h
  · rename_i fn hf
    simp only [Bool.and_eq_true, Bool.not_eq_true', beq_eq_false_iff_ne] at h
    have hb : fn.body.isNone = false := by
      cases hbb : fn.body with
      | none => rw [hbb] at h; simp at h
      | some b => rfl
    unfold callFunc
    simp only [Sem.run_bind, run_program, Result.andThen_ok, hf]
    have h2 : (fn.name == "runtime.NumGoroutine") = false := by simpa using h.2
    simp only [h2, hb, Bool.false_eq_true, if_false, Sem.run_pure]
  · cases h
def AYield (P : Program) (a : Nat) (args : List AVal) (h : AHeap) (R : AVal → AHeap → Prop) : Prop :=
  ∀ C w rargs L, HRel C h w → VRels C args rargs → C.μ a = some L →
    ∃ l, w.heap[L.b]? = some (.loop l) ∧ rargs.size = l.params.size ∧
      RoundIn Fence.wide 0 P L.b l.fn ((l.params.zip rargs).foldl (fun tmps (t, a) => tmps.setIfInBounds t a) l.tmps) l.assign l.body w fun e w' =>
        ∃ v rv D h', e = .returned rv ∧ C.le h.length D ∧ HRel D h' w' ∧ VRel D v rv ∧ R v h'
inductive ExtK where
  | indexByte | same
def externK (P : Program) (g : FuncId) : Option ExtK :=
  match P.funcs[g]? with
  | some fn => if fn.body.isNone && fn.origin == "" then
      (if fn.name == "internal/bytealg.IndexByteString" then some .indexByte else if fn.name == "internal/abi.NoEscape" then some .same else none) else none
  | none => none
def idxByte (l : List UInt8) (c : Int) : Int := match l.findIdx? (fun b => b == c.toNat.toUInt8) with | some i => i | none => -1
def AExtern (q : ExtK) (args : List AVal) (K : AVal → Prop) : Prop :=
  match q, args with
  | .indexByte, [.str l, .lit (.int .u8 c)] => K (.lit (.int .i64 (idxByte l c)))
  | .same, [x] => K x
  | _, _ => False
def ACallV (P : Program) (f : AVal) (args : List AVal) (h : AHeap) (K : AVal → AHeap → Prop) : Prop :=
  match f with
  | .func (.func g) first cap => (callOk P g = true ∧ ACall P g (first ++ (args ++ cap)) h K) ∨ ∃ q, externK P g = some q ∧ AExtern q (first ++ (args ++ cap)) fun v => K v h
  | .yieldf a => AYield P a args h K
  | _ => False
def AOp1 (P : Program) (o : Oper) (t : ATab) (h : AHeap) (K : AVal → AHeap → Prop) : Prop :=
  match o.op with
  | .call { callee := .value f, args, .. } => ACallV P (aev t f) (args.toList.map (aev t)) h K
  | .binOp op ty x y yt => eqSafe x y (aev t x) (aev t y) = true ∧ AStep P (.binOp op ty x y yt) t h K
  | op => AStep P op t h K
noncomputable def ATab.put (t : ATab) (d : Option Tmp) (v : AVal) : ATab := match d with | some d => t.set d v | none => t
theorem TRel.put {C : Ctx} {n : Nat} {t : ATab} {a : Act} (ht : TRel C n t a.tmps) {d : Option Tmp} (hd : ∀ x, d = some x → x < n) {v : AVal} {rv : Value} (hv : VRel C v rv) : TRel C n (t.put d v) (a.put d rv).tmps := by
  cases d with
  | none => exact ht
  | some d =>
    refine ⟨by simp [Act.put, ht.size], fun i => ?_⟩
    simp only [ATab.put, ATab.get_set, Act.put]
    by_cases h : d = i
    · subst h
      rw [if_pos rfl]
      have : d < a.tmps.size := by rw [ht.size]; exact hd d rfl
      simp [Array.getD, this, hv]
    · rw [if_neg h]
      have := ht.val i
      simpa [Array.getD_eq_getD_getElem?, Array.getElem?_setIfInBounds_ne h] using this
theorem vrels_append {C : Ctx} {xs ys : List AVal} {rx ry : Array Value} (h : VRels C xs rx) (g : VRels C ys ry) : VRels C (xs ++ ys) (rx ++ ry) := by
  refine ⟨by rw [List.length_append, Array.size_append, h.1, g.1], fun i v rv h1 h2 => ?_⟩
  rw [List.getElem?_append] at h1
  rw [Array.getElem?_append] at h2
  split at h1
  · rename_i hi
    rw [if_pos (by rw [← h.1]; exact hi)] at h2
    exact h.2 i v rv h1 h2
  · rename_i hi
    rw [if_neg (by rw [← h.1]; exact hi)] at h2
    exact g.2 _ v rv h1 (by rw [h.1]; exact h2)
def Goes (C : Ctx) (h : AHeap) (K : AVal → AHeap → Prop) (o : Oper) (a : Act) (next : Act → World → Prop) : Prop :=
  ∀ D h' w' v rv, C.le h.length D → HRel D h' w' → VRel D v rv → K v h' → next (a.put o.dst rv) w'
theorem find_range {c : UInt8} : ∀ (l : List UInt8), ((List.range l.length).find? fun i => l[i]! == c) = l.findIdx? (fun b => b == c) := by
  intro l
  induction l with
  | nil => rfl
  | cons a l ih =>
    rw [List.length_cons, List.range_succ_eq_map, List.find?_cons, List.findIdx?_cons]
    simp only [List.getElem!_cons_zero]
    split
    · rename_i e; rw [e]; rfl
    · rename_i e
      rw [e, List.find?_map]
      simp only [Function.comp_def, List.getElem!_cons_succ, ih]
      rfl
theorem externK_ok {P : Program} {g : FuncId} {q : ExtK} (h : externK P g = some q) : ∃ fn, P.funcs[g]? = some fn ∧ fn.body.isNone = true ∧ fn.origin = "" ∧ fn.name = (match q with | .indexByte => "internal/bytealg.IndexByteString" | .same => "internal/abi.NoEscape") := by
  unfold externK at h
  split at h
  · rename_i fn hf
    split at h
    · rename_i hb
      simp only [Bool.and_eq_true, beq_iff_eq] at hb
      split at h
      · rename_i e; cases h; exact ⟨fn, hf, hb.1, hb.2, by simpa using e⟩
      · split at h
        · rename_i e; cases h; exact ⟨fn, hf, hb.1, hb.2, by simpa using e⟩
        · cases h
    · cases h
  · cases h
theorem extern_run {P : Program} {g : FuncId} {q : ExtK} (hq : externK P g = some q) {C : Ctx} {args : List AVal} {rargs : Array Value} (hv : VRels C args rargs) {K : AVal → Prop} (hk : AExtern q args K) (w : World) :
    ∃ v rv, (callFunc g rargs).run P w = .ok (.value rv) w ∧ VRel C v rv ∧ K v := by
  obtain ⟨fn, hf, hb, ho, hn⟩ := externK_ok hq
  cases q with
  | indexByte =>
    simp only at hn
    have e1 : (fn.name == "runtime.NumGoroutine") = false := by rw [hn]; decide
    have e2 : Extern.findNext fn = none := by unfold Extern.findNext; rw [hn, ho]; rfl
    have e3 : Extern.find fn = some Extern.BytealgIndexByte.indexByte := by unfold Extern.find; rw [hn, ho]; rfl
    unfold AExtern at hk
    split at hk <;> first | exact hk.elim | skip
    · rename_i l c hq'
      obtain ⟨rargs⟩ := rargs
      obtain ⟨hl, hv⟩ := hv
      match rargs, hl, hv with
      | [r1, r2], hl, hv =>
        have h1 := hv 0 _ r1 rfl rfl
        have h2 := hv 1 _ r2 rfl rfl
        cases h2
        cases h1 with | str _ s hs =>
        refine ⟨_, .int .i64 (firstIdx s c.toNat.toUInt8), ?_, ?_, hk⟩
        · rw [run_callFunc_extern hf e1 hb e2 e3]
          rw [run_indexByte_string]; rfl
        · have : firstIdx s c.toNat.toUInt8 = idxByte l c := by
            unfold firstIdx idxByte
            subst hs
            have hsz : s.size = s.data.toList.length := by rw [Array.length_toList]; rfl
            rw [← find_range, hsz]
            have : ∀ i : Nat, s[i]! = s.data.toList[i]! := fun i => by
              by_cases h : i < s.size
              · rw [getElem!_pos s i h, getElem!_pos s.data.toList i (by rw [← hsz]; exact h)]; rfl
              · rw [getElem!_neg s i h, getElem!_neg s.data.toList i (by rw [← hsz]; exact h)]
            simp only [this]
            generalize List.find? _ _ = o
            cases o <;> rfl
          rw [this]; exact .lit _
    · rename_i x hq'; cases hq'
  | same =>
    simp only at hn
    have e1 : (fn.name == "runtime.NumGoroutine") = false := by rw [hn]; decide
    have e2 : Extern.findNext fn = none := by unfold Extern.findNext; rw [hn, ho]; rfl
    have e3 : Extern.find fn = some Extern.AbiNoEscape.same := by unfold Extern.find; rw [hn, ho]; rfl
    unfold AExtern at hk
    split at hk <;> first | exact hk.elim | skip
    · rename_i l c hq'; cases hq'
    · rename_i x hq'
      obtain ⟨rargs⟩ := rargs
      obtain ⟨hl, hv⟩ := hv
      match rargs, hl, hv with
      | [r1], hl, hv =>
        refine ⟨_, r1, ?_, hv 0 _ r1 rfl rfl, hk⟩
        rw [run_callFunc_extern hf e1 hb e2 e3]
        rfl
theorem op_ok {P : Program} {C : Ctx} {n : Nat} {t : ATab} {h : AHeap} {a : Act} {w : World} {ro : Option Nat} (ht : TRel C n t a.tmps) (hr : HRel C h w) (o : Oper) {K : AVal → AHeap → Prop} (hk : AOp1 P o t h K)
    {next : Act → World → Prop} {Q : Exit → Act → World → Prop} (hn : Goes C h K o a next) : o.wpIn (AFence ro) 0 P a w next Q := by
  refine ⟨fun _ _ => trivial, ?_⟩
  have nodefer : (∀ c, o.op ≠ .defer c) → (o.semAt (AFence ro).round a.eval) = execOp a.eval o := fun hnd => Oper.semAt_eq _ _ _ hnd
  have plain : AStep P o.op t h K → (∀ op ty x y yt, o.op = .binOp op ty x y yt → eqSafe x y (aev t x) (aev t y) = true) → (∀ c, o.op ≠ .defer c) → o.uponIn (AFence ro) 0 P a next Q ((o.semAt (AFence ro).round a.eval).run P w) := by
    intro hs heq hnd
    rw [nodefer hnd]
    obtain ⟨v, rv, D, h', w', r, h1, h2, h3, h4, h5, h6⟩ := step_ok ht hr o hs heq
    rw [h1]
    rcases h2 with rfl | ⟨rfl, rfl⟩
    · exact hn D h' w' v rv h3 h4 h5 h6
    · exact hn D h' w' v undef h3 h4 h5 h6
  unfold AOp1 at hk
  split at hk
  · rename_i f args _ hop
    have hnd : ∀ c, o.op ≠ .defer c := by intro c e; rw [hop] at e; cases e
    rw [nodefer hnd]
    have hf := aev_rel ht f
    have hargs := mapRel ht args
    have hexec : execOp a.eval o = (do let d ← Deferred.ofValue (a.eval f) (args.map a.eval); invoke d.target d.args) := by
      unfold execOp; rw [hop]; rfl
    rw [hexec]
    unfold ACallV at hk
    split at hk
    · rename_i g first cap hq
      rw [hq] at hf
      generalize a.eval f = rf at hf
      cases hf with
      | func _ _ _ r1 r2 n1 n2 v1 v2 =>
        have hv : VRels C (first ++ (args.toList.map (aev t) ++ cap)) (r1 ++ args.map a.eval ++ r2) := by
          rw [← List.append_assoc]
          exact vrels_append (vrels_append ⟨n1, v1⟩ hargs) ⟨n2, v2⟩
        rcases hk with hk | ⟨q, hq1, hk⟩
        rotate_left
        · obtain ⟨v, rv, x1, x2, x3⟩ := extern_run (P := P) hq1 hv hk w
          have hrun : (do let d ← Deferred.ofValue (.func (.func g) r1 r2) (args.map a.eval); invoke d.target d.args : Sem Next).run P w = .ok (.value rv) w := by
            simp only [Deferred.ofValue, Sem.run_bind, Sem.run_pure, Result.andThen_ok, invoke, x1]
          rw [hrun]
          exact hn C h w v rv (.refl _ _) hr x2 x3
        have hrun : (do let d ← Deferred.ofValue (.func (.func g) r1 r2) (args.map a.eval); invoke d.target d.args : Sem Next).run P w = .ok (.enter g (r1 ++ args.map a.eval ++ r2)) w := by
          simp only [Deferred.ofValue, Sem.run_bind, Sem.run_pure, Result.andThen_ok, invoke, callFunc_run hk.1]
        rw [hrun]
        have hcall := hk.2 C w _ hr hv
        refine ⟨fun h => by simp [AFence, Fence.wide] at h, ?_⟩
        have hin : CallsIn (AFence ro) (0 - 1) P g (r1 ++ args.map a.eval ++ r2) w _ := (callsIn_wide (n := 0)).2 hcall
        refine hin.mono ?_
        rintro e w' ⟨v, rv, D, h', rfl, d1, d2, d3, d4⟩
        exact hn D h' w' v rv d1 d2 d3 d4
    · rename_i la hq
      rw [hq] at hf
      generalize a.eval f = rf at hf
      cases hf with
      | yieldf _ L ha =>
        obtain ⟨l, g1, g2, g3⟩ := hk C w _ L hr hargs ha
        have hrun : (do let d ← Deferred.ofValue (.func (.yield L.b) #[] #[]) (args.map a.eval); invoke d.target d.args : Sem Next).run P w =
            .ok (.round L.b l.fn ((l.params.zip (args.map a.eval)).foldl (fun tmps (t, a) => tmps.setIfInBounds t a) l.tmps) l.assign l.body) w := by
          have hgl : (Instr.getLoop L.b).run P w = .ok l w := by
            simp [Instr.getLoop, getObj, Sem.run, Bind.bind, Sem.bind, g1]
          simp only [Deferred.ofValue, Sem.run_bind, Sem.run_pure, Result.andThen_ok, invoke, Instr.yield, hgl, Array.empty_append]
          rw [if_neg (by rw [g2]; simp)]
          rfl
        rw [hrun]
        refine ⟨fun h => by simp [AFence, Fence.wide] at h, ?_⟩
        have hin : RoundIn (AFence ro) (0 - 1) P L.b l.fn ((l.params.zip (args.map a.eval)).foldl (fun tmps (t, a) => tmps.setIfInBounds t a) l.tmps) l.assign l.body w _ := g3
        refine hin.mono ?_
        rintro e w' ⟨v, rv, D, h', rfl, d1, d2, d3, d4⟩
        exact hn D h' w' v rv d1 d2 d3 d4
    · exact hk.elim
  · rename_i op ty x y yt hop
    refine plain (by rw [hop]; exact hk.2) ?_ (by intro c e; rw [hop] at e; cases e)
    intro op' ty' x' y' yt' e
    rw [hop] at e; cases e
    exact hk.1
  · rename_i n1 n2
    refine plain hk (fun op ty x y yt e => absurd e (n2 op ty x y yt)) ?_
    intro c e
    rw [e] at hk
    exact hk.elim
def gdst (ops : List Oper) (j : Nat) : Option Tmp := (ops[j]?).bind (·.dst)
abbrev skip : AVal := .lit undef
def AGuard (x : AVal) (want : Bool) (A B : Prop) : Prop :=
  match x with
  | .lit (.bool b) => (b = want → A) ∧ (b = (!want) → B)
  | .lit (.tuple _) => B
  | _ => False
noncomputable def gval (ops : List Oper) (t : ATab) (j : Nat) : AVal := match gdst ops j with | some d => t.get d | none => .junk
def AOps (P : Program) (ops : List Oper) : List Oper → ATab → AHeap → (ATab → AHeap → Prop) → Prop
  | [], t, h, K => K t h
  | o :: rest, t, h, K =>
    match o.guard with
    | none => AOp1 P o t h fun v h' => h.length ≤ h'.length ∧ AOps P ops rest (t.put o.dst v) h' K
    | some (j, want) => AGuard (gval ops t j) want
        (AOp1 P o t h fun v h' => h.length ≤ h'.length ∧ AOps P ops rest (t.put o.dst v) h' K)
        (AOps P ops rest (t.put o.dst skip) h K)
def dstOk (n : Nat) (ops : List Oper) : Bool := ops.all fun o => match o.dst with | some d => decide (d < n) | none => true
theorem wanted_of {C : Ctx} {n : Nat} {t : ATab} {a : Act} (ht : TRel C n t a.tmps) (ops : Array Oper) (hd : dstOk n ops.toList = true) {j : Nat} {b : Bool} (hb : gval ops.toList t j = .lit (.bool b)) : yielded ops a.tmps j = some b := by
  unfold gval gdst at hb
  unfold yielded
  rw [Array.getElem?_toList] at hb
  cases ho : ops[j]? with
  | none => rw [ho] at hb; simp at hb
  | some o =>
    rw [ho] at hb
    simp only [Option.bind_some] at hb ⊢
    cases hdd : o.dst with
    | none => rw [hdd] at hb; simp at hb
    | some d =>
      rw [hdd] at hb
      simp only [Option.bind_some] at hb ⊢
      have hlt : d < a.tmps.size := by
        have hm : o ∈ ops.toList := by rw [Array.mem_toList_iff]; exact Array.mem_of_getElem? ho
        have := List.all_eq_true.1 hd o hm
        rw [hdd] at this
        rw [ht.size]; simpa using this
      have hv := ht.val d
      rw [hb] at hv
      simp only [Array.getD_eq_getD_getElem?, Array.getElem?_eq_getElem hlt, Option.getD_some] at hv
      rw [Array.getElem?_eq_getElem hlt]
      generalize a.tmps[d] = x at hv
      cases hv
      rfl
theorem unwanted_of {C : Ctx} {n : Nat} {t : ATab} {a : Act} (ht : TRel C n t a.tmps) (ops : Array Oper) (hd : dstOk n ops.toList = true) {j : Nat} {b : Array Value} (hb : gval ops.toList t j = .lit (.tuple b)) : yielded ops a.tmps j = none := by
  unfold gval gdst at hb
  unfold yielded
  rw [Array.getElem?_toList] at hb
  cases ho : ops[j]? with
  | none => rw [ho] at hb; simp at hb
  | some o =>
    rw [ho] at hb
    simp only [Option.bind_some] at hb ⊢
    cases hdd : o.dst with
    | none => rw [hdd] at hb; simp at hb
    | some d =>
      rw [hdd] at hb
      simp only [Option.bind_some] at hb ⊢
      have hlt : d < a.tmps.size := by
        have hm : o ∈ ops.toList := by rw [Array.mem_toList_iff]; exact Array.mem_of_getElem? ho
        have := List.all_eq_true.1 hd o hm
        rw [hdd] at this
        rw [ht.size]; simpa using this
      have hv := ht.val d
      rw [hb] at hv
      simp only [Array.getD_eq_getD_getElem?, Array.getElem?_eq_getElem hlt, Option.getD_some] at hv
      rw [Array.getElem?_eq_getElem hlt]
      generalize a.tmps[d] = x at hv
      cases hv
      rfl
theorem aops_ok {P : Program} {n0 n : Nat} {ro : Option Nat} {ops : Array Oper} (hd : dstOk n ops.toList = true) {Q : Exit → Act → World → Prop} {defs : List Deferred} : ∀ (l : List Nat) (os : List Oper), l.map (ops[·]?) = os.map some →
    ∀ {C : Ctx} {t : ATab} {h : AHeap} {a : Act} {w : World} {K : ATab → AHeap → Prop}, TRel C n t a.tmps → HRel C h w → a.defers = defs → n0 ≤ h.length → AOps P ops.toList os t h K →
    (∀ D t' h' a' w', C.le n0 D → TRel D n t' a'.tmps → HRel D h' w' → a'.defers = defs → n0 ≤ h'.length → C.sub D → K t' h' → Q .normal a' w') → wpOpsIn (AFence ro) 0 P ops Q l a w := by
  intro l
  induction l with
  | nil =>
    intro os hos C t h a w K ht hr hdf hn hk hq
    cases os with
    | nil => exact hq C t h a w (.refl _ _) ht hr hdf hn (.refl _) hk
    | cons o os => simp at hos
  | cons i l ih =>
    intro os hos C t h a w K ht hr hdf hn hk hq
    cases os with
    | nil => simp at hos
    | cons o os =>
      simp only [List.map_cons, List.cons.injEq] at hos
      obtain ⟨ho, hos⟩ := hos
      have hm : o ∈ ops.toList := by rw [Array.mem_toList_iff]; exact Array.mem_of_getElem? ho
      have hdst : ∀ x, o.dst = some x → x < n := fun x hx => by
        have := List.all_eq_true.1 hd o hm
        rw [hx] at this; simpa using this
      have putd : ∀ v, (a.put o.dst v).defers = defs := by
        intro v; rw [← hdf]; cases o.dst <;> rfl
      have run : AOp1 P o t h (fun v h' => h.length ≤ h'.length ∧ AOps P ops.toList os (t.put o.dst v) h' K) → o.wpIn (AFence ro) 0 P a w (wpOpsIn (AFence ro) 0 P ops Q l) Q := by
        intro hk
        refine op_ok ht hr o hk ?_
        intro D h' w' v rv hle hr' hv hk'
        have hsub := hle.sub hr.fresh
        exact ih os hos ((ht.mono hsub).put hdst hv) hr' (putd _) (by omega) hk'.2 fun E t' h'' a' w'' e1 e2 e3 e4 e5 e6 e7 => hq E t' h'' a' w'' ((hle.mono hn).trans e1) e2 e3 e4 e5 (hsub.trans e6) e7
      simp only [wpOpsIn, ho]
      unfold AOps at hk
      cases hg : o.guard with
      | none =>
        simp only [hg] at hk
        have hw : Region.wanted o (yielded ops a.tmps) = true := by simp [Region.wanted, hg]
        rw [if_pos hw]
        exact run hk
      | some g =>
        obtain ⟨j, want⟩ := g
        simp only [hg] at hk
        unfold AGuard at hk
        split at hk
        · rename_i b hb
          have hy := wanted_of ht ops hd hb
          by_cases hbw : b = want
          · have hw : Region.wanted o (yielded ops a.tmps) = true := by simp [Region.wanted, hg, hy, hbw]
            rw [if_pos hw]
            exact run (hk.1 hbw)
          · have hw : ¬ Region.wanted o (yielded ops a.tmps) = true := by simp [Region.wanted, hg, hy, hbw]
            rw [if_neg hw]
            refine ⟨fun _ _ => trivial, ?_⟩
            exact ih os hos (ht.put hdst (.lit _)) hr (putd _) hn (hk.2 (by cases b <;> cases want <;> simp_all)) hq
        · rename_i b hb
          have hy := unwanted_of ht ops hd hb
          have hw : ¬ Region.wanted o (yielded ops a.tmps) = true := by simp [Region.wanted, hg, hy]
          rw [if_neg hw]
          refine ⟨fun _ _ => trivial, ?_⟩
          exact ih os hos (ht.put hdst (.lit _)) hr (putd _) hn hk hq
        · exact hk.elim
theorem range_map (ops : Array Oper) : (List.range ops.size).map (ops[·]?) = ops.toList.map some := by
  apply List.ext_getElem?
  intro i
  simp only [List.getElem?_map]
  by_cases h : i < ops.size
  · rw [List.getElem?_range h]
    simp [h]
  · rw [List.getElem?_eq_none (by simp; omega), List.getElem?_eq_none (by simp; omega)]
    rfl
theorem awp_region {P : Program} {n0 : Nat} {md : Option Nat} {Q : Exit → ASt → Prop} {n : Nat} {t : ATab} {d : List ADef} {h : AHeap} {id : Nat} {ops : Array Oper} (hd : dstOk n ops.toList = true)
    (hk : AOps P ops.toList ops.toList t h fun t' h' => Q .normal ⟨n, t', d, h'⟩) : AWp P n0 md (.region id ops false) Q ⟨n, t, d, h⟩ := by
  intro C a w ro hs hm hn
  refine wpIn_region (aops_ok (defs := a.defers) hd _ _ (range_map ops) hs.t hs.h rfl hn hk ?_)
  intro D t' h' a' w' e1 e2 e3 e4 e5 e6 e7
  exact ⟨D, _, e1, ⟨e2, by rw [e4]; exact hs.d.mono e6, e3⟩, e5, e7⟩
end Go.AL
