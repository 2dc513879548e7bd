/- Operations whose types are looked up ahead of the walk: their form, what they ask, and that it is what the machine's operations ask. -/
import Derived.Test.YtjiccnebfbpcgaaGreatDoorQAl28
set_option linter.unusedSimpArgs false
set_option linter.unusedVariables false
set_option linter.unusedSectionVars false
namespace Go.AL
inductive XOp where
  | move (x : AOpd)
  | pick (c a b : AOpd)
  | load (x : AOpd) (n : Nat) (agg : Bool)
  | store (x v : AOpd) (n : Nat)
  | nilCheck (x : AOpd)
  | bin (safe : Bool) (q : EqK) (op : BinOp) (x y : AOpd)
  | un (op : UnOp) (x : AOpd)
  | conv (q : ConvK) (x : AOpd)
  | fieldAddr (x : AOpd) (off : Nat)
  | field (x : AOpd) (off n : Nat) (agg : Bool)
  | indexAddr (x i : AOpd) (esz : Nat)
  | index (x i : AOpd)
  | alloc (z : List AVal)
  | box (x : AOpd)
  | build (z : List AVal) (ps : List (Nat × Nat)) (parts : List (Nat × AOpd))
  | buildSlice (z : List AVal) (n : Nat) (parts : List (Nat × AOpd))
  | makeSlice (z : List AVal) (len cap : AOpd)
  | iface (t : TypeId) (x : AOpd)
  | func (fn : Fn) (first cap : List AOpd)
  | extract (x : AOpd) (i : Nat)
  | slice (s : Bool) (x : AOpd) (lo hi : Option AOpd) (esz : Nat)
  | len (q : EqK) (x : AOpd)
  | append (esz : Nat) (s x : AOpd)
  | idxA (x i : AOpd) (len esz : Nat)
  | makeMap
  | mapPut (q : Bool) (m k v : AOpd)
  | mapGet (q : Bool) (z : AVal) (x k : AOpd) (ok : Bool)
  | minMax (mx : Bool) (args : List AOpd)
  | copy (esz : Nat) (d s : AOpd)
  | call (f : AOpd) (args : List AOpd)
  | bad
def cop (P : Program) : Op → Option XOp
  | .move x | .assign x => some (.move (opdOf x))
  | .pick c a b => some (.pick (opdOf c) (opdOf a) (opdOf b))
  | .load ty x => (varT P ty).map fun p => .load (opdOf x) p.1 p.2
  | .store ty x v => (varT P ty).map fun p => .store (opdOf x) (opdOf v) p.1
  | .nilCheck x => some (.nilCheck (opdOf x))
  | .binOp op ty x y _ => some (.bin (Region.isConst x || Region.isConst y) (eqK P ty) op (opdOf x) (opdOf y))
  | .unOp op _ x => some (.un op (opdOf x))
  | .convert s d x => (convT P s d).map fun q => .conv q (opdOf x)
  | .fieldAddr ty x f => (fieldT P ty f).map fun off => .fieldAddr (opdOf x) off
  | .field ty x f => (fieldVT P ty f).map fun p => .field (opdOf x) p.1 p.2.1 p.2.2
  | .indexAddr ty x i => match arrT P ty with
    | some q => some (.idxA (opdOf x) (opdOf i) q.1 q.2)
    | none => (elemT P ty).map fun p => .indexAddr (opdOf x) (opdOf i) p.2
  | .makeMap _ none => some .makeMap
  | .mapUpdate ty m k v | .insert ty m k v => (mapT P ty).map fun q => .mapPut q (opdOf m) (opdOf k) (opdOf v)
  | .lookup ty x k ok => (mapTZ P ty).map fun p => .mapGet p.1 p.2 (opdOf x) (opdOf k) ok
  | .call { callee := .builtin .min, args, .. } => some (.minMax false (args.toList.map opdOf))
  | .call { callee := .builtin .max, args, .. } => some (.minMax true (args.toList.map opdOf))
  | .call { callee := .builtin .copy, args, argTypes } => match args.toList with
    | [d, s] => (copyT P argTypes).map fun e => .copy e (opdOf d) (opdOf s)
    | _ => none
  | .index ty x i => match P.underlying ty with | some .string => some (.index (opdOf x) (opdOf i)) | _ => none
  | .alloc e => (zeroT P e).map .alloc
  | .box _ x => some (.box (opdOf x))
  | .build ty parts => (buildT P ty).map fun p => .build p.1 p.2 (parts.toList.map fun q => (q.1, opdOf q.2))
  | .buildSlice ty len parts => (rowT P ty).map fun p => .buildSlice p.2 len (parts.toList.map fun q => (q.1, opdOf q.2))
  | .makeSlice ty len cap => (rowT P ty).map fun p => .makeSlice p.2 (opdOf len) (opdOf cap)
  | .makeInterface ty x => match P.underlying ty with | some (.interface _) | none => none | _ => some (.iface ty (opdOf x))
  | .makeFunc fn first cap => some (.func fn (first.toList.map opdOf) (cap.toList.map opdOf))
  | .extract x i => some (.extract (opdOf x) i)
  | .slice ty x lo hi none => (sliceT P ty).map fun esz => .slice (match P.underlying ty with | some .string => true | _ => false) (opdOf x) (lo.map opdOf) (hi.map opdOf) esz
  | .call { callee := .builtin .len, args, argTypes } => match args.toList with
    | [x] => (lenT P argTypes).map fun q => .len q (opdOf x)
    | _ => none
  | .call { callee := .builtin .append, args, argTypes } => match args.toList with
    | [s, x] => (appT P argTypes).map fun p => .append p.2 (opdOf s) (opdOf x)
    | _ => none
  | .call { callee := .value f, args, .. } => some (.call (opdOf f) (args.toList.map opdOf))
  | _ => none
def XOp1 (P : Program) (o : XOp) (t : ATab) (h : AHeap) (K : AVal → AHeap → Prop) : Prop :=
  match o with
  | .move x => K (t.ev x) h
  | .pick c a b => (match t.ev c with
    | .lit (.bool q) => (q = true → K (t.ev a) h) ∧ (q = false → K (t.ev b) h)
    | _ => False)
  | .load x n agg => ALoad h (t.ev x) n agg fun v => K v h
  | .store x v n => AStore h (t.ev x) (t.ev v) n fun h' => K .junk h'
  | .nilCheck x => ANilc (t.ev x) (K (t.ev x) h)
  | .bin safe q op x y => (safe || (t.ev x).notNilI || (t.ev y).notNilI) = true ∧ ABin q op (t.ev x) (t.ev y) fun v => K v h
  | .un op x => AUn op (t.ev x) fun v => K v h
  | .conv q x => AConv q (t.ev x) fun v => K v h
  | .fieldAddr x off => AField (t.ev x) off fun v => K v h
  | .field x off n agg => AFieldV (t.ev x) off n agg fun v => K v h
  | .indexAddr x i esz => AIdx (t.ev x) (t.ev i) esz fun v => K v h
  | .index x i => AIndexS (t.ev x) (t.ev i) fun v => K v h
  | .alloc z => K (.ptr h.length 0 0) (h ++ [some (.rows [z])])
  | .box x => optK (acells (t.ev x)) fun cs => K (.ptr h.length 0 0) (h ++ [some (.rows [cs])])
  | .build z ps parts => AFill ps z (parts.map fun q => (q.1, t.ev q.2)) fun cs => K (.agg cs) h
  | .buildSlice z n parts => ABuildS h z n (parts.map fun q => (q.1, t.ev q.2)) K
  | .makeSlice z len cap => AMakeS h z (t.ev len) (t.ev cap) K
  | .iface ty x => K (.iface ty (t.ev x)) h
  | .func fn first cap => K (.func fn (first.map t.ev) (cap.map t.ev)) h
  | .extract x i => (match t.ev x with
    | .tuple vs => optK vs[i]? fun v => K v h
    | _ => False)
  | .slice s x lo hi esz => (t.ev x).isStr = s ∧ ASlice (t.ev x) (lo.map t.ev) (hi.map t.ev) esz fun v => K v h
  | .len q x => (t.ev x).lenForm = some q ∧ ALen (t.ev x) h fun v => K v h
  | .append esz s x => AApp h (t.ev s) (t.ev x) esz K
  | .idxA x i len esz => AIdxA (t.ev x) (t.ev i) len esz fun v => K v h
  | .makeMap => K (.map h.length) (h ++ [some (.map [])])
  | .mapPut q m k v => AMapPut h q (t.ev m) (t.ev k) (t.ev v) fun h' => K .junk h'
  | .mapGet q z x k ok => AMapGet h q z (t.ev x) (t.ev k) ok fun v => K v h
  | .minMax mx args => AMinMax mx (args.map t.ev) fun v => K v h
  | .copy e d s => ACopy h (t.ev d) (t.ev s) e K
  | .bad => False
  | .call f args => ACallV P (t.ev f) (args.map t.ev) h fun v h' => h.length ≤ h'.length ∧ K v h'
theorem isStr_iff {b s : Bool} {d : Option TypeDesc} (hs : s = (match d with | some .string => true | _ => false)) (hb : b = s) : b = true ↔ d = some .string := by
  subst hb; subst hs
  split <;> simp_all
def XOp.isCall : XOp → Bool
  | .call .. => true
  | _ => false
theorem xop1' {P : Program} {o : Oper} {x : XOp} (hc : cop P o.op = some x) (hnc : x.isCall = false) {t : ATab} {h : AHeap} {K : AVal → AHeap → Prop} (hk : XOp1 P x t h K) : AOp1 P o t h K := by
  obtain ⟨d, op, ty, pos, af, g⟩ := o
  have om : ∀ {α β : Type} {a : Option α} {f : α → β} {b : β}, a.map f = some b → ∃ c, a = some c ∧ f c = b := by
    intro α β a f b h; cases a with
    | none => cases h
    | some c => exact ⟨c, rfl, by simpa using h⟩
  cases op <;> simp only [cop, Option.some.injEq, reduceCtorEq] at hc
  case move a => subst hc; exact hk
  case assign a => subst hc; exact hk
  case pick c a b => subst hc; exact hk
  case load vt a => obtain ⟨p, hp, rfl⟩ := om hc; show optK (varT P vt) _; rw [hp]; exact hk
  case store vt a v => obtain ⟨p, hp, rfl⟩ := om hc; show optK (varT P vt) _; rw [hp]; exact hk
  case nilCheck a => subst hc; exact hk
  case binOp op xt a b yt =>
    subst hc
    refine ⟨?_, hk.2⟩
    unfold eqSafe
    exact hk.1
  case unOp op xt a => subst hc; exact hk
  case convert s e a => obtain ⟨p, hp, rfl⟩ := om hc; show optK (convT P s e) _; rw [hp]; exact hk
  case fieldAddr xt a f => obtain ⟨p, hp, rfl⟩ := om hc; show optK (fieldT P xt f) _; rw [hp]; exact hk
  case field xt a f => obtain ⟨p, hp, rfl⟩ := om hc; show optK (fieldVT P xt f) _; rw [hp]; exact hk
  case indexAddr xt a i =>
    show AIdxT P xt _ _ _
    unfold AIdxT
    split at hc
    · rename_i q hq; cases hc; rw [hq]; exact hk
    · rename_i hq; obtain ⟨p, hp, rfl⟩ := om hc; rw [hq, hp]; exact hk
  case makeMap mt r =>
    cases r with
    | some r => simp at hc
    | none => cases hc; exact hk
  case mapUpdate mt m k v => obtain ⟨p, hp, rfl⟩ := om hc; show optK (mapT P mt) _; rw [hp]; exact hk
  case insert mt m k v => obtain ⟨p, hp, rfl⟩ := om hc; show optK (mapT P mt) _; rw [hp]; exact hk
  case lookup mt m k ok => obtain ⟨p, hp, rfl⟩ := om hc; show optK (mapTZ P mt) _; rw [hp]; exact hk
  case index xt a i =>
    split at hc
    · rename_i hu; cases hc; exact ⟨hu, hk⟩
    · cases hc
  case alloc e => obtain ⟨p, hp, rfl⟩ := om hc; show optK (zeroT P e) _; rw [hp]; exact hk
  case box e a => subst hc; exact hk
  case build e ps =>
    obtain ⟨p, hp, rfl⟩ := om hc; show optK (buildT P e) _; rw [hp]
    have : (ps.toList.map fun q => (q.1, aev t q.2)) = ((ps.toList.map fun q => (q.1, opdOf q.2)).map fun q => (q.1, t.ev q.2)) := by rw [List.map_map]; rfl
    simp only [optK]; rw [this]; exact hk
  case buildSlice e n ps =>
    obtain ⟨p, hp, rfl⟩ := om hc; show optK (rowT P e) _; rw [hp]
    have : (ps.toList.map fun q => (q.1, aev t q.2)) = ((ps.toList.map fun q => (q.1, opdOf q.2)).map fun q => (q.1, t.ev q.2)) := by rw [List.map_map]; rfl
    simp only [optK]; rw [this]; exact hk
  case makeSlice e a b => obtain ⟨p, hp, rfl⟩ := om hc; show optK (rowT P e) _; rw [hp]; exact hk
  case makeInterface xt a =>
    split at hc
    · cases hc
    · cases hc
    · rename_i h1 h2; cases hc
      refine ⟨?_, hk⟩
      show (match P.underlying xt with | some (.interface _) | none => False | _ => True)
      split
      · rename_i h3; exact h1 _ h3
      · rename_i h3; exact h2 h3
      · trivial
  case makeFunc fn f c =>
    subst hc
    have e1 : f.toList.map (aev t) = (f.toList.map opdOf).map t.ev := by rw [List.map_map]; rfl
    have e2 : c.toList.map (aev t) = (c.toList.map opdOf).map t.ev := by rw [List.map_map]; rfl
    show K (.func fn (f.toList.map (aev t)) (c.toList.map (aev t))) h
    rw [e1, e2]; exact hk
  case extract a i => subst hc; exact hk
  case slice xt a lo hi mx =>
    cases mx with
    | some m => simp at hc
    | none =>
      obtain ⟨p, hp, rfl⟩ := om hc
      show optK (sliceT P xt) _
      rw [hp]
      have e1 : ∀ l : Option Operand, l.map (aev t) = (l.map opdOf).map t.ev := fun l => by cases l <;> rfl
      refine ⟨isStr_iff rfl hk.1, ?_⟩
      rw [e1, e1]; exact hk.2
  case call c =>
    obtain ⟨callee, args, ats⟩ := c
    cases callee with
    | value f =>
      simp only [Option.some.injEq] at hc
      subst hc
      cases hnc
    | invoke r m => simp at hc
    | builtin b =>
      cases b <;> simp only [reduceCtorEq, Option.some.injEq] at hc
      case len =>
        split at hc
        · rename_i a ha
          obtain ⟨p, hp, rfl⟩ := om hc
          show AStep P (.call { callee := .builtin .len, args := args, argTypes := ats }) t h K
          simp only [AStep]
          rw [ha]; simp only []; rw [hp]; exact hk
        · cases hc
      case min =>
        cases hc
        have e1 : args.toList.map (aev t) = (args.toList.map opdOf).map t.ev := by rw [List.map_map]; rfl
        show AMinMax false (args.toList.map (aev t)) _
        rw [e1]; exact hk
      case max =>
        cases hc
        have e1 : args.toList.map (aev t) = (args.toList.map opdOf).map t.ev := by rw [List.map_map]; rfl
        show AMinMax true (args.toList.map (aev t)) _
        rw [e1]; exact hk
      case copy =>
        split at hc
        · rename_i a b ha
          obtain ⟨p, hp, rfl⟩ := om hc
          show AStep P (.call { callee := .builtin .copy, args := args, argTypes := ats }) t h K
          simp only [AStep]
          rw [ha]; simp only []; rw [hp]; exact hk
        · cases hc
      case append =>
        split at hc
        · rename_i a b ha
          obtain ⟨p, hp, rfl⟩ := om hc
          show AStep P (.call { callee := .builtin .append, args := args, argTypes := ats }) t h K
          simp only [AStep]
          rw [ha]; simp only []; rw [hp]; exact hk
        · cases hc
end Go.AL
