/- Maps, the least and the greatest of numbers, copies, arrays. -/
import Derived.Test.YtjiccnebfbpcgaaGreatDoorPa
import Derived.MapKept
set_option linter.unusedSimpArgs false
set_option linter.unusedVariables false
set_option linter.unusedSectionVars false
namespace Go.AL
open Go.MapKept (run_setObj_map run_findKey bytes_beq)
def keyEq : AVal → AVal → Option Bool
  | .lit (.int k a), .lit (.int k' b) => if k = k' then some (decide (a = b)) else none
  | .str a, .str b => some (decide (a = b))
  | _, _ => none
def mfind (k : AVal) : List (AVal × AVal) → Nat → Option (Option (Nat × AVal))
  | [], _ => some none
  | e :: es, i => match keyEq k e.1 with
    | some true => some (some (i, e.2))
    | some false => mfind k es (i + 1)
    | none => none
def keyT (P : Program) (t : TypeId) : Option Bool :=
  match P.underlying t with
  | some (.int _) => some true
  | some .string => some false
  | _ => none
def mapT (P : Program) (t : TypeId) : Option Bool :=
  match P.underlying t with
  | some (.map k _) => keyT P k
  | _ => none
def mapZ (P : Program) (t : TypeId) : Option AVal :=
  match P.underlying t with
  | some (.map _ e) => match P.info? e with
    | some i => match i.zero with
      | some (.int k n) => some (.lit (.int k n))
      | some (.bool b) => some (.lit (.bool b))
      | _ => none
    | none => none
  | _ => none
def keyOk (q : Bool) : AVal → Bool
  | .lit (.int _ _) => q
  | .str _ => !q
  | _ => false
theorem keyEq_now {C : Ctx} {P : Program} {t : TypeId} {q : Bool} {d : TypeDesc} (hq : keyT P t = some q) (hd : P.underlying t = some d) {x y : AVal} {rx ry : Value} (hx : VRel C x rx) (hy : VRel C y ry) (hk : keyOk q x = true) {b : Bool} (he : keyEq x y = some b) :
    Instr.sameNow d rx ry = some b := by
  unfold keyT at hq
  rw [hd] at hq
  unfold keyEq at he
  split at he
  · cases hx; cases hy
    split at he
    · rename_i e
      subst e
      cases he
      simp only [keyOk] at hk
      subst hk
      split at hq
      · rename_i j e; cases e
        simp only [Instr.sameNow, if_true, Option.some.injEq]
        rw [Bool.eq_iff_iff]; simp
      · cases hq
      · cases hq
    · cases he
  · cases hx with | str _ s hs => cases hy with | str _ s' hs' =>
    cases he
    simp only [keyOk, Bool.not_eq_true'] at hk
    subst hk
    split at hq
    · cases hq
    · rename_i e; cases e
      simp only [Instr.sameNow, Option.some.injEq]
      rw [Bool.eq_iff_iff]
      subst hs; subst hs'
      rw [decide_eq_true_iff, bytes_beq]
      exact ⟨fun h => by rw [h], fun h => bytes_ext h⟩
    · cases hq
  · cases he
def FRel (C : Ctx) (r : Option (Nat × AVal)) (r' : Option (Nat × Value)) : Prop :=
  match r, r' with
  | none, none => True
  | some (i, v), some (j, rv) => i = j ∧ VRel C v rv
  | _, _ => False
theorem mfind_now {C : Ctx} {P : Program} {t : TypeId} {q : Bool} {d : TypeDesc} (hq : keyT P t = some q) (hd : P.underlying t = some d) {k : AVal} {rk : Value} (hx : VRel C k rk) (hk : keyOk q k = true) : ∀ (es : List (AVal × AVal)) (ms : List MapEntry) (i : Nat) (r : Option (Nat × AVal)),
    es.length = ms.length → (∀ (i : Nat) e m, es[i]? = some e → ms[i]? = some m → VRel C e.1 m.key ∧ VRel C e.2 m.val) → mfind k es i = some r → ∃ r', Instr.findNow d rk ms i = some r' ∧ FRel C r r' := by
  intro es
  induction es with
  | nil =>
    intro ms i r hl hv hf
    cases ms with
    | nil => cases hf; exact ⟨none, rfl, trivial⟩
    | cons _ _ => simp at hl
  | cons e es ih =>
    intro ms i r hl hv hf
    cases ms with
    | nil => simp at hl
    | cons m ms =>
      obtain ⟨h1, h2⟩ := hv 0 e m rfl rfl
      simp only [mfind] at hf
      split at hf
      · rename_i he
        cases hf
        refine ⟨some (i, m.val), ?_, rfl, h2⟩
        simp only [Instr.findNow, keyEq_now hq hd hx h1 hk he]
      · rename_i he
        obtain ⟨r', g1, g2⟩ := ih ms (i + 1) r (by simpa using hl) (fun i e' m' a b => hv (i + 1) e' m' a b) hf
        refine ⟨r', ?_, g2⟩
        simp only [Instr.findNow, keyEq_now hq hd hx h1 hk he, g1]
      · cases hf
theorem key_is {C : Ctx} {P : Program} {t : TypeId} {q : Bool} {d : TypeDesc} (hq : keyT P t = some q) (hd : P.underlying t = some d) {x : AVal} {rx : Value} (hx : VRel C x rx) (hk : keyOk q x = true) (e : Bool) (n : Nat) (w : World) :
    (Instr.checkKey e (n + 1) t rx).run P w = .ok () w := by
  unfold keyT at hq
  rw [hd] at hq
  unfold Instr.checkKey
  simp only [Sem.run_bind, run_underlying hd, Result.andThen_ok]
  split at hq
  · rename_i j e'; cases e'; rfl
  · rename_i e'; cases e'; rfl
  · cases hq
def AMapGet (h : AHeap) (q : Bool) (z : AVal) (x k : AVal) (ok : Bool) (K : AVal → Prop) : Prop :=
  match x with
  | .map a => ∃ es r, hget h a = some (.map es) ∧ keyOk q k = true ∧ mfind k es 0 = some r ∧
      K (match r with
        | some (_, v) => if ok then .tuple [v, .lit (.bool true)] else v
        | none => if ok then .tuple [z, .lit (.bool false)] else z)
  | _ => False
theorem mapT_ok {P : Program} {t : TypeId} {q : Bool} (h : mapT P t = some q) : ∃ k e d, P.underlying t = some (.map k e) ∧ keyT P k = some q ∧ P.underlying k = some d := by
  unfold mapT at h
  split at h
  · rename_i k e hu
    have : ∃ d, P.underlying k = some d := by
      cases hd : P.underlying k with
      | none => unfold keyT at h; rw [hd] at h; cases h
      | some d => exact ⟨d, rfl⟩
    obtain ⟨d, hd⟩ := this
    exact ⟨k, e, d, hu, h, hd⟩
  · cases h
theorem sound_mapGet {P : Program} {C : Ctx} {h : AHeap} {w : World} (hr : HRel C h w) {t : TypeId} {q : Bool} {z : AVal} (ht : mapT P t = some q) (hz : mapZ P t = some z) {x k : AVal} {rx rk : Value} (hx : VRel C x rx) (hk : VRel C k rk) {ok : Bool} {K : AVal → Prop}
    (hl : AMapGet h q z x k ok K) : ∃ v rv, (Instr.lookup t rx rk ok).run P w = .ok rv w ∧ VRel C v rv ∧ K v := by
  obtain ⟨kt, et, d, h1, h2, h3⟩ := mapT_ok ht
  cases hx <;> try exact hl.elim
  rename_i a L ha
  obtain ⟨es, r, g1, g2, g3, g4⟩ := hl
  obtain ⟨_, _, o, hr1, ms, clock, rfl, hn, hrel⟩ := hr.live a _ L g1 ha
  obtain ⟨r', f1, f2⟩ := mfind_now h2 h3 hk g2 es ms.toList 0 r (by simpa using hn) (fun i e m a b => hrel i e m a (by simpa using b)) g3
  have hzero : ∃ zv, (zeroValue et).run P w = .ok zv w ∧ VRel C z zv := by
    unfold mapZ at hz
    rw [h1] at hz
    simp only at hz
    split at hz
    · rename_i i hi
      split at hz
      · rename_i k n hz0; cases hz; exact ⟨_, by simp [zeroValue, typeInfo, hi, hz0], .lit _⟩
      · rename_i b hz0; cases hz; exact ⟨_, by simp [zeroValue, typeInfo, hi, hz0], .lit _⟩
      · cases hz
    · cases hz
  obtain ⟨zv, hz1, hz2⟩ := hzero
  have tup : ∀ {v : AVal} {rv : Value} {b : Bool}, VRel C v rv → VRel C (.tuple [v, .lit (.bool b)]) (.tuple #[rv, .bool b]) := by
    intro v rv b hv
    refine .tuple _ _ rfl fun i v' rv' e1 e2 => ?_
    match i, e1, e2 with
    | 0, e1, e2 => cases e1; cases e2; exact hv
    | 1, e1, e2 => cases e1; cases e2; exact .lit _
    | i + 2, e1, e2 => cases e1
  have base : ∀ rv, ((match r' with | some (_, v) => pure (v, true) | none => do pure (← zeroValue et, false) : Sem (Value × Bool)) >>= fun p => pure (if ok then .tuple #[p.1, .bool p.2] else p.1)).run P w = .ok rv w →
      (Instr.lookup t (.map (some L.b)) rk ok).run P w = .ok rv w := by
    intro rv hh
    unfold Instr.lookup
    simp only [Sem.run_bind, run_underlying h1, Result.andThen_ok, MapKept.run_getObj_map hr1, Sem.run_pure, key_is h2 h3 hk g2, run_findKey h3 f1]
    cases r' with
    | none => simpa only [Sem.run_bind, hz1, Result.andThen_ok, Sem.run_pure] using hh
    | some p => obtain ⟨i, v⟩ := p; simpa only [Sem.run_bind, Sem.run_pure, Result.andThen_ok] using hh
  match r, r', f2, base, g4 with
  | none, none, _, base, g4 =>
    cases ok with
    | true => exact ⟨_, .tuple #[zv, .bool false], base _ (by simp only [Sem.run_bind, hz1, Result.andThen_ok, Sem.run_pure, if_true]), tup hz2, g4⟩
    | false => exact ⟨_, zv, base _ (by simp only [Sem.run_bind, hz1, Result.andThen_ok, Sem.run_pure]; rfl), hz2, g4⟩
  | some (i, v), some (j, rv), f2, base, g4 =>
    cases ok with
    | true => exact ⟨_, .tuple #[rv, .bool true], base _ (by simp only [Sem.run_bind, Result.andThen_ok, Sem.run_pure, if_true]), tup f2.2, g4⟩
    | false => exact ⟨_, rv, base _ (by simp only [Sem.run_bind, Result.andThen_ok, Sem.run_pure]; rfl), f2.2, g4⟩
  | none, some _, f2, _, _ => exact f2.elim
  | some _, none, f2, _, _ => exact f2.elim
def mput (k v : AVal) (r : Option (Nat × AVal)) (es : List (AVal × AVal)) : List (AVal × AVal) :=
  match r with
  | some (i, _) => es.set i (k, v)
  | none => es ++ [(k, v)]
def AMapPut (h : AHeap) (q : Bool) (x k v : AVal) (K : AHeap → Prop) : Prop :=
  match x with
  | .map a => ∃ es r, hget h a = some (.map es) ∧ keyOk q k = true ∧ mfind k es 0 = some r ∧ K (hset h a (.map (mput k v r es)))
  | _ => False
theorem mfind_at {k : AVal} : ∀ (es : List (AVal × AVal)) (i j : Nat) (v : AVal), mfind k es i = some (some (j, v)) → i ≤ j ∧ ∃ e, es[j - i]? = some e ∧ keyEq k e.1 = some true
  | [], i, j, v, h => by cases h
  | e :: es, i, j, v, h => by
    simp only [mfind] at h
    split at h
    · rename_i he; cases h; exact ⟨Nat.le_refl _, e, by simp, he⟩
    · obtain ⟨h1, e', h2, h3⟩ := mfind_at es (i + 1) j v h
      refine ⟨by omega, e', ?_, h3⟩
      rw [show j - i = (j - (i + 1)) + 1 by omega]; exact h2
    · cases h
theorem key_same {C : Ctx} {x y : AVal} {rx ry : Value} (hx : VRel C x rx) (hy : VRel C y ry) (he : keyEq x y = some true) : rx = ry := by
  unfold keyEq at he
  split at he
  · cases hx; cases hy
    split at he
    · rename_i e; subst e
      simp only [Option.some.injEq, decide_eq_true_eq] at he
      rw [he]
    · cases he
  · cases hx with | str _ s hs => cases hy with | str _ s' hs' =>
    simp only [Option.some.injEq, decide_eq_true_eq] at he
    rw [bytes_ext (hs.trans (he.trans hs'.symm))]
  · cases he
theorem stays_same (P : Program) (w : World) {C : Ctx} {x : AVal} {r : Value} (hx : VRel C x r) {y : AVal} (he : keyEq x y = some true) : (Instr.keyThatStays r r).run P w = .ok r w := by
  have : Instr.sameBits 10000 r r = true := by
    unfold keyEq at he
    split at he
    · cases hx; simp [Instr.sameBits]
    · cases hx; simp only [Instr.sameBits]; exact (bytes_beq _ _).2 rfl
    · cases he
  unfold Instr.keyThatStays
  rw [if_pos this]; rfl
theorem sound_mapPut {P : Program} {C : Ctx} {h : AHeap} {w : World} (hr : HRel C h w) {t : TypeId} {q : Bool} (ht : mapT P t = some q) {x k v : AVal} {rx rk rv : Value} (hx : VRel C x rx) (hk : VRel C k rk) (hv : VRel C v rv) {K : AHeap → Prop}
    (hl : AMapPut h q x k v K) : ∃ w' h', (Instr.mapUpdate t rx rk rv).run P w = .ok () w' ∧ HRel C h' w' ∧ K h' := by
  obtain ⟨kt, et, d, h1, h2, h3⟩ := mapT_ok ht
  cases hx <;> try exact hl.elim
  rename_i a L ha
  obtain ⟨es, r, g1, g2, g3, g4⟩ := hl
  obtain ⟨_, _, o, hr1, ms, clock, rfl, hn, hrel⟩ := hr.live a _ L g1 ha
  obtain ⟨r', f1, f2⟩ := mfind_now h2 h3 hk g2 es ms.toList 0 r (by simpa using hn) (fun i e m a b => hrel i e m a (by simpa using b)) g3
  have hlt := hr.there a L ha
  have fin : ∀ (o : Obj) (es' : List (AVal × AVal)), ORel C L (.map es') o → HRel C (hset h a (.map es')) { w with heap := w.heap.setIfInBounds L.b o } := by
    intro o es' ho
    refine hr.turn g1 (fun _ _ => by simp) ha o (by simp) (by simp [hlt]) (fun b hb => by simp only [Array.getElem?_setIfInBounds]; rw [if_neg (fun e => hb e.symm)]) _ fun x hx => ?_
    cases hx
    exact ⟨fun _ _ => by simp, ho⟩
  have base : ∀ s w', s = (match r' with
      | some (i, _) => do
        let key ← Instr.keyThatStays (((ms[i]?).map (·.key)).getD rk) rk
        setObj L.b (.map (ms.modify i fun e => { e with key, val := rv }) clock)
      | none => setObj L.b (.map (ms.push { key := rk, val := rv, born := clock }) (clock + 1)) : Sem Unit) → s.run P w = .ok () w' → (Instr.mapUpdate t (.map (some L.b)) rk rv).run P w = .ok () w' := by
    intro s w' hs hh
    unfold Instr.mapUpdate
    simp only [Sem.run_bind, run_underlying h1, Result.andThen_ok, MapKept.run_getObj_map hr1, key_is h2 h3 hk g2, run_findKey h3 f1]
    rw [hs] at hh
    exact hh
  match r, r', f2, base, g3, g4 with
  | none, none, _, base, _, g4 =>
    refine ⟨_, _, base _ _ rfl (run_setObj_map _ hr1), fin _ _ ?_, g4⟩
    refine ⟨_, _, rfl, by simp [mput, hn], fun i e m e1 e2 => ?_⟩
    simp only [mput] at e1
    rw [List.getElem?_append] at e1
    by_cases hi : i < es.length
    · rw [if_pos hi] at e1
      rw [Array.getElem?_push_lt (by omega)] at e2
      exact hrel i e m e1 (by rw [Array.getElem?_eq_getElem (by omega)]; exact e2)
    · rw [if_neg hi] at e1
      have hlt := (List.getElem?_eq_some_iff.1 e1).1
      have : i = es.length := by simp at hlt; omega
      subst this
      simp at e1
      subst e1
      rw [hn, Array.getElem?_push_size] at e2
      cases e2
      exact ⟨hk, hv⟩
  | some (i, v0), some (j, rv0), f2, base, g3, g4 =>
    obtain ⟨rfl, _⟩ := f2
    obtain ⟨_, e0, k1, k2⟩ := mfind_at es 0 i v0 g3
    rw [Nat.sub_zero] at k1
    have hi := (List.getElem?_eq_some_iff.1 k1).1
    have hm : ms[i]? = some (ms[i]'(by omega)) := Array.getElem?_eq_getElem (by omega)
    have hkey := key_same hk (hrel i e0 _ k1 hm).1 k2
    have hrun : (do
        let key ← Instr.keyThatStays (((ms[i]?).map (·.key)).getD rk) rk
        setObj L.b (.map (ms.modify i fun e => { e with key, val := rv }) clock) : Sem Unit).run P w = .ok () { w with heap := w.heap.setIfInBounds L.b (.map (ms.modify i fun e => { e with key := rk, val := rv }) clock) } := by
      rw [hm]
      simp only [Option.map_some, Option.getD_some]
      rw [← hkey]
      simp only [Sem.run_bind, stays_same P w hk k2, Result.andThen_ok]
      exact run_setObj_map _ hr1
    refine ⟨_, _, base _ _ rfl hrun, fin _ _ ?_, g4⟩
    refine ⟨_, _, rfl, by simp [mput, hn], fun i' e m e1 e2 => ?_⟩
    simp only [mput] at e1
    rw [Array.getElem?_modify] at e2
    by_cases hii : i = i'
    · subst hii
      rw [List.getElem?_set_self hi] at e1
      cases e1
      rw [if_pos rfl, hm] at e2
      cases e2
      exact ⟨hk, hv⟩
    · rw [List.getElem?_set_ne hii] at e1
      rw [if_neg hii] at e2
      exact hrel i' e m e1 e2
  | none, some _, f2, _, _, _ => exact f2.elim
  | some _, none, f2, _, _, _ => exact f2.elim
theorem sound_makeMap {P : Program} {C : Ctx} {h : AHeap} {w : World} (hr : HRel C h w) (t : TypeId) {K : AVal → AHeap → Prop} (hk : K (.map h.length) (h ++ [some (.map [])])) : Out P C h w (Instr.makeMap t none) K := by
  have hA := hr.alloc (.map #[] 0) (w' := { w with heap := w.heap.push (.map #[] 0) }) rfl (.map []) (fun _ _ => by simp) 0 0 0 0 ⟨#[], 0, rfl, rfl, fun i e m h1 => by simp at h1⟩
  refine ⟨_, .map (some w.heap.size), _, _, _, ?_, Ctx.with_le C _ _, hA, .map _ _ (Ctx.with_self _ _ _), hk⟩
  simp [Instr.makeMap, newObj, Sem.run, Bind.bind, Sem.bind]
/-! ### The least and the greatest -/
def AMm (mx : Bool) (k : IntKind) (x : Int) : List AVal → (AVal → Prop) → Prop
  | [], K => K (.lit (.int k x))
  | .lit (.int _ y) :: r, K => AMm mx k (if mx then (if x < y then y else x) else (if y < x then y else x)) r K
  | _, _ => False
def AMinMax (mx : Bool) (args : List AVal) (K : AVal → Prop) : Prop :=
  match args with
  | .lit (.int k x) :: r => AMm mx k x r K
  | _ => False
def mapTZ (P : Program) (t : TypeId) : Option (Bool × AVal) :=
  match mapT P t, mapZ P t with
  | some q, some z => some (q, z)
  | _, _ => none
theorem mapTZ_ok {P : Program} {t : TypeId} {p : Bool × AVal} (h : mapTZ P t = some p) : mapT P t = some p.1 ∧ mapZ P t = some p.2 := by
  unfold mapTZ at h
  split at h
  · rename_i q z h1 h2; cases h; exact ⟨h1, h2⟩
  · cases h
/-! ### Elements of arrays that lie in memory -/
def arrT (P : Program) (t : TypeId) : Option (Nat × Nat) :=
  match P.underlying t with
  | some (.array n e) => match P.info? e with
    | some i => some (n, i.size)
    | none => none
  | _ => none
def AIdxA (x i : AVal) (len esz : Nat) (K : AVal → Prop) : Prop :=
  match x, i with
  | .ptr a k off, .lit (.int _ n) => 0 ≤ n ∧ n < len ∧ K (.ptr a k (off + n.toNat * esz))
  | .fptr cs off, .lit (.int _ n) => 0 ≤ n ∧ n < len ∧ K (.fptr cs (off + n.toNat * esz))
  | _, _ => False
theorem sound_idxA {P : Program} {C : Ctx} {w : World} {t : TypeId} {len esz : Nat} (ht : arrT P t = some (len, esz)) {x i : AVal} {rx ri : Value} (hx : VRel C x rx) (hi : VRel C i ri) {K : AVal → Prop} (hk : AIdxA x i len esz K) :
    ∃ v rv, (Instr.indexAt t rx ri).run P w = .ok rv w ∧ VRel C v rv ∧ K v := by
  unfold arrT at ht
  split at ht
  · rename_i n e hu
    split at ht
    · rename_i ie hie
      cases ht
      have hs : (sizeOf e).run P w = .ok ie.size w := by simp [sizeOf, typeInfo, hie]
      have hsure : ∀ a : Addr, (Instr.sureAddr (.pointer (some a))).run P w = .ok a w := fun a => rfl
      cases hx <;> try exact hk.elim
      case ptr a k off L ha =>
        cases hi <;> try exact hk.elim
        cases ri <;> try exact hk.elim
        rename_i kd z
        obtain ⟨h1, h2, h3⟩ := hk
        refine ⟨_, _, ?_, .ptr a k (off + z.toNat * ie.size) L ha, h3⟩
        simp only [Instr.indexAt, asIntOf, Sem.run_bind, Sem.run_pure, Result.andThen_ok, run_underlying hu, hsure, h1, h2, and_self, if_true, hs, add_plain, Sem.run_ite]
        congr 4
        omega
      case fptr cs off b base rc hc hv =>
        cases hi <;> try exact hk.elim
        cases ri <;> try exact hk.elim
        rename_i kd z
        obtain ⟨h1, h2, h3⟩ := hk
        refine ⟨_, _, ?_, .fptr cs (off + z.toNat * ie.size) b base rc hc hv, h3⟩
        simp only [Instr.indexAt, asIntOf, Sem.run_bind, Sem.run_pure, Result.andThen_ok, run_underlying hu, hsure, h1, h2, and_self, if_true, hs, add_plain, Sem.run_ite]
        congr 4
        omega
    · cases ht
  · cases ht
def AIdxT (P : Program) (t : TypeId) (x i : AVal) (K : AVal → Prop) : Prop :=
  match arrT P t with
  | some q => AIdxA x i q.1 q.2 K
  | none => match elemT P t with
    | some p => AIdx x i p.2 K
    | none => False
theorem sound_idxT {P : Program} {C : Ctx} {w : World} {t : TypeId} {x i : AVal} {rx ri : Value} (hx : VRel C x rx) (hi : VRel C i ri) {K : AVal → Prop} (hk : AIdxT P t x i K) :
    ∃ v rv, (Instr.indexAt t rx ri).run P w = .ok rv w ∧ VRel C v rv ∧ K v := by
  unfold AIdxT at hk
  split at hk
  · rename_i q hq; exact sound_idxA hq hx hi hk
  · split at hk
    · rename_i p hp; exact sound_idx hp hx hi hk
    · exact hk.elim
theorem sound_mm {P : Program} {C : Ctx} {w : World} (mx : Bool) {k : IntKind} : ∀ (args : List AVal) (rs : List Value) (x : Int) {K : AVal → Prop}, args.length = rs.length → (∀ (i : Nat) v rv, args[i]? = some v → rs[i]? = some rv → VRel C v rv) → AMm mx k x args K →
    ∃ v rv, (rs.foldlM (if mx then Builtin.max2 else Builtin.min2) (.int k x)).run P w = .ok rv w ∧ VRel C v rv ∧ K v := by
  intro args
  induction args with
  | nil =>
    intro rs x K hl hv hk
    cases rs with
    | nil => exact ⟨_, _, rfl, .lit _, hk⟩
    | cons _ _ => simp at hl
  | cons a args ih =>
    intro rs x K hl hv hk
    cases rs with
    | nil => simp at hl
    | cons r rs =>
      have h0 := hv 0 a r rfl rfl
      unfold AMm at hk
      split at hk
      · rename_i e; cases e
      · rename_i k' y r' e
        cases e
        cases h0
        obtain ⟨v, rv, h1, h2, h3⟩ := ih rs _ (by simpa using hl) (fun i v rv a b => hv (i + 1) v rv a b) hk
        refine ⟨v, rv, ?_, h2, h3⟩
        rw [List.foldlM_cons]
        cases mx with
        | true => simpa only [Sem.run_bind, if_true, Builtin.max2, Sem.run_pure, Result.andThen_ok] using h1
        | false => simpa only [Sem.run_bind, Bool.false_eq_true, if_false, Builtin.min2, Sem.run_pure, Result.andThen_ok] using h1
      · exact hk.elim
theorem sound_minMax {P : Program} {C : Ctx} {w : World} (mx : Bool) {args : List AVal} {rs : List Value} {K : AVal → Prop} (hl : args.length = rs.length) (hv : ∀ (i : Nat) v rv, args[i]? = some v → rs[i]? = some rv → VRel C v rv) (hk : AMinMax mx args K) (ats : Array TypeId) (ty : TypeId) :
    ∃ v rv, ((if mx then Builtin.max_ else Builtin.min_) ats ty rs.toArray).run P w = .ok rv w ∧ VRel C v rv ∧ K v := by
  unfold AMinMax at hk
  split at hk
  · rename_i k x r
    cases rs with
    | nil => simp at hl
    | cons q rs =>
      have h0 := hv 0 _ q rfl rfl
      cases h0
      obtain ⟨v, rv, h1, h2, h3⟩ := sound_mm (P := P) (w := w) mx r rs x (by simpa using hl) (fun i v rv a b => hv (i + 1) v rv a b) hk
      refine ⟨v, rv, ?_, h2, h3⟩
      cases mx with
      | true => simpa [Builtin.max_] using h1
      | false => simpa [Builtin.min_] using h1
  · exact hk.elim
/-! ### Copies -/
def ashort (s : AVal) (n : Nat) : AVal :=
  match s with
  | .slice a e i m cap => .slice a e i (min m n) cap
  | .fslice es => .fslice (es.take n)
  | .gs _ _ es => .fslice (es.take n)
  | _ => .junk
def ACopy (h : AHeap) (d s : AVal) (esz : Nat) (K : AVal → AHeap → Prop) : Prop :=
  match d with
  | .slice a e i n _ => ∃ es, hget h a = some (.rows es) ∧ e = esz ∧ i + n ≤ es.length ∧
      AElems h (ashort s n) esz fun new => K (.lit (.int .i64 new.length)) (hset h a (.rows (es.take i ++ (new ++ es.drop (i + new.length)))))
  | _ => False
theorem ashort_ok {P : Program} {C : Ctx} {s : AVal} {rs : Value} (hs : VRel C s rs) (n : Nat) (hj : ashort s n ≠ .junk) : ∃ rs' m, VRel C (ashort s n) rs' ∧ (∀ w, (Builtin.lenOf rs).run P w = .ok m w ∧ (Builtin.lenOf rs').run P w = .ok (min m n) w) ∧
    ∀ esz k w, (Builtin.firstCells esz k rs').run P w = (Builtin.firstCells esz k rs).run P w := by
  cases hs with
  | slice a e i m cap rcap L ha hesz hcap hlen hroom =>
    exact ⟨.slice (some ⟨L.b, L.base + i * L.esz, none⟩) (min m n) rcap, m, .slice a e i _ cap rcap L ha hesz hcap (by omega) hroom, fun w => ⟨by simp [Builtin.lenOf], by simp [Builtin.lenOf]⟩, fun esz k w => rfl⟩
  | fslice es b base esz rcap rc hlen hsz hc hv =>
    refine ⟨.slice (some ⟨b, base, none⟩) (es.take n).length rcap, es.length, .fslice (es.take n) b base esz rcap rc (by rw [List.length_take]; omega) (fun i e hi => ?_) (fun i j e v hi hj => ?_) (fun i j e v hi hj => ?_), fun w => ⟨by simp [Builtin.lenOf], ?_⟩, fun esz k w => rfl⟩
    · rw [List.getElem?_take] at hi; split at hi
      · exact hsz i e hi
      · cases hi
    · rw [List.getElem?_take] at hi; split at hi
      · exact hc i j e v hi hj
      · cases hi
    · rw [List.getElem?_take] at hi; split at hi
      · exact hv i j e v hi hj
      · cases hi
    · simp [Builtin.lenOf, Nat.min_comm]
  | fnil p => exact ⟨.slice p 0 0, 0, by simp only [ashort, List.take_nil]; exact .fnil p, fun w => ⟨by simp [Builtin.lenOf], by simp [Builtin.lenOf]⟩, fun esz k w => rfl⟩
  | gs tok esz' es L rcap rc hne ht hesz hlen hroom hsz hc hv =>
    refine ⟨.slice (some ⟨L.b, L.base, none⟩) (es.take n).length rcap, es.length, .fslice (es.take n) L.b L.base L.esz rcap rc (by rw [List.length_take]; omega) (fun i e hi => ?_) (fun i j e v hi hj => ?_) (fun i j e v hi hj => ?_), fun w => ⟨by simp [Builtin.lenOf], ?_⟩, fun esz k w => rfl⟩
    · rw [List.getElem?_take] at hi; split at hi
      · exact hsz i e hi
      · cases hi
    · rw [List.getElem?_take] at hi; split at hi
      · exact hc i j e v hi hj
      · cases hi
    · rw [List.getElem?_take] at hi; split at hi
      · exact hv i j e v hi hj
      · cases hi
    · simp [Builtin.lenOf, Nat.min_comm]
  | gnil => exact ⟨.slice none 0 0, 0, by simp only [ashort, List.take_nil]; exact .fnil none, fun w => ⟨by simp [Builtin.lenOf], by simp [Builtin.lenOf]⟩, fun esz k w => rfl⟩
  | _ => exact (hj rfl).elim
def copyT (P : Program) (argTypes : Array TypeId) : Option Nat :=
  match argTypes[0]? with
  | some t => match P.underlying t with
    | some (.slice e) => match P.info? e with
      | some i => some i.size
      | none => none
    | _ => none
  | none => none
theorem sound_copy {P : Program} {C : Ctx} {h : AHeap} {w : World} (hr : HRel C h w) {argTypes : Array TypeId} {esz : Nat} (ht : copyT P argTypes = some esz) (type : TypeId) {d s : AVal} {rd rs : Value} (hd : VRel C d rd) (hs : VRel C s rs) {K : AVal → AHeap → Prop}
    (hk : ACopy h d s esz K) : Out P C h w (Builtin.copy_ argTypes type #[rd, rs]) K := by
  unfold copyT at ht
  split at ht
  · rename_i t ht0
    split at ht
    · rename_i el hu
      split at ht
      · rename_i info hi
        cases ht
        cases hd <;> try exact hk.elim
        rename_i a e i n cap rcap L ha hesz hcap hlen hroom
        obtain ⟨es, h1, rfl, h3, hk⟩ := hk
        have hj : ashort s n ≠ .junk := fun e => by rw [e] at hk; exact hk
        obtain ⟨rs', m, k1, k2, k3⟩ := ashort_ok (P := P) hs n hj
        obtain ⟨new, nn, hn, hk', hel⟩ := sound_elems (P := P) k1 hk
        obtain ⟨cells, g1, g2, g3⟩ := hel w hr
        have hmn : nn = min m n := by
          have := (k2 w).2
          rw [g1] at this
          simpa using this
        obtain ⟨hg, hfc, r, hr1, c, rfl, hrr⟩ := hr.live a _ L h1 ha
        have hmul : (i + new.length) * L.esz ≤ (i + rcap) * L.esz := Nat.mul_le_mul_right _ (by rw [hn, hmn]; omega)
        rw [k3, ← hesz] at g2
        obtain ⟨w', s1, s2, s3, s4, s5⟩ := run_storeCells_lay (P := P) L.b L.elem cells.toList (L.base + i * L.esz) 0 c w hr1 (by
          rw [Array.length_toList, g3.size, hrr.size, ← hesz]
          rw [Nat.add_mul] at hmul; omega) (fun v hv => by
          obtain ⟨k, hk⟩ := List.getElem?_of_mem hv
          exact g3.one k v (by rw [← hk, Array.getElem?_toList]))
        have hover := rows_over hrr (by rw [hesz]; exact g3) i (by omega) (by omega)
        rw [Nat.add_zero] at s3
        refine ⟨_, goInt nn, C, _, w', ?_, .refl _ _, ?_, ?_, hk'⟩
        · unfold Builtin.copy_
          simp only [ht0, List.getElem?_toArray, List.getElem?_cons_zero, List.getElem?_cons_succ, Sem.run_bind, run_underlying hu, Result.andThen_ok, (k2 w).1, sizeOf, typeInfo, run_program, hi, Sem.run_pure, hesz]
          rw [show Nat.min m n = nn from hmn.symm, ← hesz, g2]
          simp only [Result.andThen_ok, s1]
        · refine hr.turn h1 (fun _ _ => by simp) ha _ s2 s3 s4 _ (fun x hx => ?_) s5
          cases hx
          exact ⟨fun _ _ => by simp, _, rfl, hover⟩
        · rw [hn]; exact .lit _
      · cases ht
    · cases ht
  · cases ht
end Go.AL
