/- What an operation that calls nothing comes to is one thing; drawn orders walked as regions in the text's order are. -/
import Derived.Test.YtjiccnebfbpcgaaGreatDoorQAl22
set_option linter.unusedSimpArgs false
set_option linter.unusedVariables false
set_option linter.unusedSectionVars false
namespace Go.AL
def Det {α : Type} (X : (α → Prop) → Prop) : Prop := ∀ K, X K → ∃ v, X (fun v' => v' = v) ∧ K v
theorem det_load {h : AHeap} {p : AVal} {n : Nat} {b : Bool} : Det (ALoad h p n b) := by
  intro K hk
  unfold ALoad at hk ⊢
  split at hk
  · obtain ⟨es, e, h1, h2, h3, h4⟩ := hk; exact ⟨_, ⟨es, e, h1, h2, h3, rfl⟩, h4⟩
  · exact ⟨_, ⟨hk.1, rfl⟩, hk.2⟩
  · exact hk.elim
theorem det_field {p : AVal} {n : Nat} : Det (AField p n) := by
  intro K hk
  unfold AField at hk ⊢
  split at hk <;> first | exact ⟨_, rfl, hk⟩ | exact hk.elim
theorem det_fieldV {p : AVal} {n m : Nat} {b : Bool} : Det (AFieldV p n m b) := by
  intro K hk
  unfold AFieldV at hk ⊢
  split at hk <;> first | exact ⟨_, ⟨hk.1, rfl⟩, hk.2⟩ | exact hk.elim
theorem det_idx {x i : AVal} {n : Nat} : Det (AIdx x i n) := by
  intro K hk
  unfold AIdx at hk ⊢
  split at hk
  · obtain ⟨h1, h2, h3, h4⟩ := hk; exact ⟨_, ⟨h1, h2, h3, rfl⟩, h4⟩
  · obtain ⟨e, h1, h2, h3, h4⟩ := hk; exact ⟨_, ⟨e, h1, h2, h3, rfl⟩, h4⟩
  · obtain ⟨e, h1, h2, h3, h4⟩ := hk; exact ⟨_, ⟨e, h1, h2, h3, rfl⟩, h4⟩
  · exact hk.elim
theorem det_indexS {x i : AVal} : Det (AIndexS x i) := by
  intro K hk
  unfold AIndexS at hk ⊢
  split at hk
  · obtain ⟨h1, c, h2, h3⟩ := hk; exact ⟨_, ⟨h1, c, h2, rfl⟩, h3⟩
  · exact hk.elim
theorem det_int {op : BinOp} {k k' : IntKind} {a b : Int} : Det (AInt op k a k' b) := by
  intro K hk
  cases op <;> simp only [AInt] at hk ⊢ <;> first | exact ⟨_, ⟨hk.1, rfl⟩, hk.2⟩ | exact ⟨_, ⟨hk.1, hk.2.1, rfl⟩, hk.2.2⟩
theorem det_str {op : BinOp} {a b : List UInt8} : Det (AStr op a b) := by
  intro K hk
  cases op <;> simp only [AStr] at hk ⊢ <;> first | exact ⟨_, rfl, hk⟩ | exact ⟨_, ⟨hk.1, rfl⟩, hk.2⟩ | exact hk.elim
theorem det_eq {q : EqK} {x y : AVal} : Det (AEq q x y) := by
  intro K hk
  unfold AEq at hk ⊢
  split at hk
  · exact ⟨_, rfl, hk⟩
  · exact hk.elim
  · exact hk.elim
  · obtain ⟨h1, h2, a, b, h3, h4, h5, h6⟩ := hk; exact ⟨_, ⟨h1, h2, a, b, h3, h4, h5, rfl⟩, h6⟩
theorem aeq_mono {q : EqK} {x y : AVal} {K K' : Bool → Prop} (h : ∀ b, K b → K' b) (hk : AEq q x y K) : AEq q x y K' := by
  unfold AEq at hk ⊢
  split at hk
  · exact h _ hk
  · exact hk.elim
  · exact hk.elim
  · obtain ⟨h1, h2, a, b, h3, h4, h5, h6⟩ := hk; exact ⟨h1, h2, a, b, h3, h4, h5, h _ h6⟩
theorem det_bin {q : EqK} {op : BinOp} {x y : AVal} : Det (ABin q op x y) := by
  intro K hk
  unfold ABin at hk ⊢
  split at hk
  · exact det_int _ hk
  · exact det_str _ hk
  · split at hk
    · obtain ⟨b, h1, h2⟩ := det_eq _ hk; exact ⟨_, aeq_mono (fun b' e => by rw [e]) h1, h2⟩
    · obtain ⟨b, h1, h2⟩ := det_eq _ hk; exact ⟨_, aeq_mono (fun b' e => by rw [e]) h1, h2⟩
    · exact hk.elim
theorem det_un {op : UnOp} {x : AVal} : Det (AUn op x) := by
  intro K hk
  unfold AUn at hk ⊢
  split at hk <;> first | exact ⟨_, rfl, hk⟩ | exact hk.elim
theorem det_conv {q : ConvK} {x : AVal} : Det (AConv q x) := by
  intro K hk
  unfold AConv at hk ⊢
  split at hk <;> first | exact ⟨_, rfl, hk⟩ | exact hk.elim
theorem det_len {x : AVal} {h : AHeap} : Det (ALen x h) := by
  intro K hk
  unfold ALen at hk ⊢
  split at hk <;> first | exact ⟨_, rfl, hk⟩ | exact hk.elim | (obtain ⟨es, h1, h2⟩ := hk; exact ⟨_, ⟨es, h1, rfl⟩, h2⟩)
theorem det_bnd {x : Option AVal} {n : Nat} : Det (ABnd x n) := by
  intro K hk
  unfold ABnd at hk ⊢
  split at hk <;> first | exact ⟨_, rfl, hk⟩ | exact ⟨_, ⟨hk.1, rfl⟩, hk.2⟩ | exact hk.elim
theorem bnd_mono {x : Option AVal} {n : Nat} {K K' : Nat → Prop} (h : ∀ b, K b → K' b) (hk : ABnd x n K) : ABnd x n K' := by
  unfold ABnd at hk ⊢
  split at hk <;> first | exact h _ hk | exact ⟨hk.1, h _ hk.2⟩ | exact hk.elim
theorem bnd2 {x y : Option AVal} {n m : Nat} {p : Nat → Nat → Prop} {f : Nat → Nat → AVal} {K : AVal → Prop} (hk : ABnd x n fun h => ABnd y m fun a => p h a ∧ K (f h a)) : ∃ v, (ABnd x n fun h => ABnd y m fun a => p h a ∧ f h a = v) ∧ K v := by
  obtain ⟨h, h1, h2⟩ := det_bnd _ hk
  obtain ⟨a, h3, h4, h5⟩ := det_bnd _ h2
  exact ⟨f h a, bnd_mono (fun h' e => by subst e; exact bnd_mono (fun a' e => by subst e; exact ⟨h4, rfl⟩) h3) h1, h5⟩
theorem det_slice {x : AVal} {l m : Option AVal} {n : Nat} : Det (ASlice x l m n) := by
  intro K hk
  unfold ASlice at hk ⊢
  split at hk
  · obtain ⟨v, h1, h2⟩ := bnd2 (p := fun h a => a ≤ h ∧ h ≤ _) (bnd_mono (fun h hh => bnd_mono (fun a ha => ⟨⟨ha.1, ha.2.1⟩, ha.2.2⟩) hh) hk)
    exact ⟨v, bnd_mono (fun h hh => bnd_mono (fun a ha => ⟨ha.1.1, ha.1.2, ha.2⟩) hh) h1, h2⟩
  · rename_i a e i n' cap
    obtain ⟨v, h1, h2⟩ := bnd2 (p := fun h b => e = n ∧ b ≤ h ∧ h ≤ n' ∧ (b < cap.getD n' ∨ b = h)) (bnd_mono (fun h hh => bnd_mono (fun a ha => ⟨⟨ha.1, ha.2.1, ha.2.2.1, ha.2.2.2.1⟩, ha.2.2.2.2⟩) hh) hk)
    exact ⟨v, bnd_mono (fun h hh => bnd_mono (fun a ha => ⟨ha.1.1, ha.1.2.1, ha.1.2.2.1, ha.1.2.2.2, ha.2⟩) hh) h1, h2⟩
  · rename_i es
    obtain ⟨v, h1, h2⟩ := bnd2 (p := fun h b => (∀ e ∈ es, e.length = n) ∧ b ≤ h ∧ h ≤ es.length) (bnd_mono (fun h hh => bnd_mono (fun a ha => ⟨⟨ha.1, ha.2.1, ha.2.2.1⟩, ha.2.2.2⟩) hh) hk)
    exact ⟨v, bnd_mono (fun h hh => bnd_mono (fun a ha => ⟨ha.1.1, ha.1.2.1, ha.1.2.2, ha.2⟩) hh) h1, h2⟩
  · rename_i es
    obtain ⟨v, h1, h2⟩ := bnd2 (p := fun h b => (∀ e ∈ es, e.length = n) ∧ b ≤ h ∧ h ≤ es.length) (bnd_mono (fun h hh => bnd_mono (fun a ha => ⟨⟨ha.1, ha.2.1, ha.2.2.1⟩, ha.2.2.2⟩) hh) hk)
    exact ⟨v, bnd_mono (fun h hh => bnd_mono (fun a ha => ⟨ha.1.1, ha.1.2.1, ha.1.2.2, ha.2⟩) hh) h1, h2⟩
  · obtain ⟨v, h1, h2⟩ := bnd2 (p := fun h b => b = 0 ∧ h = 0) (f := fun _ _ => .lit (.slice none 0 0)) (bnd_mono (fun h hh => bnd_mono (fun a ha => ⟨⟨ha.1, ha.2.1⟩, ha.2.2⟩) hh) hk)
    exact ⟨v, bnd_mono (fun h hh => bnd_mono (fun a ha => ⟨ha.1.1, ha.1.2, ha.2⟩) hh) h1, h2⟩
  · exact hk.elim
theorem det_fill {ps : List (Nat × Nat)} : ∀ {q : List (Nat × AVal)} {cs : List AVal}, Det (AFill ps cs q)
  | [], _, K, hk => ⟨_, rfl, hk⟩
  | (i, v) :: q, cs, K, ⟨p, c, h1, h2, h3, h4, h5⟩ => by
    obtain ⟨r, h6, h7⟩ := det_fill (q := q) K h5
    exact ⟨r, ⟨p, c, h1, h2, h3, h4, h6⟩, h7⟩
theorem det_set {n : Nat} : ∀ {q : List (Nat × AVal)} {es : List (List AVal)}, Det (ASet n es q)
  | [], _, K, hk => ⟨_, rfl, hk⟩
  | (i, v) :: q, es, K, ⟨c, h1, h2, h3, h4⟩ => by
    obtain ⟨r, h6, h7⟩ := det_set (q := q) K h4
    exact ⟨r, ⟨c, h1, h2, h3, h6⟩, h7⟩
theorem fill_mono {ps : List (Nat × Nat)} {K K' : List AVal → Prop} (h : ∀ b, K b → K' b) : ∀ {q : List (Nat × AVal)} {cs : List AVal}, AFill ps cs q K → AFill ps cs q K'
  | [], _, hk => h _ hk
  | (i, v) :: q, cs, ⟨p, c, h1, h2, h3, h4, h5⟩ => ⟨p, c, h1, h2, h3, h4, fill_mono h h5⟩
theorem set_mono {n : Nat} {K K' : List (List AVal) → Prop} (h : ∀ b, K b → K' b) : ∀ {q : List (Nat × AVal)} {es : List (List AVal)}, ASet n es q K → ASet n es q K'
  | [], _, hk => h _ hk
  | (i, v) :: q, es, ⟨c, h1, h2, h3, h4⟩ => ⟨c, h1, h2, h3, set_mono h h4⟩
theorem det_elems {h : AHeap} {x : AVal} {n : Nat} : Det (AElems h x n) := by
  intro K hk
  unfold AElems at hk ⊢
  split at hk
  · obtain ⟨es, h1, h2, h3, h4⟩ := hk; exact ⟨_, ⟨es, h1, h2, h3, rfl⟩, h4⟩
  · exact ⟨_, ⟨hk.1, rfl⟩, hk.2⟩
  · exact ⟨_, ⟨hk.1, rfl⟩, hk.2⟩
  · exact ⟨_, ⟨hk.1, rfl⟩, hk.2⟩
  · exact ⟨_, rfl, hk⟩
  · exact ⟨_, rfl, hk⟩
  · exact hk.elim
theorem elems_mono {h : AHeap} {x : AVal} {n : Nat} {K K' : List (List AVal) → Prop} (m : ∀ b, K b → K' b) (hk : AElems h x n K) : AElems h x n K' := by
  unfold AElems at hk ⊢
  split at hk
  · obtain ⟨es, h1, h2, h3, h4⟩ := hk; exact ⟨es, h1, h2, h3, m _ h4⟩
  · exact ⟨hk.1, m _ hk.2⟩
  · exact ⟨hk.1, m _ hk.2⟩
  · exact ⟨hk.1, m _ hk.2⟩
  · exact m _ hk
  · exact m _ hk
  · exact hk.elim
def Det2 (X : (AVal → AHeap → Prop) → Prop) : Prop := ∀ K, X K → ∃ v h', X (fun v' k => v' = v ∧ k = h') ∧ K v h'
def AApp1 (h : AHeap) (s : AVal) (esz : Nat) (new : List (List AVal)) (K : AVal → AHeap → Prop) : Prop :=
  match s with
  | .lit (.slice none 0 0) | .eslice => new.length ≤ 4294967296 ∧ (new = [] → K s h) ∧ (new ≠ [] → K (.slice h.length esz 0 new.length none) (h ++ [some (.rows new)]))
  | .slice a e i len none => ∃ es, hget h a = some (.rows es) ∧ e = esz ∧ i + len ≤ es.length ∧ len + new.length ≤ 4294967296 ∧
      K (.slice h.length esz 0 (len + new.length) none) (h.set a none ++ [some (.rows ((es.drop i).take len ++ new))])
  | .slice a e i len (some c) => ∃ es, hget h a = some (.rows es) ∧ e = esz ∧ i + c ≤ es.length ∧ len ≤ c ∧ len + new.length ≤ 4294967296 ∧
      (len + new.length ≤ c → K (.slice a esz i (len + new.length) (some c)) (hset h a (.rows (es.take (i + len) ++ (new ++ es.drop (i + len + new.length)))))) ∧
      (c < len + new.length → K (.slice h.length esz 0 (len + new.length) none) (h ++ [some (.rows ((es.drop i).take len ++ new))]))
  | .gs tok e es => e = esz ∧ hget h tok = some (.tok esz es.length) ∧ es.length + new.length ≤ 4294967296 ∧ K (.gs tok esz (es ++ new)) (hset h tok (.tok esz (es.length + new.length)))
  | _ => False
theorem app_eq {h : AHeap} {s x : AVal} {n : Nat} {K : AVal → AHeap → Prop} : AApp h s x n K = AElems h x n fun new => AApp1 h s n new K := rfl
theorem det_app1 {h : AHeap} {s : AVal} {n : Nat} {new : List (List AVal)} : Det2 (AApp1 h s n new) := by
  intro K hk
  unfold AApp1 at hk ⊢
  split at hk
  · obtain ⟨a, b, c⟩ := hk
    by_cases e : new = []
    · exact ⟨_, _, ⟨a, fun _ => ⟨rfl, rfl⟩, fun x => absurd e x⟩, b e⟩
    · exact ⟨_, _, ⟨a, fun x => absurd x e, fun _ => ⟨rfl, rfl⟩⟩, c e⟩
  · obtain ⟨a, b, c⟩ := hk
    by_cases e : new = []
    · exact ⟨_, _, ⟨a, fun _ => ⟨rfl, rfl⟩, fun x => absurd e x⟩, b e⟩
    · exact ⟨_, _, ⟨a, fun x => absurd x e, fun _ => ⟨rfl, rfl⟩⟩, c e⟩
  · obtain ⟨es, a1, a2, a3, a4, a5⟩ := hk
    exact ⟨_, _, ⟨es, a1, a2, a3, a4, rfl, rfl⟩, a5⟩
  · rename_i a e i len c
    obtain ⟨es, a1, a2, a3, a4, a5, a6, a7⟩ := hk
    by_cases e : len + new.length ≤ c
    · exact ⟨_, _, ⟨es, a1, a2, a3, a4, a5, fun _ => ⟨rfl, rfl⟩, fun x => by omega⟩, a6 e⟩
    · exact ⟨_, _, ⟨es, a1, a2, a3, a4, a5, fun x => absurd x e, fun _ => ⟨rfl, rfl⟩⟩, a7 (by omega)⟩
  · obtain ⟨a1, a2, a3, a4⟩ := hk
    exact ⟨_, _, ⟨a1, a2, a3, rfl, rfl⟩, a4⟩
  · exact hk.elim
theorem det_app {h : AHeap} {s x : AVal} {n : Nat} : Det2 (AApp h s x n) := by
  intro K hk
  rw [app_eq] at hk
  obtain ⟨new, h1, h2⟩ := det_elems _ hk
  obtain ⟨v, h', h3, h4⟩ := det_app1 _ h2
  exact ⟨v, h', by rw [app_eq]; exact elems_mono (fun new' e => by subst e; exact h3) h1, h4⟩
theorem det_optK {α β : Type} {o : Option α} {X : α → (β → Prop) → Prop} (h : ∀ a, Det (X a)) : Det fun K => optK o fun a => X a K := by
  intro K hk
  cases o with
  | none => exact hk.elim
  | some a => exact h a K hk
theorem det_idxT {P : Program} {ty : TypeId} {x i : AVal} : Det (AIdxT P ty x i) := by
  intro K hk
  unfold AIdxT at hk ⊢
  split at hk
  · unfold AIdxA at hk ⊢
    split at hk
    · exact ⟨_, ⟨hk.1, hk.2.1, rfl⟩, hk.2.2⟩
    · exact ⟨_, ⟨hk.1, hk.2.1, rfl⟩, hk.2.2⟩
    · exact hk.elim
  · split at hk
    · exact det_idx _ hk
    · exact hk.elim
theorem det_mapGet {h : AHeap} {q : Bool} {z x k : AVal} {ok : Bool} : Det (AMapGet h q z x k ok) := by
  intro K hk
  unfold AMapGet at hk ⊢
  split at hk
  · obtain ⟨es, r, h1, h2, h3, h4⟩ := hk
    exact ⟨_, ⟨es, r, h1, h2, h3, rfl⟩, h4⟩
  · exact hk.elim
theorem det_mapPut {h : AHeap} {q : Bool} {x k v : AVal} : Det (AMapPut h q x k v) := by
  intro K hk
  unfold AMapPut at hk ⊢
  split at hk
  · obtain ⟨es, r, h1, h2, h3, h4⟩ := hk
    exact ⟨_, ⟨es, r, h1, h2, h3, rfl⟩, h4⟩
  · exact hk.elim
theorem mapPut_mono {h : AHeap} {q : Bool} {x k v : AVal} {K K' : AHeap → Prop} (m : ∀ h', K h' → K' h') (hk : AMapPut h q x k v K) : AMapPut h q x k v K' := by
  unfold AMapPut at hk ⊢
  split at hk
  · obtain ⟨es, r, h1, h2, h3, h4⟩ := hk
    exact ⟨es, r, h1, h2, h3, m _ h4⟩
  · exact hk.elim
theorem det_mm {mx : Bool} {k : IntKind} : ∀ {args : List AVal} {x : Int}, Det (AMm mx k x args)
  | [], x => fun K hk => ⟨_, rfl, hk⟩
  | a :: r, x => fun K hk => by
    unfold AMm at hk ⊢
    split at hk
    · rename_i e; cases e
    · rename_i e; cases e; exact det_mm _ hk
    · exact hk.elim
theorem det_minMax {mx : Bool} {args : List AVal} : Det (AMinMax mx args) := by
  intro K hk
  unfold AMinMax at hk ⊢
  split at hk
  · exact det_mm _ hk
  · exact hk.elim
theorem det_copy {h : AHeap} {d s : AVal} {e : Nat} : Det2 (ACopy h d s e) := by
  intro K hk
  unfold ACopy at hk ⊢
  split at hk
  · obtain ⟨es, h1, h2, h3, hk⟩ := hk
    obtain ⟨new, h4, h5⟩ := det_elems _ hk
    exact ⟨_, _, ⟨es, h1, h2, h3, elems_mono (fun b e => by subst e; exact ⟨rfl, rfl⟩) h4⟩, h5⟩
  · exact hk.elim
theorem det_step {P : Program} {op : Op} {t : ATab} {h : AHeap} : Det2 (AStep P op t h) := by
  intro K hk
  have v1 : ∀ {X : (AVal → Prop) → Prop}, Det X → X (fun v => K v h) → ∃ v h', X (fun v' => v' = v ∧ h = h') ∧ K v h' := by
    intro X hX hk
    obtain ⟨v, h1, h2⟩ := hX _ hk
    exact ⟨v, h, by simpa using h1, h2⟩
  cases op <;> try exact hk.elim
  case move x => exact ⟨_, _, ⟨rfl, rfl⟩, hk⟩
  case assign x => exact ⟨_, _, ⟨rfl, rfl⟩, hk⟩
  case pick c x y =>
    change (match aev t c with | .lit (.bool q) => (q = true → K (aev t x) h) ∧ (q = false → K (aev t y) h) | _ => False) at hk
    show ∃ v h', (match aev t c with | .lit (.bool q) => (q = true → aev t x = v ∧ h = h') ∧ (q = false → aev t y = v ∧ h = h') | _ => False) ∧ K v h'
    split at hk
    · rename_i q hq
      cases q with
      | true => exact ⟨_, _, ⟨fun _ => ⟨rfl, rfl⟩, fun e => nomatch e⟩, hk.1 rfl⟩
      | false => exact ⟨_, _, ⟨(fun e => nomatch e), fun _ => ⟨rfl, rfl⟩⟩, hk.2 rfl⟩
    · exact hk.elim
  case nilCheck x =>
    change ANilc (aev t x) (K (aev t x) h) at hk
    show ∃ v h', ANilc (aev t x) (aev t x = v ∧ h = h') ∧ K v h'
    unfold ANilc at hk ⊢
    split at hk <;> first | exact ⟨_, _, ⟨rfl, rfl⟩, hk⟩ | exact hk.elim
  case binOp op xt x y yt => exact v1 det_bin hk
  case unOp op xt x => exact v1 det_un hk
  case convert s d x => exact v1 (det_optK fun _ => det_conv) hk
  case build e ps =>
    obtain ⟨p, hp, hk⟩ := optK_some hk
    obtain ⟨cs, h1, h2⟩ := det_fill _ hk
    refine ⟨.agg cs, h, ?_, h2⟩
    show optK (buildT P e) _
    rw [hp]
    exact fill_mono (fun b e => by subst e; exact ⟨rfl, rfl⟩) h1
  case makeInterface xt x => exact ⟨_, _, ⟨hk.1, rfl, rfl⟩, hk.2⟩
  case makeFunc fn f c => exact ⟨_, _, ⟨rfl, rfl⟩, hk⟩
  case slice xt x lo hi mx =>
    cases mx with
    | some m => exact hk.elim
    | none =>
      obtain ⟨p, hp, h1, hk⟩ := optK_some (show optK (sliceT P xt) fun esz => ((aev t x).isStr = true ↔ P.underlying xt = some .string) ∧ ASlice (aev t x) (lo.map (aev t)) (hi.map (aev t)) esz fun v => K v h from hk)
      obtain ⟨v, h2, h3⟩ := det_slice _ hk
      refine ⟨v, h, ?_, h3⟩
      show optK (sliceT P xt) fun esz => ((aev t x).isStr = true ↔ P.underlying xt = some .string) ∧ ASlice (aev t x) (lo.map (aev t)) (hi.map (aev t)) esz fun v' => v' = v ∧ h = h
      rw [hp]
      exact ⟨h1, by simpa using h2⟩
  case fieldAddr xt x f => exact v1 (det_optK fun _ => det_field) hk
  case field xt x f => exact v1 (det_optK fun _ => det_fieldV) hk
  case indexAddr xt x i => exact v1 det_idxT hk
  case makeMap mt r =>
    cases r with
    | some r => exact hk.elim
    | none => exact ⟨_, _, ⟨rfl, rfl⟩, hk⟩
  case mapUpdate mt m k v =>
    obtain ⟨p, hp, hk⟩ := optK_some hk
    obtain ⟨h', h1, h2⟩ := det_mapPut _ hk
    refine ⟨.junk, h', ?_, h2⟩
    show optK (mapT P mt) _
    rw [hp]; exact mapPut_mono (fun k e => ⟨rfl, e⟩) h1
  case insert mt m k v =>
    obtain ⟨p, hp, hk⟩ := optK_some hk
    obtain ⟨h', h1, h2⟩ := det_mapPut _ hk
    refine ⟨.junk, h', ?_, h2⟩
    show optK (mapT P mt) _
    rw [hp]; exact mapPut_mono (fun k e => ⟨rfl, e⟩) h1
  case lookup mt m k ok => exact v1 (det_optK fun _ => det_mapGet) hk
  case index xt x i =>
    obtain ⟨v, h2, h3⟩ := det_indexS _ hk.2
    exact ⟨v, h, ⟨hk.1, by simpa using h2⟩, h3⟩
  case extract x i =>
    change (match aev t x with | .tuple vs => optK vs[i]? (fun v => K v h) | _ => False) at hk
    show ∃ v h', (match aev t x with | .tuple vs => optK vs[i]? (fun v' => v' = v ∧ h = h') | _ => False) ∧ K v h'
    split at hk
    · rename_i vs hq
      obtain ⟨v, hv, hk⟩ := optK_some hk
      exact ⟨v, h, by rw [hv]; exact ⟨rfl, rfl⟩, hk⟩
    · exact hk.elim
  case load vt x => exact v1 (det_optK fun _ => det_load) hk
  case store vt x v =>
    obtain ⟨p, hp, hk⟩ := optK_some hk
    refine ⟨.junk, ?_⟩
    show ∃ h', (optK (varT P vt) fun p => AStore h (aev t x) (aev t v) p.1 fun k => AVal.junk = .junk ∧ k = h') ∧ K .junk h'
    rw [hp]
    unfold AStore at hk ⊢
    split at hk
    · rename_i a i off hq
      obtain ⟨es, e, cs, h1, h2, h3, h4, h5, h6⟩ := hk
      exact ⟨_, ⟨es, e, cs, h1, h2, h3, h4, h5, rfl, rfl⟩, h6⟩
    · exact hk.elim
  case alloc e =>
    obtain ⟨p, hp, hk⟩ := optK_some hk
    refine ⟨_, _, ?_, hk⟩
    show optK (zeroT P e) _
    rw [hp]; exact ⟨rfl, rfl⟩
  case box e x =>
    obtain ⟨p, hp, hk⟩ := optK_some hk
    refine ⟨_, _, ?_, hk⟩
    show optK (acells (aev t x)) _
    rw [hp]; exact ⟨rfl, rfl⟩
  case buildSlice e n ps =>
    obtain ⟨p, hp, h1, hk⟩ := optK_some hk
    obtain ⟨es, h2, h3⟩ := det_set _ hk
    refine ⟨_, _, ?_, h3⟩
    show optK (rowT P e) _
    rw [hp]
    exact ⟨h1, set_mono (fun b e => by subst e; exact ⟨rfl, rfl⟩) h2⟩
  case makeSlice e x y =>
    obtain ⟨p, hp, hk⟩ := optK_some hk
    have : ∃ v h', AMakeS h p.2 (aev t x) (aev t y) (fun v' k => v' = v ∧ k = h') ∧ K v h' := by
      unfold AMakeS at hk ⊢
      split at hk
      · exact ⟨_, _, ⟨hk.1, hk.2.1, hk.2.2.1, rfl, rfl⟩, hk.2.2.2⟩
      · exact hk.elim
    obtain ⟨v, h', h1, h2⟩ := this
    refine ⟨v, h', ?_, h2⟩
    show optK (rowT P e) _
    rw [hp]; exact h1
  case call c =>
    obtain ⟨callee, args, ats⟩ := c
    cases callee with
    | value f => exact hk.elim
    | invoke r m => exact hk.elim
    | builtin b =>
      cases b <;> try exact hk.elim
      case len =>
        change (match args.toList with | [x] => optK (lenT P ats) fun q => (aev t x).lenForm = some q ∧ ALen (aev t x) h fun v => K v h | _ => False) at hk
        show ∃ v h', (match args.toList with | [x] => optK (lenT P ats) fun q => (aev t x).lenForm = some q ∧ ALen (aev t x) h fun v' => v' = v ∧ h = h' | _ => False) ∧ K v h'
        split at hk
        · rename_i x hq
          obtain ⟨q, hp, h1, hk⟩ := optK_some hk
          obtain ⟨v, h2, h3⟩ := det_len _ hk
          refine ⟨v, h, ?_, h3⟩
          simp only [hp]
          exact ⟨h1, by simpa using h2⟩
        · exact hk.elim
      case min => exact v1 (X := fun KV => AMinMax false (args.toList.map (aev t)) KV) det_minMax hk
      case max => exact v1 (X := fun KV => AMinMax true (args.toList.map (aev t)) KV) det_minMax hk
      case copy =>
        change (match args.toList with | [d, s] => optK (copyT P ats) fun e => ACopy h (aev t d) (aev t s) e K | _ => False) at hk
        show ∃ v h', (match args.toList with | [d, s] => optK (copyT P ats) fun e => ACopy h (aev t d) (aev t s) e fun v' k => v' = v ∧ k = h' | _ => False) ∧ K v h'
        split at hk
        · rename_i s x hq
          obtain ⟨q, hp, hk⟩ := optK_some hk
          obtain ⟨v, h', h2, h3⟩ := det_copy _ hk
          refine ⟨v, h', ?_, h3⟩
          simp only [hp]
          exact h2
        · exact hk.elim
      case append =>
        change (match args.toList with | [s, x] => optK (appT P ats) fun p => AApp h (aev t s) (aev t x) p.2 K | _ => False) at hk
        show ∃ v h', (match args.toList with | [s, x] => optK (appT P ats) fun p => AApp h (aev t s) (aev t x) p.2 fun v' k => v' = v ∧ k = h' | _ => False) ∧ K v h'
        split at hk
        · rename_i s x hq
          obtain ⟨q, hp, hk⟩ := optK_some hk
          obtain ⟨v, h', h2, h3⟩ := det_app _ hk
          refine ⟨v, h', ?_, h3⟩
          simp only [hp]
          exact h2
        · exact hk.elim
end Go.AL
