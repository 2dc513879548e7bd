/- A reckoner of operations in the abstract picture, and that what it comes to is what the walk asks. -/
import Derived.Test.YtjiccnebfbpcgaaGreatDoorQAx0
set_option linter.unusedSimpArgs false
set_option linter.unusedVariables false
set_option linter.unusedSectionVars false
namespace Go.AL
noncomputable def onB {α : Type} (b : Bool) (x : Option α) : Option α := match b with | true => x | false => none
theorem onB_some {α : Type} {b : Bool} {x : Option α} {v : α} (h : onB b x = some v) : b = true ∧ x = some v := by
  cases b with
  | true => exact ⟨rfl, h⟩
  | false => cases h
noncomputable def xld (h : RH) (p : AVal) (n : Nat) (agg : Bool) : Option AVal :=
  match p with
  | .ptr a i off => match h.get a with
    | some (.rows es) => match es[i]? with
      | some e => onB (Nat.ble (off + n) e.length) (some (mkv agg n (e.drop off)))
      | none => none
    | _ => none
  | .fptr cs off => onB (Nat.ble (off + n) cs.length) (some (mkv agg n (cs.drop off)))
  | _ => none
theorem xld_ok {h : RH} {p : AVal} {n : Nat} {agg : Bool} {v : AVal} (hx : xld h p n agg = some v) {K : AVal → Prop} (hk : K v) : ALoad h.abs p n agg K := by
  unfold xld at hx
  simp only [RH.get_eq] at hx
  split at hx
  · split at hx
    · rename_i es he
      split at hx
      · rename_i e hi
        obtain ⟨h1, h2⟩ := onB_some hx
        cases h2
        exact ⟨es, e, he, hi, Nat.le_of_ble_eq_true h1, hk⟩
      · cases hx
    · cases hx
  · obtain ⟨h1, h2⟩ := onB_some hx
    cases h2
    exact ⟨Nat.le_of_ble_eq_true h1, hk⟩
  · cases hx
noncomputable def xst (h : RH) (p v : AVal) (n : Nat) : Option (RH × Nat) :=
  match p with
  | .ptr a i off => match h.get a with
    | some (.rows es) => match es[i]?, acells v with
      | some e, some cs => onB (Nat.beq cs.length n && Nat.ble (off + n) e.length) (some (h.put a (some (.rows (es.set i (e.take off ++ (cs ++ e.drop (off + n)))))), a))
      | _, _ => none
    | _ => none
  | _ => none
theorem xst_ok {h : RH} {p v : AVal} {n : Nat} {h' : RH} {a : Nat} (hx : xst h p v n = some (h', a)) : (∃ es o, hget h.abs a = some (.rows es) ∧ h'.abs = hset h.abs a (.rows o)) ∧ ∀ {K : AHeap → Prop}, K h'.abs → AStore h.abs p v n K := by
  unfold xst at hx
  simp only [RH.get_eq] at hx
  split at hx
  · split at hx
    · rename_i es he
      split at hx
      · rename_i e cs hi hc
        obtain ⟨h1, h2⟩ := onB_some hx
        simp only [Bool.and_eq_true] at h1
        cases h2
        rw [RH.abs_put']; exact ⟨⟨es, _, he, rfl⟩, fun hk => ⟨es, e, cs, he, hi, hc, Nat.eq_of_beq_eq_true h1.1, Nat.le_of_ble_eq_true h1.2, hk⟩⟩
      · cases hx
    · cases hx
  · cases hx
noncomputable def kindB (a b : IntKind) : Bool := decide (a = b)
noncomputable def xi_shl (k : IntKind) (a : Int) (k' : IntKind) (b : Int) : Option AVal := onB (decide (0 ≤ b)) (some (.lit (.int k (k.wrap (a * 2 ^ (min b.toNat k.bits))))))
noncomputable def xi_shr (k : IntKind) (a : Int) (k' : IntKind) (b : Int) : Option AVal := onB (decide (0 ≤ b)) (some (.lit (.int k (a.fdiv (2 ^ (min b.toNat k.bits))))))
noncomputable def xi_add (k : IntKind) (a : Int) (k' : IntKind) (b : Int) : Option AVal := onB (kindB k k') (some (.lit (.int k (k.wrap (a + b)))))
noncomputable def xi_sub (k : IntKind) (a : Int) (k' : IntKind) (b : Int) : Option AVal := onB (kindB k k') (some (.lit (.int k (k.wrap (a - b)))))
noncomputable def xi_mul (k : IntKind) (a : Int) (k' : IntKind) (b : Int) : Option AVal := onB (kindB k k') (some (.lit (.int k (k.wrap (a * b)))))
noncomputable def xi_quo (k : IntKind) (a : Int) (k' : IntKind) (b : Int) : Option AVal := onB (kindB k k' && decide (b ≠ 0)) (some (.lit (.int k (k.wrap (a.tdiv b)))))
noncomputable def xi_rem (k : IntKind) (a : Int) (k' : IntKind) (b : Int) : Option AVal := onB (kindB k k' && decide (b ≠ 0)) (some (.lit (.int k (a.tmod b))))
noncomputable def xi_and (k : IntKind) (a : Int) (k' : IntKind) (b : Int) : Option AVal := onB (kindB k k') (some (.lit (.int k (bits .and k a b))))
noncomputable def xi_or (k : IntKind) (a : Int) (k' : IntKind) (b : Int) : Option AVal := onB (kindB k k') (some (.lit (.int k (bits .or k a b))))
noncomputable def xi_xor (k : IntKind) (a : Int) (k' : IntKind) (b : Int) : Option AVal := onB (kindB k k') (some (.lit (.int k (bits .xor k a b))))
noncomputable def xi_andNot (k : IntKind) (a : Int) (k' : IntKind) (b : Int) : Option AVal := onB (kindB k k') (some (.lit (.int k (bits .andNot k a b))))
noncomputable def xi_eql (k : IntKind) (a : Int) (k' : IntKind) (b : Int) : Option AVal := onB (kindB k k') (some (.lit (.bool (decide (a = b)))))
noncomputable def xi_neq (k : IntKind) (a : Int) (k' : IntKind) (b : Int) : Option AVal := onB (kindB k k') (some (.lit (.bool (!decide (a = b)))))
noncomputable def xi_lss (k : IntKind) (a : Int) (k' : IntKind) (b : Int) : Option AVal := onB (kindB k k') (some (.lit (.bool (decide (a < b)))))
noncomputable def xi_leq (k : IntKind) (a : Int) (k' : IntKind) (b : Int) : Option AVal := onB (kindB k k') (some (.lit (.bool (decide (a ≤ b)))))
noncomputable def xi_gtr (k : IntKind) (a : Int) (k' : IntKind) (b : Int) : Option AVal := onB (kindB k k') (some (.lit (.bool (decide (b < a)))))
noncomputable def xi_geq (k : IntKind) (a : Int) (k' : IntKind) (b : Int) : Option AVal := onB (kindB k k') (some (.lit (.bool (decide (b ≤ a)))))
noncomputable def xint (op : BinOp) : IntKind → Int → IntKind → Int → Option AVal :=
  match op with
  | .shl => xi_shl
  | .shr => xi_shr
  | .add => xi_add
  | .sub => xi_sub
  | .mul => xi_mul
  | .quo => xi_quo
  | .rem => xi_rem
  | .and => xi_and
  | .or => xi_or
  | .xor => xi_xor
  | .andNot => xi_andNot
  | .eql => xi_eql
  | .neq => xi_neq
  | .lss => xi_lss
  | .leq => xi_leq
  | .gtr => xi_gtr
  | .geq => xi_geq
theorem xint_ok {op : BinOp} {k k' : IntKind} {a b : Int} {v : AVal} (hx : xint op k a k' b = some v) {K : AVal → Prop} (hk : K v) : AInt op k a k' b K := by
  cases op <;> (simp only [xint, xi_shl, xi_shr, xi_add, xi_sub, xi_mul, xi_quo, xi_rem, xi_and, xi_or, xi_xor, xi_andNot, xi_eql, xi_neq, xi_lss, xi_leq, xi_gtr, xi_geq] at hx; obtain ⟨h1, h2⟩ := onB_some hx; cases h2; simp only [kindB, Bool.and_eq_true, decide_eq_true_eq] at h1; simp only [AInt])
  all_goals first | exact ⟨h1, hk⟩ | exact ⟨h1.1, h1.2, hk⟩
noncomputable def strB : List UInt8 → List UInt8 → Bool
  | [], [] => true
  | a :: as, b :: bs => match Nat.beq a.toNat b.toNat with | true => strB as bs | false => false
  | _, _ => false
theorem strB_eq : ∀ (a b : List UInt8), strB a b = decide (a = b)
  | [], [] => rfl
  | [], _ :: _ => by simp [strB]
  | _ :: _, [] => by simp [strB]
  | a :: as, b :: bs => by
    have ih := strB_eq as bs
    unfold strB
    by_cases e : a = b
    · subst e; rw [Nat.beq_refl, ih]; simp
    · have : Nat.beq a.toNat b.toNat = false := by
        cases h : Nat.beq a.toNat b.toNat with
        | false => rfl
        | true => exact absurd (UInt8.toNat_inj.1 (Nat.eq_of_beq_eq_true h)) e
      rw [this]; simp [e]
noncomputable def xstr (op : BinOp) (a b : List UInt8) : Option AVal :=
  match op with
  | .add => onB (Nat.ble (a.length + b.length) 9223372036854775807) (some (.str (a ++ b)))
  | .eql => some (.lit (.bool (strB a b)))
  | .neq => some (.lit (.bool (!strB a b)))
  | .lss => some (.lit (.bool (Op.bytesLess a b)))
  | .leq => some (.lit (.bool (Op.bytesLess a b || decide (a = b))))
  | .gtr => some (.lit (.bool (!(Op.bytesLess a b || decide (a = b)))))
  | .geq => some (.lit (.bool (!Op.bytesLess a b)))
  | _ => none
theorem xstr_ok {op : BinOp} {a b : List UInt8} {v : AVal} (hx : xstr op a b = some v) {K : AVal → Prop} (hk : K v) : AStr op a b K := by
  cases op <;> simp only [xstr, reduceCtorEq] at hx
  case add => obtain ⟨h1, h2⟩ := onB_some hx; cases h2; exact ⟨Nat.le_of_ble_eq_true h1, hk⟩
  all_goals (rw [Option.some.injEq] at hx; subst hx; first | exact hk | (simp only [AStr]; rw [← strB_eq]; exact hk))
noncomputable def xeq (q : EqK) (x y : AVal) : Option Bool :=
  match q with
  | .bool => (match x, y with
    | .lit (.bool a), .lit (.bool b) => some (a == b)
    | _, _ => none)
  | .other => none
  | q => onB (x.fits q && y.fits q) (match x.isNil, y.isNil with
    | some a, some b => onB (a || b) (some (a == b))
    | _, _ => none)
theorem xeq_ok {q : EqK} {x y : AVal} {b : Bool} (hx : xeq q x y = some b) {K : Bool → Prop} (hk : K b) : AEq q x y K := by
  have gen : ∀ q, onB (x.fits q && y.fits q) (match x.isNil, y.isNil with
    | some a, some b => onB (a || b) (some (a == b))
    | _, _ => none) = some b → x.fits q = true ∧ y.fits q = true ∧ ∃ a b, x.isNil = some a ∧ y.isNil = some b ∧ (a = true ∨ b = true) ∧ K (a == b) := by
    intro q hx
    obtain ⟨g1, g2⟩ := onB_some hx
    simp only [Bool.and_eq_true] at g1
    split at g2
    · rename_i a c ha hc
      obtain ⟨g3, g4⟩ := onB_some g2
      cases g4
      exact ⟨g1.1, g1.2, a, c, ha, hc, by simpa using g3, hk⟩
    · cases g2
  cases q with
  | bool =>
    simp only [xeq] at hx
    split at hx
    · cases hx; exact hk
    · cases hx
  | other => cases hx
  | ptr => exact gen _ hx
  | slice => exact gen _ hx
  | map => exact gen _ hx
  | func => exact gen _ hx
  | iface => exact gen _ hx
noncomputable def xbin (q : EqK) (op : BinOp) (x y : AVal) : Option AVal :=
  match x, y with
  | .lit (.int k a), .lit (.int k' b) => xint op k a k' b
  | .str a, .str b => xstr op a b
  | x, y => (match op with
    | .eql => (xeq q x y).map fun b => .lit (.bool b)
    | .neq => (xeq q x y).map fun b => .lit (.bool (!b))
    | _ => none)
theorem map_some {α β : Type} {a : Option α} {f : α → β} {b : β} (h : a.map f = some b) : ∃ c, a = some c ∧ f c = b := by
  cases a with
  | none => cases h
  | some c => exact ⟨c, rfl, by simpa using h⟩
theorem xbin_ok {q : EqK} {op : BinOp} {x y : AVal} {v : AVal} (hx : xbin q op x y = some v) {K : AVal → Prop} (hk : K v) : ABin q op x y K := by
  unfold xbin at hx
  split at hx
  · exact xint_ok hx hk
  · exact xstr_ok hx hk
  · rename_i h1 h2
    have e : ∀ op, ABin q op x y K = (match op with
      | .eql => AEq q x y fun b => K (.lit (.bool b))
      | .neq => AEq q x y fun b => K (.lit (.bool (!b)))
      | _ => False) := by
      intro op
      unfold ABin
      split
      · exact (h1 _ _ _ _ rfl rfl).elim
      · exact (h2 _ _ rfl rfl).elim
      · rfl
    rw [e]
    split at hx
    · obtain ⟨c, h1, rfl⟩ := map_some hx; exact xeq_ok h1 (K := fun b => K (.lit (.bool b))) hk
    · obtain ⟨c, h1, rfl⟩ := map_some hx; exact xeq_ok h1 (K := fun b => K (.lit (.bool (!b)))) hk
    · cases hx
noncomputable def xidx (x i : AVal) (esz : Nat) : Option AVal :=
  match x, i with
  | .slice a es k len _, .lit (.int _ n) => onB (Nat.beq es esz && (decide (0 ≤ n) && decide (n < len))) (some (.ptr a (k + n.toNat) 0))
  | .fslice es, .lit (.int _ n) => onB (decide (0 ≤ n)) (match es[n.toNat]? with
    | some e => onB (Nat.beq e.length esz) (some (.fptr e 0))
    | none => none)
  | .gs _ _ es, .lit (.int _ n) => onB (decide (0 ≤ n)) (match es[n.toNat]? with
    | some e => onB (Nat.beq e.length esz) (some (.fptr e 0))
    | none => none)
  | _, _ => none
theorem xidx_ok {x i : AVal} {esz : Nat} {v : AVal} (hx : xidx x i esz = some v) {K : AVal → Prop} (hk : K v) : AIdx x i esz K := by
  unfold xidx at hx
  unfold AIdx
  split at hx
  · obtain ⟨h1, h2⟩ := onB_some hx
    simp only [Bool.and_eq_true, decide_eq_true_eq] at h1
    cases h2
    exact ⟨Nat.eq_of_beq_eq_true h1.1, h1.2.1, h1.2.2, hk⟩
  · obtain ⟨h1, h2⟩ := onB_some hx
    split at h2
    · rename_i e he
      obtain ⟨h3, h4⟩ := onB_some h2
      cases h4
      exact ⟨e, of_decide_eq_true h1, he, Nat.eq_of_beq_eq_true h3, hk⟩
    · cases h2
  · obtain ⟨h1, h2⟩ := onB_some hx
    split at h2
    · rename_i e he
      obtain ⟨h3, h4⟩ := onB_some h2
      cases h4
      exact ⟨e, of_decide_eq_true h1, he, Nat.eq_of_beq_eq_true h3, hk⟩
    · cases h2
  · cases hx
noncomputable def xlen (x : AVal) (h : RH) : Option AVal :=
  match x with
  | .str l => some (.lit (.int .i64 l.length))
  | .slice _ _ _ n _ => some (.lit (.int .i64 n))
  | .fslice es | .gs _ _ es => some (.lit (.int .i64 es.length))
  | .eslice | .lit (.slice _ 0 _) | .lit (.map none) => some (.lit (.int .i64 0))
  | .map a => match h.get a with | some (.map es) => some (.lit (.int .i64 es.length)) | _ => none
  | .fmap es => some (.lit (.int .i64 es.length))
  | _ => none
theorem xlen_ok {x : AVal} {h : RH} {v : AVal} (hx : xlen x h = some v) {K : AVal → Prop} (hk : K v) : ALen x h.abs K := by
  unfold xlen at hx
  simp only [RH.get_eq] at hx
  unfold ALen
  split at hx <;> try (cases hx; exact hk)
  · split at hx
    · rename_i es he; cases hx; exact ⟨es, he, hk⟩
    · cases hx
  · cases hx
noncomputable def eqkB (a b : EqK) : Bool := match a, b with
  | .bool, .bool | .ptr, .ptr | .slice, .slice | .map, .map | .func, .func | .iface, .iface | .other, .other => true
  | _, _ => false
theorem eqkB_ok {a b : EqK} (h : eqkB a b = true) : a = b := by cases a <;> cases b <;> first | rfl | cases h
noncomputable def xbnd (x : Option AVal) (d : Nat) : Option Nat :=
  match x with
  | none => some d
  | some (.lit (.int _ n)) => onB (decide (0 ≤ n)) (some n.toNat)
  | _ => none
theorem xbnd_ok {x : Option AVal} {d m : Nat} (hx : xbnd x d = some m) {K : Nat → Prop} (hk : K m) : ABnd x d K := by
  unfold xbnd at hx
  unfold ABnd
  split at hx
  · cases hx; exact hk
  · obtain ⟨h1, h2⟩ := onB_some hx; cases h2; exact ⟨of_decide_eq_true h1, hk⟩
  · cases hx
noncomputable def allLen (es : List (List AVal)) (esz : Nat) : Bool := es.all fun e => Nat.beq e.length esz
theorem allLen_ok {es : List (List AVal)} {esz : Nat} (h : allLen es esz = true) : ∀ e ∈ es, e.length = esz := fun e he => Nat.eq_of_beq_eq_true (List.all_eq_true.1 h e he)
noncomputable def xslc (x : AVal) (lo hi : Option AVal) (esz : Nat) : Option AVal :=
  match x with
  | .str l => match xbnd hi l.length, xbnd lo 0 with
    | some h, some a => onB (Nat.ble a h && Nat.ble h l.length) (some (.str ((l.take h).drop a)))
    | _, _ => none
  | .slice a e i n cap => match xbnd hi n, xbnd lo 0 with
    | some h, some b => onB (Nat.beq e esz && (Nat.ble b h && (Nat.ble h n && (Nat.ble (b + 1) (cap.getD n) || Nat.beq b h)))) (some (aslcV a e i n cap h b))
    | _, _ => none
  | .fslice es => match xbnd hi es.length, xbnd lo 0 with
    | some h, some b => onB (allLen es esz && (Nat.ble b h && Nat.ble h es.length)) (some (.fslice ((es.take h).drop b)))
    | _, _ => none
  | .gs _ _ es => match xbnd hi es.length, xbnd lo 0 with
    | some h, some b => onB (allLen es esz && (Nat.ble b h && Nat.ble h es.length)) (some (.fslice ((es.take h).drop b)))
    | _, _ => none
  | .lit (.slice none 0 0) => match xbnd hi 0, xbnd lo 0 with
    | some h, some b => onB (Nat.beq b 0 && Nat.beq h 0) (some (.lit (.slice none 0 0)))
    | _, _ => none
  | _ => none
theorem xslc_ok {x : AVal} {lo hi : Option AVal} {esz : Nat} {v : AVal} (hx : xslc x lo hi esz = some v) {K : AVal → Prop} (hk : K v) : ASlice x lo hi esz K := by
  unfold xslc at hx
  unfold ASlice
  split at hx
  · split at hx
    · rename_i a b e1 e2
      obtain ⟨h1, h2⟩ := onB_some hx; cases h2
      simp only [Bool.and_eq_true] at h1
      exact xbnd_ok e1 (xbnd_ok e2 ⟨Nat.le_of_ble_eq_true h1.1, Nat.le_of_ble_eq_true h1.2, hk⟩)
    · cases hx
  · split at hx
    · rename_i a b e1 e2
      obtain ⟨h1, h2⟩ := onB_some hx; cases h2
      simp only [Bool.and_eq_true] at h1
      exact xbnd_ok e1 (xbnd_ok e2 ⟨Nat.eq_of_beq_eq_true h1.1, Nat.le_of_ble_eq_true h1.2.1, Nat.le_of_ble_eq_true h1.2.2.1, (by
        have := h1.2.2.2
        simp only [Bool.or_eq_true] at this
        exact this.imp Nat.le_of_ble_eq_true Nat.eq_of_beq_eq_true), hk⟩)
    · cases hx
  · split at hx
    · rename_i a b e1 e2
      obtain ⟨h1, h2⟩ := onB_some hx; cases h2
      simp only [Bool.and_eq_true] at h1
      exact xbnd_ok e1 (xbnd_ok e2 ⟨allLen_ok h1.1, Nat.le_of_ble_eq_true h1.2.1, Nat.le_of_ble_eq_true h1.2.2, hk⟩)
    · cases hx
  · split at hx
    · rename_i a b e1 e2
      obtain ⟨h1, h2⟩ := onB_some hx; cases h2
      simp only [Bool.and_eq_true] at h1
      exact xbnd_ok e1 (xbnd_ok e2 ⟨allLen_ok h1.1, Nat.le_of_ble_eq_true h1.2.1, Nat.le_of_ble_eq_true h1.2.2, hk⟩)
    · cases hx
  · split at hx
    · rename_i a b e1 e2
      obtain ⟨h1, h2⟩ := onB_some hx; cases h2
      simp only [Bool.and_eq_true] at h1
      exact xbnd_ok e1 (xbnd_ok e2 ⟨Nat.eq_of_beq_eq_true h1.1, Nat.eq_of_beq_eq_true h1.2, hk⟩)
    · cases hx
  · cases hx
noncomputable def xfill (ps : List (Nat × Nat)) : List AVal → List (Nat × AVal) → Option (List AVal)
  | cells, [] => some cells
  | cells, (i, v) :: rest => match ps[i]?, acells v with
    | some p, some cs => match Nat.beq cs.length p.2 && Nat.ble (p.1 + p.2) cells.length with
      | true => xfill ps (cells.take p.1 ++ (cs ++ cells.drop (p.1 + p.2))) rest
      | false => none
    | _, _ => none
theorem xfill_ok {ps : List (Nat × Nat)} {K : List AVal → Prop} : ∀ (q : List (Nat × AVal)) (cells : List AVal) (r : List AVal), xfill ps cells q = some r → K r → AFill ps cells q K
  | [], cells, r, hx, hk => by cases hx; exact hk
  | (i, v) :: rest, cells, r, hx, hk => by
    simp only [xfill] at hx
    split at hx
    · rename_i p cs h1 h2
      split at hx
      · rename_i h3
        simp only [Bool.and_eq_true] at h3
        exact ⟨p, cs, h1, h2, Nat.eq_of_beq_eq_true h3.1, Nat.le_of_ble_eq_true h3.2, xfill_ok rest _ r hx hk⟩
      · cases hx
    · cases hx
noncomputable def xset (esz : Nat) : List (List AVal) → List (Nat × AVal) → Option (List (List AVal))
  | es, [] => some es
  | es, (i, v) :: rest => match acells v with
    | some cs => match Nat.beq cs.length esz && Nat.ble (i + 1) es.length with
      | true => xset esz (es.set i cs) rest
      | false => none
    | none => none
theorem xset_ok {esz : Nat} {K : List (List AVal) → Prop} : ∀ (q : List (Nat × AVal)) (es r : List (List AVal)), xset esz es q = some r → K r → ASet esz es q K
  | [], es, r, hx, hk => by cases hx; exact hk
  | (i, v) :: rest, es, r, hx, hk => by
    simp only [xset] at hx
    split at hx
    · rename_i cs h1
      split at hx
      · rename_i h3
        simp only [Bool.and_eq_true] at h3
        exact ⟨cs, h1, Nat.eq_of_beq_eq_true h3.1, Nat.le_of_ble_eq_true h3.2, xset_ok rest _ r hx hk⟩
      · cases hx
    · cases hx
noncomputable def xels (h : RH) (x : AVal) (esz : Nat) : Option (List (List AVal)) :=
  match x with
  | .slice a e i n _ => match h.get a with
    | some (.rows es) => onB (Nat.beq e esz && Nat.ble (i + n) es.length) (some ((es.drop i).take n))
    | _ => none
  | .fslice es => onB (allLen es esz) (some es)
  | .gs _ _ es => onB (allLen es esz) (some es)
  | .str l => onB (Nat.beq esz 1) (some (l.map fun c => [.lit (.int .u8 c.toNat)]))
  | .lit (.slice none 0 0) => some []
  | .eslice => some []
  | _ => none
theorem xels_ok {h : RH} {x : AVal} {esz : Nat} {es : List (List AVal)} (hx : xels h x esz = some es) {K : List (List AVal) → Prop} (hk : K es) : AElems h.abs x esz K := by
  unfold xels at hx
  simp only [RH.get_eq] at hx
  unfold AElems
  split at hx
  · split at hx
    · rename_i es he
      obtain ⟨h1, h2⟩ := onB_some hx; cases h2
      simp only [Bool.and_eq_true] at h1
      exact ⟨es, he, Nat.eq_of_beq_eq_true h1.1, Nat.le_of_ble_eq_true h1.2, hk⟩
    · cases hx
  · obtain ⟨h1, h2⟩ := onB_some hx; cases h2; exact ⟨allLen_ok h1, hk⟩
  · obtain ⟨h1, h2⟩ := onB_some hx; cases h2; exact ⟨allLen_ok h1, hk⟩
  · obtain ⟨h1, h2⟩ := onB_some hx; cases h2; exact ⟨Nat.eq_of_beq_eq_true h1, hk⟩
  · cases hx; exact hk
  · cases hx; exact hk
  · cases hx
noncomputable def xapp1 (h : RH) (s : AVal) (esz : Nat) (new : List (List AVal)) : Option (AVal × RH × List Nat) :=
  match s with
  | .lit (.slice none 0 0) => onB (Nat.ble new.length 4294967296) (match new with
    | [] => some (s, h, [])
    | n :: ns => some (.slice h.n esz 0 (ns.length + 1) none, h.push (some (.rows (n :: ns))), []))
  | .slice a e i len none => match h.get a with
    | some (.rows es) => onB (Nat.beq e esz && (Nat.ble (i + len) es.length && Nat.ble (len + new.length) 4294967296)) (some (.slice h.n esz 0 (len + new.length) none, (h.put a none).push (some (.rows ((es.drop i).take len ++ new))), [a]))
    | _ => none
  | .slice a e i len (some c) => match h.get a with
    | some (.rows es) => onB (Nat.beq e esz && (Nat.ble (i + c) es.length && (Nat.ble len c && Nat.ble (len + new.length) 4294967296)))
      (match Nat.ble (len + new.length) c with
      | true => some (.slice a esz i (len + new.length) (some c), h.put a (some (.rows (es.take (i + len) ++ (new ++ es.drop (i + len + new.length))))), [a])
      | false => some (.slice h.n esz 0 (len + new.length) none, h.push (some (.rows ((es.drop i).take len ++ new))), []))
    | _ => none
  | .gs tok e es => match h.get tok with
    | some (.tok e' n) => onB (Nat.beq e esz && (Nat.beq e' esz && (Nat.beq n es.length && Nat.ble (es.length + new.length) 4294967296))) (some (.gs tok esz (es ++ new), h.put tok (some (.tok esz (es.length + new.length))), [tok]))
    | _ => none
  | _ => none
structure Goes' (h : AHeap) (w : List Nat) (h' : AHeap) : Prop where
  len : h.length ≤ h'.length
  old : ∀ a, a < h.length → a ∉ w → hget h' a = hget h a
  gone : ∀ a, a < h.length → hget h a = none → hget h' a = none
  loop : ∀ a n t ps as bo st pe d, hget h a = some (.loop n t ps as bo st pe d) → hget h' a = none ∨ ∃ st' pe', hget h' a = some (.loop n t ps as bo st' pe' d)
theorem Goes'.refl (h : AHeap) : Goes' h [] h := ⟨Nat.le_refl _, fun _ _ _ => rfl, fun _ _ e => e, fun a n t ps as bo st pe d e => .inr ⟨st, pe, e⟩⟩
theorem Goes'.trans {h h1 h2 : AHeap} {w w1 : List Nat} (a : Goes' h w h1) (b : Goes' h1 w1 h2) : Goes' h (w1 ++ w) h2 := by
  refine ⟨Nat.le_trans a.len b.len, fun x hx hn => ?_, fun x hx e => b.gone x (Nat.lt_of_lt_of_le hx a.len) (a.gone x hx e), fun x n t ps as bo st pe d e => ?_⟩
  · simp only [List.mem_append, not_or] at hn
    rw [b.old x (Nat.lt_of_lt_of_le hx a.len) hn.1, a.old x hx hn.2]
  · rcases a.loop x n t ps as bo st pe d e with e1 | ⟨st', pe', e1⟩
    · exact .inl (b.gone x (Nat.lt_of_lt_of_le (hget_lt e) a.len) e1)
    · exact b.loop x n t ps as bo st' pe' d e1
theorem Goes'.snoc (h : AHeap) (l : AHeap) : Goes' h [] (h ++ l) :=
  ⟨by simp, fun a ha _ => hget_append_old ha, fun a ha e => by rw [hget_append_old ha]; exact e, fun a n t ps as bo st pe d e => .inr ⟨st, pe, by rw [hget_append_old (hget_lt e)]; exact e⟩⟩
theorem Goes'.set {h : AHeap} {a : Nat} {x : AObj} (hx : hget h a = some x) (hn : ∀ n t ps as bo st pe d, x ≠ .loop n t ps as bo st pe d) (o : Option AObj) : Goes' h [a] (h.set a o) := by
  refine ⟨by simp, fun b hb hne => hget_set_ne (fun e => hne (by simp [e])) o, fun b hb e => ?_, fun b n t ps as bo st pe d e => ?_⟩
  · by_cases hab : a = b
    · subst hab; rw [hx] at e; cases e
    · rw [hget_set_ne hab]; exact e
  · by_cases hab : a = b
    · subst hab; rw [hx] at e; cases e; exact absurd rfl (hn _ _ _ _ _ _ _ _)
    · exact .inr ⟨st, pe, by rw [hget_set_ne hab]; exact e⟩
theorem Goes'.setLoop {h : AHeap} {a : Nat} {n : Nat} {t : ATab} {ps : Array Tmp} {as bo : Code} {st : LoopState} {pe : Option Code} {d : Nat} (hx : hget h a = some (.loop n t ps as bo st pe d)) (st' : LoopState) (pe' : Option Code) :
    Goes' h [a] (h.set a (some (.loop n t ps as bo st' pe' d))) := by
  refine ⟨by simp, fun b hb hne => hget_set_ne (fun e => hne (by simp [e])) _, fun b hb e => ?_, fun b n2 t2 ps2 as2 bo2 st2 pe2 d2 e => ?_⟩
  · by_cases hab : a = b
    · subst hab; rw [hx] at e; cases e
    · rw [hget_set_ne hab]; exact e
  · by_cases hab : a = b
    · subst hab; rw [hx] at e; cases e; exact .inr ⟨st', pe', hget_set_same (hget_lt hx) _⟩
    · exact .inr ⟨st2, pe2, by rw [hget_set_ne hab]; exact e⟩
theorem Goes'.setNone {h : AHeap} (a : Nat) : Goes' h [a] (h.set a none) := by
  refine ⟨by simp, fun b hb hne => hget_set_ne (fun e => hne (by simp [e])) _, fun b hb e => ?_, fun b n2 t2 ps2 as2 bo2 st2 pe2 d2 e => ?_⟩
  · by_cases hab : a = b
    · subst hab; exact hget_set_same hb _
    · rw [hget_set_ne hab]; exact e
  · by_cases hab : a = b
    · subst hab; exact .inl (hget_set_same (hget_lt e) _)
    · exact .inr ⟨st2, pe2, by rw [hget_set_ne hab]; exact e⟩
theorem xapp1_ok {h : RH} {s : AVal} {esz : Nat} {new : List (List AVal)} {v : AVal} {h' : RH} {w : List Nat} (hx : xapp1 h s esz new = some (v, h', w)) :
    Goes' h.abs w h'.abs ∧ ∀ {K : AVal → AHeap → Prop}, K v h'.abs → AApp1 h.abs s esz new K := by
  unfold xapp1 at hx
  simp only [RH.get_eq, RH.n_eq] at hx
  split at hx
  · obtain ⟨h1, h2⟩ := onB_some hx
    split at h2
    · cases h2; exact ⟨.refl _, fun hk => ⟨Nat.le_of_ble_eq_true h1, fun _ => hk, fun e => absurd rfl e⟩⟩
    · cases h2; rw [RH.abs_push]; exact ⟨.snoc _ _, fun hk => ⟨Nat.le_of_ble_eq_true h1, fun e => (by cases e), fun _ => hk⟩⟩
  · split at hx
    · rename_i es he
      obtain ⟨h1, h2⟩ := onB_some hx
      cases h2
      simp only [Bool.and_eq_true] at h1
      rw [RH.abs_push, RH.abs_put]
      exact ⟨(Goes'.set he (fun _ _ _ _ _ _ _ _ => by simp) none).trans (Goes'.snoc _ _), fun hk => ⟨es, he, Nat.eq_of_beq_eq_true h1.1, Nat.le_of_ble_eq_true h1.2.1, Nat.le_of_ble_eq_true h1.2.2, hk⟩⟩
    · cases hx
  · split at hx
    · rename_i es he
      obtain ⟨h1, h2⟩ := onB_some hx
      simp only [Bool.and_eq_true] at h1
      split at h2
      · rename_i hb
        cases h2
        rw [RH.abs_put']
        refine ⟨Goes'.set he (fun _ _ _ _ _ _ _ _ => by simp) _, fun hk => ⟨es, he, Nat.eq_of_beq_eq_true h1.1, Nat.le_of_ble_eq_true h1.2.1, Nat.le_of_ble_eq_true h1.2.2.1, Nat.le_of_ble_eq_true h1.2.2.2, fun _ => hk, fun e => ?_⟩⟩
        have := Nat.le_of_ble_eq_true hb; omega
      · rename_i hb
        cases h2
        rw [RH.abs_push]
        refine ⟨.snoc _ _, fun hk => ⟨es, he, Nat.eq_of_beq_eq_true h1.1, Nat.le_of_ble_eq_true h1.2.1, Nat.le_of_ble_eq_true h1.2.2.1, Nat.le_of_ble_eq_true h1.2.2.2, fun e => ?_, fun _ => hk⟩⟩
        rw [Nat.ble_eq_true_of_le e] at hb; cases hb
    · cases hx
  · split at hx
    · rename_i e' n he
      obtain ⟨h1, h2⟩ := onB_some hx
      cases h2
      simp only [Bool.and_eq_true] at h1
      have e1 := Nat.eq_of_beq_eq_true h1.1
      have e2 := Nat.eq_of_beq_eq_true h1.2.1
      have e3 := Nat.eq_of_beq_eq_true h1.2.2.1
      subst e2; subst e3
      rw [RH.abs_put']
      exact ⟨Goes'.set he (fun _ _ _ _ _ _ _ _ => by simp) _, fun hk => ⟨e1, he, Nat.le_of_ble_eq_true h1.2.2.2, hk⟩⟩
    · cases hx
  · cases hx
noncomputable def xmm (mx : Bool) (k : IntKind) (x : Int) : List AVal → Option AVal
  | [] => some (.lit (.int k x))
  | .lit (.int _ y) :: r => xmm mx k (if mx then (if x < y then y else x) else (if y < x then y else x)) r
  | _ => none
theorem xmm_ok {mx : Bool} {k : IntKind} {K : AVal → Prop} : ∀ (l : List AVal) (x : Int) (v : AVal), xmm mx k x l = some v → K v → AMm mx k x l K
  | [], x, v, hx, hk => by cases hx; exact hk
  | a :: r, x, v, hx, hk => by
    unfold xmm at hx
    unfold AMm
    split at hx
    · rename_i e; cases e
    · rename_i e; cases e; exact xmm_ok r _ v hx hk
    · cases hx
noncomputable def xcopy (h : RH) (d s : AVal) (esz : Nat) : Option (AVal × RH × List Nat) :=
  match d with
  | .slice a e i n _ => match h.get a with
    | some (.rows es) => match onB (Nat.beq e esz && Nat.ble (i + n) es.length) (xels h (ashort s n) esz) with
      | some new => some (.lit (.int .i64 new.length), h.put a (some (.rows (es.take i ++ (new ++ es.drop (i + new.length))))), [a])
      | none => none
    | _ => none
  | _ => none
theorem xcopy_ok {h : RH} {d s : AVal} {esz : Nat} {v : AVal} {h' : RH} {w : List Nat} (hx : xcopy h d s esz = some (v, h', w)) : Goes' h.abs w h'.abs ∧ ∀ {K : AVal → AHeap → Prop}, K v h'.abs → ACopy h.abs d s esz K := by
  unfold xcopy at hx
  simp only [RH.get_eq] at hx
  split at hx
  · split at hx
    · rename_i es he
      split at hx
      · rename_i new hn
        obtain ⟨h1, h2⟩ := onB_some hn
        simp only [Bool.and_eq_true] at h1
        cases hx
        rw [RH.abs_put']
        refine ⟨Goes'.set he (fun _ _ _ _ _ _ _ _ => by simp) _, fun {K} hk => ⟨es, he, Nat.eq_of_beq_eq_true h1.1, Nat.le_of_ble_eq_true h1.2, xels_ok (K := fun new => K (.lit (.int .i64 new.length)) (hset h.abs _ (.rows (es.take _ ++ (new ++ es.drop (_ + new.length)))))) h2 hk⟩⟩
      · cases hx
    · cases hx
  · cases hx
noncomputable def xo_move (x : AOpd) (t : ATab) (h : RH) : Option (AVal × RH × List Nat) :=
  some (t.ev x, h, [])
noncomputable def xo_pick (c : AOpd) (a : AOpd) (b : AOpd) (t : ATab) (h : RH) : Option (AVal × RH × List Nat) :=
  (match t.ev c with
    | .lit (.bool true) => some (t.ev a, h, [])
    | .lit (.bool false) => some (t.ev b, h, [])
    | _ => none)
noncomputable def xo_load (x : AOpd) (n : Nat) (agg : Bool) (t : ATab) (h : RH) : Option (AVal × RH × List Nat) :=
  match xld h (t.ev x) n agg with | some v => some (v, h, []) | none => none
noncomputable def xo_store (x : AOpd) (v : AOpd) (n : Nat) (t : ATab) (h : RH) : Option (AVal × RH × List Nat) :=
  match xst h (t.ev x) (t.ev v) n with | some (h', a) => some (.junk, h', [a]) | none => none
noncomputable def xo_nilCheck (x : AOpd) (t : ATab) (h : RH) : Option (AVal × RH × List Nat) :=
  (match t.ev x with
    | .ptr .. | .fptr .. | .iter _ | .slice .. | .map _ | .fmap _ | .func (.func _) _ _ | .yieldf _ | .iface _ _ => some (t.ev x, h, [])
    | _ => none)
noncomputable def xo_bin (safe : Bool) (q : EqK) (op : BinOp) (x : AOpd) (y : AOpd) (t : ATab) (h : RH) : Option (AVal × RH × List Nat) :=
  onB (safe || (t.ev x).notNilI || (t.ev y).notNilI) (match xbin q op (t.ev x) (t.ev y) with | some v => some (v, h, []) | none => none)
noncomputable def xo_un (op : UnOp) (x : AOpd) (t : ATab) (h : RH) : Option (AVal × RH × List Nat) :=
  (match op, t.ev x with
    | .not, .lit (.bool b) => some (.lit (.bool (!b)), h, [])
    | .neg, .lit (.int k n) => some (.lit (.int k (k.wrap (0 - n))), h, [])
    | .xor, .lit (.int k n) => some (.lit (.int k (bits .xor k (if k.signed then -1 else k.max) n)), h, [])
    | _, _ => none)
noncomputable def xo_conv (q : ConvK) (x : AOpd) (t : ATab) (h : RH) : Option (AVal × RH × List Nat) :=
  (match q, t.ev x with
    | .int k, .lit (.int _ n) => some (.lit (.int k (k.wrap n)), h, [])
    | .same, .str l => some (.str l, h, [])
    | _, _ => none)
noncomputable def xo_fieldAddr (x : AOpd) (off : Nat) (t : ATab) (h : RH) : Option (AVal × RH × List Nat) :=
  (match t.ev x with
    | .ptr a i o => some (.ptr a i (o + off), h, [])
    | .fptr cs o => some (.fptr cs (o + off), h, [])
    | _ => none)
noncomputable def xo_field (x : AOpd) (off : Nat) (n : Nat) (agg : Bool) (t : ATab) (h : RH) : Option (AVal × RH × List Nat) :=
  (match t.ev x with
    | .agg cs => onB (Nat.ble (off + n) cs.length) (some (mkv agg n (cs.drop off), h, []))
    | _ => none)
noncomputable def xo_indexAddr (x : AOpd) (i : AOpd) (esz : Nat) (t : ATab) (h : RH) : Option (AVal × RH × List Nat) :=
  match xidx (t.ev x) (t.ev i) esz with | some v => some (v, h, []) | none => none
noncomputable def xo_index (x : AOpd) (i : AOpd) (t : ATab) (h : RH) : Option (AVal × RH × List Nat) :=
  (match t.ev x, t.ev i with
    | .str l, .lit (.int _ n) => onB (decide (0 ≤ n)) (match l[n.toNat]? with | some c => some (.lit (.int .u8 c.toNat), h, []) | none => none)
    | _, _ => none)
noncomputable def xo_alloc (z : List AVal) (t : ATab) (h : RH) : Option (AVal × RH × List Nat) :=
  some (.ptr h.n 0 0, h.push (some (.rows [z])), [])
noncomputable def xo_box (x : AOpd) (t : ATab) (h : RH) : Option (AVal × RH × List Nat) :=
  match acells (t.ev x) with | some cs => some (.ptr h.n 0 0, h.push (some (.rows [cs])), []) | none => none
noncomputable def xo_build (z : List AVal) (ps : List (Nat × Nat)) (parts : List (Nat × AOpd)) (t : ATab) (h : RH) : Option (AVal × RH × List Nat) :=
  match xfill ps z (parts.map fun q => (q.1, t.ev q.2)) with | some cs => some (.agg cs, h, []) | none => none
noncomputable def xo_buildSlice (z : List AVal) (n : Nat) (parts : List (Nat × AOpd)) (t : ATab) (h : RH) : Option (AVal × RH × List Nat) :=
  onB (Nat.ble (n * z.length) 16777216) (match xset z.length (List.replicate n z) (parts.map fun q => (q.1, t.ev q.2)) with
    | some es => some (.slice h.n z.length 0 n (some n), h.push (some (.rows es)), [])
    | none => none)
noncomputable def xo_makeSlice (z : List AVal) (len : AOpd) (cap : AOpd) (t : ATab) (h : RH) : Option (AVal × RH × List Nat) :=
  (match t.ev len, t.ev cap with
    | .lit (.int _ n), .lit (.int _ c) => onB (decide (0 ≤ n) && (decide (n ≤ c) && decide (c ≤ 4294967296))) (some (.slice h.n z.length 0 n.toNat (some c.toNat), h.push (some (.rows (List.replicate c.toNat z))), []))
    | _, _ => none)
noncomputable def xo_iface (ty : TypeId) (x : AOpd) (t : ATab) (h : RH) : Option (AVal × RH × List Nat) :=
  some (.iface ty (t.ev x), h, [])
noncomputable def xo_func (fn : Fn) (first : List AOpd) (cap : List AOpd) (t : ATab) (h : RH) : Option (AVal × RH × List Nat) :=
  some (.func fn (first.map t.ev) (cap.map t.ev), h, [])
noncomputable def xo_extract (x : AOpd) (i : Nat) (t : ATab) (h : RH) : Option (AVal × RH × List Nat) :=
  (match t.ev x with
    | .tuple vs => match vs[i]? with | some v => some (v, h, []) | none => none
    | _ => none)
noncomputable def xo_slice (s : Bool) (x : AOpd) (lo : Option AOpd) (hi : Option AOpd) (esz : Nat) (t : ATab) (h : RH) : Option (AVal × RH × List Nat) :=
  onB (match (t.ev x).isStr, s with | true, true => true | false, false => true | _, _ => false) (match xslc (t.ev x) (lo.map t.ev) (hi.map t.ev) esz with | some v => some (v, h, []) | none => none)
noncomputable def xo_len (q : EqK) (x : AOpd) (t : ATab) (h : RH) : Option (AVal × RH × List Nat) :=
  match (t.ev x).lenForm with
    | some q' => onB (eqkB q' q) (match xlen (t.ev x) h with | some v => some (v, h, []) | none => none)
    | none => none
noncomputable def xo_append (esz : Nat) (s : AOpd) (x : AOpd) (t : ATab) (h : RH) : Option (AVal × RH × List Nat) :=
  match xels h (t.ev x) esz with | some new => xapp1 h (t.ev s) esz new | none => none
noncomputable def xo_idxA (x : AOpd) (i : AOpd) (len : Nat) (esz : Nat) (t : ATab) (h : RH) : Option (AVal × RH × List Nat) :=
  (match t.ev x, t.ev i with
    | .ptr a k off, .lit (.int _ n) => onB (decide (0 ≤ n) && decide (n < len)) (some (.ptr a k (off + n.toNat * esz), h, []))
    | .fptr cs off, .lit (.int _ n) => onB (decide (0 ≤ n) && decide (n < len)) (some (.fptr cs (off + n.toNat * esz), h, []))
    | _, _ => none)
noncomputable def xo_makeMap  (t : ATab) (h : RH) : Option (AVal × RH × List Nat) :=
  some (.map h.n, h.push (some (.map [])), [])
noncomputable def xo_mapPut (q : Bool) (m : AOpd) (k : AOpd) (v : AOpd) (t : ATab) (h : RH) : Option (AVal × RH × List Nat) :=
  (match t.ev m with
    | .map a => (match h.get a with
      | some (.map es) => (match onB (keyOk q (t.ev k)) (mfind (t.ev k) es 0) with
        | some r => some (.junk, h.put a (some (.map (mput (t.ev k) (t.ev v) r es))), [a])
        | none => none)
      | _ => none)
    | _ => none)
noncomputable def xo_mapGet (q : Bool) (z : AVal) (x : AOpd) (k : AOpd) (ok : Bool) (t : ATab) (h : RH) : Option (AVal × RH × List Nat) :=
  (match t.ev x with
    | .map a => (match h.get a with
      | some (.map es) => (match onB (keyOk q (t.ev k)) (mfind (t.ev k) es 0) with
        | some r => some (match r with
          | some (_, v) => if ok then .tuple [v, .lit (.bool true)] else v
          | none => if ok then .tuple [z, .lit (.bool false)] else z, h, [])
        | none => none)
      | _ => none)
    | _ => none)
noncomputable def xo_minMax (mx : Bool) (args : List AOpd) (t : ATab) (h : RH) : Option (AVal × RH × List Nat) :=
  (match args.map t.ev with
    | .lit (.int k x) :: r => match xmm mx k x r with | some v => some (v, h, []) | none => none
    | _ => none)
noncomputable def xo_copy (e : Nat) (d : AOpd) (s : AOpd) (t : ATab) (h : RH) : Option (AVal × RH × List Nat) :=
  xcopy h (t.ev d) (t.ev s) e
noncomputable def xop : XOp → ATab → RH → Option (AVal × RH × List Nat)
  | .move x => xo_move x
  | .pick c a b => xo_pick c a b
  | .load x n agg => xo_load x n agg
  | .store x v n => xo_store x v n
  | .nilCheck x => xo_nilCheck x
  | .bin safe q op x y => xo_bin safe q op x y
  | .un op x => xo_un op x
  | .conv q x => xo_conv q x
  | .fieldAddr x off => xo_fieldAddr x off
  | .field x off n agg => xo_field x off n agg
  | .indexAddr x i esz => xo_indexAddr x i esz
  | .index x i => xo_index x i
  | .alloc z => xo_alloc z
  | .box x => xo_box x
  | .build z ps parts => xo_build z ps parts
  | .buildSlice z n parts => xo_buildSlice z n parts
  | .makeSlice z len cap => xo_makeSlice z len cap
  | .iface ty x => xo_iface ty x
  | .func fn first cap => xo_func fn first cap
  | .extract x i => xo_extract x i
  | .slice s x lo hi esz => xo_slice s x lo hi esz
  | .len q x => xo_len q x
  | .append esz s x => xo_append esz s x
  | .idxA x i len esz => xo_idxA x i len esz
  | .makeMap => xo_makeMap
  | .mapPut q m k v => xo_mapPut q m k v
  | .mapGet q z x k ok => xo_mapGet q z x k ok
  | .minMax mx args => xo_minMax mx args
  | .copy e d s => xo_copy e d s
  | .bad => fun _ _ => none
  | .call _ _ => fun _ _ => none
theorem xop_ok {P : Program} {o : XOp} {t : ATab} {h : RH} {v : AVal} {h' : RH} {w : List Nat} (hx : xop o t h = some (v, h', w)) : Goes' h.abs w h'.abs ∧ ∀ {K : AVal → AHeap → Prop}, K v h'.abs → XOp1 P o t h.abs K := by
  have r := Goes'.refl h.abs
  cases o <;> simp only [xop, xo_move, xo_pick, xo_load, xo_store, xo_nilCheck, xo_bin, xo_un, xo_conv, xo_fieldAddr, xo_field, xo_indexAddr, xo_index, xo_alloc, xo_box, xo_build, xo_buildSlice, xo_makeSlice, xo_iface, xo_func, xo_extract, xo_slice, xo_len, xo_append, xo_idxA, xo_makeMap, xo_mapPut, xo_mapGet, xo_minMax, xo_copy, RH.get_eq, RH.n_eq, Option.some.injEq, Prod.mk.injEq, reduceCtorEq] at hx
  case move x => obtain ⟨rfl, rfl, rfl⟩ := hx; exact ⟨r, fun hk => hk⟩
  case pick c a b =>
    split at hx
    · rename_i e; cases hx; exact ⟨r, fun hk => by simp only [XOp1]; rw [e]; exact ⟨fun _ => hk, fun e => (by cases e)⟩⟩
    · rename_i e; cases hx; exact ⟨r, fun hk => by simp only [XOp1]; rw [e]; exact ⟨fun e => (by cases e), fun _ => hk⟩⟩
    · cases hx
  case load x n agg =>
    split at hx
    · rename_i u e; cases hx; exact ⟨r, fun {K} hk => xld_ok (K := fun v => K v h.abs) e hk⟩
    · cases hx
  case store x u n =>
    split at hx
    · rename_i k a e
      cases hx
      obtain ⟨⟨es, q, g1, g2⟩, g3⟩ := xst_ok e
      refine ⟨?_, fun hk => g3 hk⟩
      rw [g2]
      exact Goes'.set g1 (fun _ _ _ _ _ _ _ _ => by simp) _
    · cases hx
  case nilCheck x =>
    split at hx <;> first | (cases hx; done) | skip
    all_goals (rename_i e; cases hx; exact ⟨r, fun hk => by simp only [XOp1, ANilc]; simp only [e] at hk ⊢; exact hk⟩)
  case bin s q op x y =>
    obtain ⟨h1, h2⟩ := onB_some hx
    split at h2
    · rename_i u e; cases h2; exact ⟨r, fun hk => ⟨h1, xbin_ok e hk⟩⟩
    · cases h2
  case un op x =>
    split at hx <;> first | (cases hx; done) | skip
    all_goals (rename_i e; cases hx; exact ⟨r, fun hk => by simp only [XOp1, AUn, e]; exact hk⟩)
  case conv q x =>
    split at hx <;> first | (cases hx; done) | skip
    all_goals (rename_i e; cases hx; exact ⟨r, fun hk => by simp only [XOp1, AConv, e]; exact hk⟩)
  case fieldAddr x off =>
    split at hx <;> first | (cases hx; done) | skip
    all_goals (rename_i e; cases hx; exact ⟨r, fun hk => by simp only [XOp1, AField, e]; exact hk⟩)
  case field x off n agg =>
    split at hx <;> first | (cases hx; done) | skip
    rename_i e
    obtain ⟨h1, h2⟩ := onB_some hx
    cases h2; exact ⟨r, fun hk => by simp only [XOp1, AFieldV, e]; exact ⟨Nat.le_of_ble_eq_true h1, hk⟩⟩
  case indexAddr x i esz =>
    split at hx
    · rename_i u e; cases hx; exact ⟨r, fun {K} hk => xidx_ok (K := fun v => K v h.abs) e hk⟩
    · cases hx
  case index x i =>
    split at hx <;> first | (cases hx; done) | skip
    rename_i e1 e2
    obtain ⟨h1, h2⟩ := onB_some hx
    split at h2
    · rename_i c hc; cases h2; exact ⟨r, fun hk => by simp only [XOp1, AIndexS, e1, e2]; exact ⟨of_decide_eq_true h1, c, hc, hk⟩⟩
    · cases h2
  case alloc z => obtain ⟨rfl, rfl, rfl⟩ := hx; rw [RH.abs_push]; exact ⟨.snoc _ _, fun hk => hk⟩
  case box x =>
    split at hx
    · rename_i cs e; cases hx; rw [RH.abs_push]; exact ⟨.snoc _ _, fun hk => by simp only [XOp1, e]; exact hk⟩
    · cases hx
  case build z ps parts =>
    split at hx
    · rename_i cs e; cases hx; exact ⟨r, fun hk => xfill_ok _ _ _ e hk⟩
    · cases hx
  case buildSlice z n parts =>
    obtain ⟨h1, h2⟩ := onB_some hx
    split at h2
    · rename_i es e; cases h2; rw [RH.abs_push]; exact ⟨.snoc _ _, fun hk => ⟨Nat.le_of_ble_eq_true h1, xset_ok _ _ _ e hk⟩⟩
    · cases h2
  case makeSlice z a b =>
    split at hx <;> first | (cases hx; done) | skip
    rename_i e1 e2
    obtain ⟨h1, h2⟩ := onB_some hx
    cases h2
    simp only [Bool.and_eq_true, decide_eq_true_eq] at h1
    rw [RH.abs_push]; exact ⟨.snoc _ _, fun hk => by simp only [XOp1, AMakeS, e1, e2]; exact ⟨h1.1, h1.2.1, h1.2.2, hk⟩⟩
  case iface ty x => obtain ⟨rfl, rfl, rfl⟩ := hx; exact ⟨r, fun hk => hk⟩
  case func fn f c => obtain ⟨rfl, rfl, rfl⟩ := hx; exact ⟨r, fun hk => hk⟩
  case extract x i =>
    split at hx <;> first | (cases hx; done) | skip
    rename_i e
    split at hx
    · rename_i u hu; cases hx; exact ⟨r, fun hk => by simp only [XOp1, e, hu]; exact hk⟩
    · cases hx
  case slice s x lo hi esz =>
    obtain ⟨h1, h2⟩ := onB_some hx
    split at h2
    · rename_i u e
      cases h2
      refine ⟨r, fun hk => ⟨?_, xslc_ok e hk⟩⟩
      revert h1
      generalize (t.ev x).isStr = b
      cases b <;> cases s <;> simp
    · cases h2
  case len q x =>
    split at hx
    · rename_i q' e
      obtain ⟨h1, h2⟩ := onB_some hx
      split at h2
      · rename_i u hu; cases h2; exact ⟨r, fun hk => ⟨by rw [e, eqkB_ok h1], xlen_ok hu hk⟩⟩
      · cases h2
    · cases hx
  case idxA x i len esz =>
    split at hx <;> first | (cases hx; done) | skip
    all_goals (rename_i e1 e2; obtain ⟨h1, h2⟩ := onB_some hx; cases h2; simp only [Bool.and_eq_true, decide_eq_true_eq] at h1; exact ⟨r, fun hk => by simp only [XOp1, AIdxA, e1, e2]; exact ⟨h1.1, h1.2, hk⟩⟩)
  case makeMap => obtain ⟨rfl, rfl, rfl⟩ := hx; rw [RH.abs_push]; exact ⟨.snoc _ _, fun hk => hk⟩
  case mapPut q m k v =>
    split at hx <;> first | (cases hx; done) | skip
    rename_i a e
    split at hx <;> first | (cases hx; done) | skip
    rename_i es he
    split at hx
    · rename_i f hf
      obtain ⟨h1, h2⟩ := onB_some hf
      cases hx
      rw [RH.abs_put']
      refine ⟨Goes'.set he (fun _ _ _ _ _ _ _ _ => by simp) _, fun hk => ?_⟩
      simp only [XOp1, AMapPut, e]
      exact ⟨es, f, he, h1, h2, hk⟩
    · cases hx
  case mapGet q z x k ok =>
    split at hx <;> first | (cases hx; done) | skip
    rename_i a e
    split at hx <;> first | (cases hx; done) | skip
    rename_i es he
    split at hx
    · rename_i f hf
      obtain ⟨h1, h2⟩ := onB_some hf
      simp only [Option.some.injEq, Prod.mk.injEq] at hx
      obtain ⟨rfl, rfl, rfl⟩ := hx
      refine ⟨r, fun hk => ?_⟩
      simp only [XOp1, AMapGet, e]
      exact ⟨es, f, he, h1, h2, hk⟩
    · cases hx
  case minMax mx args =>
    split at hx <;> first | (cases hx; done) | skip
    rename_i k z rr e
    split at hx
    · rename_i u hu
      cases hx
      refine ⟨r, fun {K} hk => ?_⟩
      simp only [XOp1, AMinMax, e]
      exact xmm_ok (K := fun v => K v h.abs) _ _ _ hu hk
    · cases hx
  case copy e d s => exact xcopy_ok hx
  case append esz s x =>
    split at hx
    · rename_i new e
      obtain ⟨g1, g2⟩ := xapp1_ok hx
      exact ⟨g1, fun {K} hk => xels_ok (K := fun new => AApp1 h.abs (t.ev s) esz new K) e (g2 hk)⟩
    · cases hx
end Go.AL
