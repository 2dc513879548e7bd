/- Tables of functions for the reckoner. -/
import Derived.Test.YtjiccnebfbpcgaaGreatDoorQAx7
import Derived.Test.YtjiccnebfbpcgaaGreatDoorProg
set_option linter.unusedSimpArgs false
set_option linter.unusedVariables false
set_option linter.unusedSectionVars false
namespace Go.AL
inductive XTree where
  | none
  | leaf (f : Nat) (x : XFunc)
  | node (m : Nat) (l r : XTree)
noncomputable def XTree.look : XTree → Nat → Option XFunc
  | .none, _ => Option.none
  | .leaf f x, g => match Nat.beq f g with | true => some x | false => Option.none
  | .node m l r, g => match Nat.ble g m with | true => l.look g | false => r.look g
noncomputable def XTree.Ok (P : Program) : XTree → Prop
  | .none => True
  | .leaf f x => xfunc P f = some x
  | .node _ l r => l.Ok P ∧ r.Ok P
theorem XTree.look_ok {P : Program} : ∀ {t : XTree}, t.Ok P → ∀ g x, t.look g = some x → xfunc P g = some x
  | .none, _, g, x, h => by cases h
  | .leaf f y, ok, g, x, h => by
    simp only [XTree.look] at h
    split at h
    · rename_i e; cases h; rw [← Nat.eq_of_beq_eq_true e]; exact ok
    · cases h
  | .node m l r, ok, g, x, h => by
    simp only [XTree.look] at h
    split at h
    · exact XTree.look_ok ok.1 g x h
    · exact XTree.look_ok ok.2 g x h
noncomputable def codeAt : Code → List Nat → Code
  | c, [] => c
  | .scope c, _ :: p => codeAt c p
  | .seq a b, i :: p => match i with | 0 => codeAt a p | _ => codeAt b p
  | .cond _ a b, i :: p => match i with | 0 => codeAt a p | _ => codeAt b p
  | .block _ c, _ :: p => codeAt c p
  | .loop c, _ :: p => codeAt c p
  | .rangeFunc _ _ a b, i :: p => match i with | 0 => codeAt a p | _ => codeAt b p
  | _, _ => .skip
noncomputable def bodyAt (P : Program) (f : FuncId) (p : List Nat) : Code :=
  match P.funcs[f]? with
  | some fn => match fn.body with
    | some c => codeAt c p
    | none => .skip
  | none => .skip
noncomputable def xext (l : List (Nat × ExtK)) (f : FuncId) (args : List AVal) : Option AVal :=
  match l with
  | [] => none
  | (g, q) :: r => match Nat.beq g f with
    | true => (match q, args with
      | .indexByte, [.str l, .lit (.int .u8 c)] => some (.lit (.int .i64 (idxByte l c)))
      | .same, [x] => some x
      | _, _ => none)
    | false => xext r f args
theorem xext_ok {P : Program} : ∀ {l : List (Nat × ExtK)}, (∀ p ∈ l, externK P p.1 = some p.2) → ∀ f args v, xext l f args = some v → ∃ q, externK P f = some q ∧ AExtern q args fun v' => v' = v
  | [], _, f, args, v, h => by cases h
  | (g, q) :: r, ok, f, args, v, h => by
    simp only [xext] at h
    split at h
    · rename_i e
      have e := Nat.eq_of_beq_eq_true e
      subst e
      refine ⟨q, ok _ (List.mem_cons_self ..), ?_⟩
      split at h
      · cases h; exact rfl
      · cases h; exact rfl
      · cases h
    · exact xext_ok (fun p hp => ok p (List.mem_cons_of_mem _ hp)) f args v h
noncomputable def xmemoS (l : List (List UInt8 × Bool)) (s : List UInt8) : Option AVal :=
  match l with
  | [] => none
  | (a, b) :: r => match strB a s with
    | true => some (.lit (.bool b))
    | false => xmemoS r s
noncomputable def xmemo1 (g : Nat) (l : List (List UInt8 × Bool)) (f : FuncId) (args : List AVal) : Option AVal :=
  match Nat.beq g f with
  | true => (match args with | [.str s] => xmemoS l s | _ => none)
  | false => none
theorem xmemo1_ok {P : Program} {g : Nat} (hg : callOk P g = true) {l : List (List UInt8 × Bool)} (hl : ∀ p ∈ l, ∀ h, ACall P g [.str p.1] h fun v' h' => v' = .lit (.bool p.2) ∧ h' = h) : MemoOk P (xmemo1 g l) := by
  intro f args v hx
  unfold xmemo1 at hx
  split at hx
  · rename_i e
    have e := Nat.eq_of_beq_eq_true e
    subst e
    split at hx
    · rename_i s
      refine ⟨hg, ?_⟩
      induction l with
      | nil => cases hx
      | cons p l ih =>
        obtain ⟨a, b⟩ := p
        simp only [xmemoS] at hx
        split at hx
        · rename_i e
          rw [strB_eq] at e
          have e := of_decide_eq_true e
          subst e
          cases hx
          exact hl _ (List.mem_cons_self ..)
        · exact ih (fun p hp => hl p (List.mem_cons_of_mem _ hp)) hx
    · cases hx
  · cases hx
noncomputable def isLit (b : Bool) (x : Option (AVal × RH × List Nat)) : Bool := match x with | some (.lit (.bool c), _, _) => (match b, c with | true, true => true | false, false => true | _, _ => false) | _ => false
theorem isLit_ok {b : Bool} {x : Option (AVal × RH × List Nat)} (h : isLit b x = true) : ∃ h' w, x = some (.lit (.bool b), h', w) := by
  unfold isLit at h
  split at h
  · rename_i c h' w
    cases b <;> cases c <;> first | exact ⟨_, _, rfl⟩ | cases h
  · cases h
theorem reck_flat {P : Program} {r : XRun} (hr : r.Ok P) {f : FuncId} {args : List AVal} (hb : ∀ v ∈ args, Below 0 v) {b : Bool} (h : isLit b (r.call f args RH.empty) = true) : callOk P f = true ∧ ∀ h, ACall P f args h fun v' h' => v' = .lit (.bool b) ∧ h' = h := by
  obtain ⟨h', w, e⟩ := isLit_ok h
  obtain ⟨_, h1, h2⟩ := hr.call _ _ _ _ _ _ e
  refine ⟨h1, fun h => (acall_frame hb h2 (fun v k hv C D rv hr => ?_) h).mono fun v k hk => ⟨hk.2.choose_spec.1, hk.1⟩⟩
  obtain ⟨rfl, rfl⟩ := hv
  cases hr
  exact .lit _
noncomputable def nomemo (_ : FuncId) (_ : List AVal) : Option AVal := none
theorem nomemo_ok {P : Program} : MemoOk P nomemo := fun _ _ _ h => by cases h
end Go.AL
