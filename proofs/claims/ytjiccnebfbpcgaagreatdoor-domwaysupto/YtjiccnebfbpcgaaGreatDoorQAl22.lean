/- Scopes without jumps. -/
import Derived.Test.YtjiccnebfbpcgaaGreatDoorQAl21
set_option linter.unusedSimpArgs false
set_option linter.unusedVariables false
set_option linter.unusedSectionVars false
namespace Go.AL
section
variable {F : Fence} {n : Nat} {P : Program} {b : Frame} {a : Act} {k : List Item} {cs : List Frame} {w : World} {Q : Exit → Act → World → Prop}
theorem stepR_scope {c : Code} : step P (lone (b.atR a (.code (.scope c) :: k)) cs w) = .next (lone (b.atR a (.code c :: .inScope c :: k)) cs w) :=
  step_lone_go (by simp [stepG, stepG.exec, Frame.atR])
theorem stepR_inScope {c : Code} : step P (lone (b.atR a (.inScope c :: k)) cs w) = .next (lone (b.atR a k) cs w) :=
  step_lone_go (by simp [stepG, stepG.exec, Frame.atR])
def noGoto (Q : Exit → Act → World → Prop) : Exit → Act → World → Prop
  | .goto _, _, _ => False
  | e, a, w => Q e a w
theorem wpIn_scope {c : Code} (h : c.wpIn F n P (noGoto Q) a w) : (Code.scope c).wpIn F n P Q a w := by
  intro b k cs hro hb hr
  have h0 : (lone (b.atR a (.code (.scope c) :: k)) cs w).fenced P F := fenced_calm hb hr rfl
  obtain ⟨e, a₁, w₁, hq, harr⟩ := h b (.inScope c :: k) cs hro hb hr
  cases e with
  | normal => exact ⟨.normal, a₁, w₁, hq, .head h0 stepR_scope (StepsIn.trans harr (.one (fenced_calm hb hr rfl) stepR_inScope))⟩
  | exit id =>
    have hx : exitTo id (.inScope c :: k) = exitTo id k := by simp [exitTo]
    exact ⟨_, a₁, w₁, hq, fun k' hk => .head h0 stepR_scope (harr.1 k' (by rw [hx]; exact hk)),
      fun hr' hk => let ⟨k₁, h1, h2⟩ := harr.2 hr' (by rw [hx]; exact hk); ⟨k₁, h1, .head h0 stepR_scope h2⟩⟩
  | goto l => exact hq.elim
  | ret => exact ⟨_, a₁, w₁, hq, .of_steps (.one h0 stepR_scope) harr⟩
  | panic ch => exact ⟨_, a₁, w₁, hq, .of_steps (.one h0 stepR_scope) harr⟩
  | outgrown => exact ⟨_, a₁, w₁, hq, .of_steps (.one h0 stepR_scope) harr⟩
end
def NoGoto (Q : Exit → ASt → Prop) : Exit → ASt → Prop
  | .goto _, _ => False
  | e, s => Q e s
theorem awp_scope {P : Program} {n0 : Nat} {md : Option Nat} {Q : Exit → ASt → Prop} {s : ASt} {c : Code} (h : AWp P n0 md c (NoGoto Q) s) : AWp P n0 md (.scope c) Q s := by
  intro C a w ro hs hm hn
  refine wpIn_scope (wpIn_mono (h C a w ro hs hm hn) ?_)
  rintro e a' w' ⟨D, s', hle, hs', hn', hq⟩
  cases e with
  | goto l => exact hq.elim
  | normal => exact ⟨D, s', hle, hs', hn', hq⟩
  | exit id => exact ⟨D, s', hle, hs', hn', hq⟩
  | ret => exact ⟨D, s', hle, hs', hn', hq⟩
  | panic ch => exact ⟨D, s', hle, hs', hn', hq⟩
  | outgrown => exact ⟨D, s', hle, hs', hn', hq⟩
end Go.AL
