/- A live row is known for good: where nothing writes it any more, what names it may be read as what it holds. -/
import Derived.Test.YtjiccnebfbpcgaaGreatDoorQAl24
set_option linter.unusedSimpArgs false
set_option linter.unusedVariables false
set_option linter.unusedSectionVars false
namespace Go.AL
inductive Re (a : Nat) (es : List (List AVal)) : AVal → AVal → Prop
  | same (v : AVal) : Re a es v v
  | slice (esz i len : Nat) (cap : Option Nat) (h : i + len ≤ es.length) (hs : ∀ e ∈ es, e.length = esz) : Re a es (.slice a esz i len cap) (.fslice ((es.drop i).take len))
  | ptr (i off : Nat) (e : List AVal) (h : es[i]? = some e) : Re a es (.ptr a i off) (.fptr e off)
  | nil : Re a es (.lit (.slice none 0 0)) (.fslice [])
inductive ReO (a : Nat) (es : List (List AVal)) : AObj → AObj → Prop
  | same (o : AObj) : ReO a es o o
  | rows (xs ys : List (List AVal)) (h : xs.length = ys.length) (h1 : ∀ (i : Nat) x y, xs[i]? = some x → ys[i]? = some y → x.length = y.length ∧ ∀ (j : Nat) u v, x[j]? = some u → y[j]? = some v → Re a es u v) : ReO a es (.rows xs) (.rows ys)
def Held (D : Ctx) (L : Loc) (es : List (List AVal)) : Prop :=
  (∀ (i : Nat) e, es[i]? = some e → e.length = L.esz) ∧ ∃ rc : Nat → Value, ∀ (i j : Nat) e v, es[i]? = some e → e[j]? = some v → D.fc L.b (L.base + i * L.esz + j) = some (rc (L.base + i * L.esz + j)) ∧ VRel D v (rc (L.base + i * L.esz + j))
theorem re_val {D : Ctx} {a : Nat} {L : Loc} {es : List (List AVal)} (ha : D.μ a = some L) (hd : Held D L es) {v v' : AVal} (hre : Re a es v v') {rv : Value} (hv : VRel D v rv) : VRel D v' rv := by
  obtain ⟨hlen, rc, hd⟩ := hd
  cases hre with
  | same => exact hv
  | slice esz i len cap hle hs =>
    cases hv with
    | slice _ _ _ _ _ rcap L' ha' hesz hcap hln hroom =>
      rw [ha] at ha'; cases ha'
      have hget : ∀ (k : Nat) e, ((es.drop i).take len)[k]? = some e → es[i + k]? = some e := by
        intro k e hk
        rw [List.getElem?_take] at hk
        split at hk
        · rwa [List.getElem?_drop] at hk
        · cases hk
      have hl : ((es.drop i).take len).length = len := by rw [List.length_take, List.length_drop]; omega
      have := VRel.fslice (C := D) ((es.drop i).take len) L.b (L.base + i * L.esz) L.esz rcap (fun k j => rc (L.base + (i + k) * L.esz + j)) (by omega) (fun k e hk => hlen _ e (hget k e hk))
        (fun k j e v hk hj => by
          have := (hd (i + k) j e v (hget k e hk) hj).1
          rw [← this]; congr 1; rw [Nat.add_mul]; omega)
        (fun k j e v hk hj => (hd (i + k) j e v (hget k e hk) hj).2)
      rw [hl] at this
      exact this
  | nil => cases hv; exact .fnil _
  | ptr i off e he =>
    cases hv with
    | ptr _ _ _ L' ha' =>
      rw [ha] at ha'; cases ha'
      exact VRel.fptr e off L.b (L.base + i * L.esz) (fun j => rc (L.base + i * L.esz + j)) (fun j v hj => (hd i j e v he hj).1) fun j v hj => (hd i j e v he hj).2
theorem oldfc {C : Ctx} {h : AHeap} {w : World} (hr : HRel C h w) {a : Nat} {es : List (List AVal)} (ha : hget h a = some (.rows es)) {L : Loc} (hL : C.μ a = some L) (q : Nat) : C.fc L.b q = none :=
  (hr.live a _ L ha hL).2.1 q (Nat.zero_le _)
open Classical in
theorem turns_freeze {n0 a : Nat} {v v' : AVal} {h h' : AHeap} {es : List (List AVal)} (hn : n0 ≤ a) (ha : hget h a = some (.rows es)) (hre : Re a es v v') (hlen : h'.length = h.length) (hgone : hget h' a = none)
    (hh : ∀ b o, hget h' b = some o → ∃ o0, hget h b = some o0 ∧ ReO a es o0 o) : Turns n0 v h v' h' := by
  intro C w rv hr hv
  have hloc : ∀ (b : Nat) o0 o, ReO a es o0 o → locOf C b o = locOf C b o0 := by
    intro b o0 o ho; cases ho <;> rfl
  cases hL : C.μ a with
  | none =>
    -- nothing that is looked at names the row
    have keep : ∀ {u u' : AVal} {x : Value}, Re a es u u' → VRel C u x → VRel C u' x := by
      intro u u' x hre hx
      cases hre with
      | same => exact hx
      | slice => cases hx with | slice _ _ _ _ _ _ L ha' => rw [hL] at ha'; cases ha'
      | ptr => cases hx with | ptr _ _ _ L ha' => rw [hL] at ha'; cases ha'
      | nil => cases hx; exact .fnil _
    have keepO : ∀ {L : Loc} {o0 o : AObj} {r : Obj}, ReO a es o0 o → ORel C L o0 r → ORel C L o r := by
      intro L o0 o r ho hx
      cases ho with
      | same => exact hx
      | rows xs ys hxy h1 =>
        obtain ⟨c, e, hr⟩ := hx
        refine ⟨c, e, hr.size, fun i y hy => ?_, by rw [← hxy]; exact hr.room, fun i j y v hy hj => ?_⟩
        · obtain ⟨x, hx⟩ : ∃ x, xs[i]? = some x := ⟨_, List.getElem?_eq_getElem (by rw [hxy]; exact (List.getElem?_eq_some_iff.1 hy).1)⟩
          rw [← (h1 i x y hx hy).1]; exact hr.len i x hx
        · obtain ⟨x, hx⟩ : ∃ x, xs[i]? = some x := ⟨_, List.getElem?_eq_getElem (by rw [hxy]; exact (List.getElem?_eq_some_iff.1 hy).1)⟩
          obtain ⟨l1, l2⟩ := h1 i x y hx hy
          obtain ⟨u, hu⟩ : ∃ u, x[j]? = some u := ⟨_, List.getElem?_eq_getElem (by rw [l1]; exact (List.getElem?_eq_some_iff.1 hj).1)⟩
          obtain ⟨rv, r1, r2, r3⟩ := hr.cell i j x u hx hu
          exact ⟨rv, r1, keep (l2 j u v hu hj) r2, r3⟩
    refine ⟨C, .refl _ _, ⟨hr.cells, hr.frozen, fun b o L ho hl => ?_, fun b b' o o' L L' ho ho' hl hl' e => ?_, by rw [hlen]; exact hr.fresh, hr.there, hr.thereτ, fun b e n ho => ?_, hr.io⟩, keep hre hv⟩
    · obtain ⟨o0, h0, hro⟩ := hh b o ho
      rw [hloc b o0 o hro] at hl
      obtain ⟨l1, l2, r, l3, l4⟩ := hr.live b o0 L h0 hl
      refine ⟨l1, fun q hq => l2 q ?_, r, l3, keepO hro l4⟩
      cases hro <;> exact hq
    · obtain ⟨o0, h0, hro⟩ := hh b o ho
      obtain ⟨o0', h0', hro'⟩ := hh b' o' ho'
      rw [hloc b o0 o hro] at hl
      rw [hloc b' o0' o' hro'] at hl'
      exact hr.inj b b' o0 o0' L L' h0 h0' hl hl' e
    · obtain ⟨o0, h0, hro⟩ := hh b _ ho
      cases hro
      exact hr.top b e n h0
  | some L =>
    obtain ⟨l1, l2, r, l3, c, rfl, hrow⟩ := hr.live a _ L ha hL
    have hnone : ∀ q, C.fc L.b q = none := fun q => l2 q (Nat.zero_le _)
    let inRow : Nat → Prop := fun q => ∃ (i j : Nat) (e : List AVal) (u : AVal), es[i]? = some e ∧ e[j]? = some u ∧ q = L.base + i * L.esz + j
    have hglob : ∀ b l, laidL b = some l → ∀ (j : Nat) u, l[j]? = some u → (if b = L.b ∧ inRow j then c[j]? else C.fc b j) = some u := by
      intro b l hl j u hj
      have := C.glob b l hl j u hj
      rw [if_neg]
      · exact this
      · rintro ⟨rfl, _⟩; rw [hnone] at this; cases this
    let D : Ctx := ⟨C.μ, C.τ, fun b q => if b = L.b ∧ inRow q then c[q]? else C.fc b q, C.g, hglob, C.io⟩
    have hfc : ∀ b q u, C.fc b q = some u → D.fc b q = some u := by
      intro b q u hq
      show (if b = L.b ∧ inRow q then c[q]? else C.fc b q) = some u
      rw [if_neg]
      · exact hq
      · rintro ⟨rfl, _⟩; rw [hnone] at hq; cases hq
    have hsub : C.sub D := ⟨fun _ _ h => h, fun _ _ _ h => h, hfc, fun _ _ h => h, rfl⟩
    have hnew : ∀ q, inRow q → D.fc L.b q = c[q]? := fun q hq => if_pos ⟨rfl, hq⟩
    have hother : ∀ b q, b ≠ L.b → D.fc b q = C.fc b q := fun b q hb => if_neg fun e => hb e.1
    have held : Held D L es := by
      refine ⟨hrow.len, fun q => c.getD q undef, fun i j e u he hu => ?_⟩
      obtain ⟨rv, r1, r2, r3⟩ := hrow.cell i j e u he hu
      have : c.getD (L.base + i * L.esz + j) undef = rv := by rw [Array.getD_eq_getD_getElem?, r1]; rfl
      show D.fc L.b (L.base + i * L.esz + j) = some (c.getD (L.base + i * L.esz + j) undef) ∧ VRel D u (c.getD (L.base + i * L.esz + j) undef)
      rw [this]
      exact ⟨by rw [hnew _ ⟨i, j, e, u, he, hu, rfl⟩]; exact r1, r2.mono hsub⟩
    have keep : ∀ {u u' : AVal} {x : Value}, Re a es u u' → VRel C u x → VRel D u' x := fun hre hx => re_val (D := D) hL held hre (hx.mono hsub)
    have keepO : ∀ {L' : Loc} {o0 o : AObj} {r : Obj}, ReO a es o0 o → ORel C L' o0 r → ORel D L' o r := by
      intro L' o0 o r ho hx
      cases ho with
      | same => exact hx.mono hsub
      | rows xs ys hxy h1 =>
        obtain ⟨c, e, hr⟩ := hx
        refine ⟨c, e, hr.size, fun i y hy => ?_, by rw [← hxy]; exact hr.room, fun i j y v hy hj => ?_⟩
        · obtain ⟨x, hx⟩ : ∃ x, xs[i]? = some x := ⟨_, List.getElem?_eq_getElem (by rw [hxy]; exact (List.getElem?_eq_some_iff.1 hy).1)⟩
          rw [← (h1 i x y hx hy).1]; exact hr.len i x hx
        · obtain ⟨x, hx⟩ : ∃ x, xs[i]? = some x := ⟨_, List.getElem?_eq_getElem (by rw [hxy]; exact (List.getElem?_eq_some_iff.1 hy).1)⟩
          obtain ⟨l1, l2⟩ := h1 i x y hx hy
          obtain ⟨u, hu⟩ : ∃ u, x[j]? = some u := ⟨_, List.getElem?_eq_getElem (by rw [l1]; exact (List.getElem?_eq_some_iff.1 hj).1)⟩
          obtain ⟨rv, r1, r2, r3⟩ := hr.cell i j x u hx hu
          exact ⟨rv, r1, keep (l2 j u v hu hj) r2, r3⟩
    refine ⟨D, hsub.le' rfl, ⟨fun b q u hq => ?_, hr.frozen, fun b o L' ho hl => ?_, fun b b' o o' L' L'' ho ho' hl hl' e => ?_, by rw [hlen]; exact hr.fresh, hr.there, hr.thereτ, fun b e n ho => ?_, hr.io⟩, keep hre hv⟩
    · by_cases hb : b = L.b ∧ inRow q
      · obtain ⟨rfl, hq'⟩ := hb
        rw [hnew q hq'] at hq
        obtain ⟨i, j, e, u', he, hu, rfl⟩ := hq'
        obtain ⟨rv, r1, r2, r3⟩ := hrow.cell i j e u' he hu
        rw [r1] at hq; cases hq
        refine ⟨?_, r3⟩
        unfold World.cell?
        simp only [l3]
        exact r1
      · have : D.fc b q = C.fc b q := if_neg hb
        rw [this] at hq
        exact hr.cells b q u hq
    · obtain ⟨o0, h0, hro⟩ := hh b o ho
      have hl0 : locOf C b o0 = some L' := by rw [← hloc b o0 o hro]; exact hl
      obtain ⟨m1, m2, r', m3, m4⟩ := hr.live b o0 L' h0 hl0
      have hne : L'.b ≠ L.b := by
        intro e
        have hb := hr.inj b a o0 _ L' L h0 ha hl0 hL e
        rw [hb, hgone] at ho; cases ho
      refine ⟨m1, fun q hq => ?_, r', m3, keepO hro m4⟩
      rw [hother _ _ hne]
      refine m2 q ?_
      cases hro <;> exact hq
    · obtain ⟨o0, h0, hro⟩ := hh b o ho
      obtain ⟨o0', h0', hro'⟩ := hh b' o' ho'
      exact hr.inj b b' o0 o0' L' L'' h0 h0' (by rw [← hloc b o0 o hro]; exact hl) (by rw [← hloc b' o0' o' hro']; exact hl') e
    · obtain ⟨o0, h0, hro⟩ := hh b _ ho
      cases hro
      exact hr.top b e n h0
end Go.AL
