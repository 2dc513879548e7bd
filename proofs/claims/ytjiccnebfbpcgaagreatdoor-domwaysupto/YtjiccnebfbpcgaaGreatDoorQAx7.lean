/- A reckoner of whole programs in the abstract picture, and that what it comes to is a contract. -/
import Derived.Test.YtjiccnebfbpcgaaGreatDoorQAx6
set_option linter.unusedSimpArgs false
set_option linter.unusedVariables false
set_option linter.unusedSectionVars false
namespace Go.AL
noncomputable def xrs1 (r : XRes) (t : ATab) (h : RH) : Option AVal :=
  match r with
  | .tmp i => some (t.get i)
  | .cell a n agg => xld h (t.get a) n agg
noncomputable def xrsL : List XRes → ATab → RH → Option (List AVal)
  | [], _, _ => some []
  | r :: rs, t, h => match xrs1 r t h with
    | some v => (match xrsL rs t h with
      | some vs => some (v :: vs)
      | none => none)
    | none => none
theorem xrsL_ok {t : ATab} {h : RH} : ∀ (rs : List XRes) (vs : List AVal), xrsL rs t h = some vs → ∀ {K : List AVal → Prop}, K vs → XResL rs t h.abs K
  | [], vs, hx, K, hk => by cases hx; exact hk
  | r :: rs, vs, hx, K, hk => by
    simp only [xrsL] at hx
    split at hx
    · rename_i v hv
      split at hx
      · rename_i us hu
        cases hx
        have := xrsL_ok rs us hu (K := fun us => K (v :: us)) hk
        cases r with
        | tmp i => cases hv; exact this
        | cell a n agg => exact xld_ok (K := fun v => XResL rs t h.abs fun us => K (v :: us)) hv this
      · cases hx
    · cases hx
noncomputable def xrsV (rs : List XRes) (t : ATab) (h : RH) : Option AVal :=
  match xrsL rs t h with
  | some [v] => some v
  | some vs => some (.tuple vs)
  | none => none
theorem xrsV_ok {t : ATab} {h : RH} {rs : List XRes} {v : AVal} (hx : Go.AL.xrsV rs t h = some v) {K : AVal → Prop} (hk : K v) : XResV rs t h.abs K := by
  unfold Go.AL.xrsV at hx
  split at hx
  · rename_i u hu; cases hx; exact xrsL_ok rs _ hu hk
  · rename_i us hn hu
    cases hx
    refine xrsL_ok rs _ hu ?_
    split
    · exact (hn _ rfl).elim
    · exact hk
  · cases hx
noncomputable def xlv : List ADef → RH → Option (RH × List Nat)
  | [], h => some (h, [])
  | .mark a :: ds, h => match h.get a with
    | some .defd => (match xlv ds (h.put a none) with
      | some (h', w) => some (h', w ++ [a])
      | none => none)
    | _ => none
  | .call .. :: _, _ => none
theorem xlv_ok : ∀ (d : List ADef) (h h' : RH) (w : List Nat), xlv d h = some (h', w) → Goes' h.abs w h'.abs ∧ ∀ {K : AHeap → Prop}, K h'.abs → ALeave d h.abs K
  | [], h, h', w, hx => by cases hx; exact ⟨.refl _, fun hk => hk⟩
  | .mark a :: ds, h, h', w, hx => by
    simp only [xlv, RH.get_eq] at hx
    split at hx
    · rename_i ha
      split at hx
      · rename_i h1 w1 e
        cases hx
        obtain ⟨g1, g2⟩ := xlv_ok ds _ _ _ e
        rw [RH.abs_put] at g1 g2
        exact ⟨(Goes'.setNone a).trans g1, fun hk => ⟨ha, g2 hk⟩⟩
      · cases hx
    · cases hx
  | .call .. :: _, h, h', w, hx => by cases hx
noncomputable def xfin (h0 : RH) (v : AVal) (h1 : RH) (w : List Nat) : AVal × RH × List Nat :=
  match Nat.ble h0.n h1.n && (belowB h0.n v && w.all (fun a => Nat.ble h0.n a || obelowB h0.n (h1.get a))) with
  | true => (v, h1.take h0.n, w)
  | false => (v, h1, w)
theorem hget_take_lt {h : AHeap} {m a : Nat} (ha : a < m) : hget (h.take m) a = hget h a := by
  unfold hget
  rw [List.getElem?_take, if_pos ha]
theorem xfin_ok {h0 h1 : RH} {v v' : AVal} {h' : RH} {w w' : List Nat} (g : Goes' h0.abs w h1.abs) (hx : xfin h0 v h1 w = (v', h', w')) : Goes' h0.abs w' h'.abs ∧ ∀ {R : AVal → AHeap → Prop}, R v' h'.abs → FEnd h0.abs R v h1.abs := by
  unfold xfin at hx
  simp only [RH.get_eq, RH.n_eq] at hx
  split at hx
  · rename_i hb
    cases hx
    rw [RH.abs_take]
    simp only [Bool.and_eq_true] at hb
    obtain ⟨b1, b2, b3⟩ := hb
    have hl := Nat.le_of_ble_eq_true b1
    refine ⟨⟨by rw [List.length_take]; omega, fun a ha hn => by rw [hget_take_lt ha]; exact g.old a ha hn, fun a ha e => by rw [hget_take_lt ha]; exact g.gone a ha e, fun a n t ps as bo st pe d e => ?_⟩, fun hk => FEnd.cut _ (Nat.le_refl _) hl (belowB_ok _ b2) ?_ hk⟩
    · rw [hget_take_lt (hget_lt e)]; exact g.loop a n t ps as bo st pe d e
    · intro a o ho ha
      by_cases hw : a ∈ w
      · have := List.all_eq_true.1 b3 a hw
        simp only [Bool.or_eq_true] at this
        rcases this with h | h
        · have := Nat.le_of_ble_eq_true h; omega
        · exact .inr (obelowB_ok h ho)
      · left
        exact ⟨ha, by rw [← g.old a ha hw]; exact ho⟩
  · cases hx; exact ⟨g, fun hk => .all hk⟩
noncomputable def xcall1 (F : FuncId → Option XFunc) (r : XRun) (lf : Nat) (f : FuncId) (args : List AVal) (h : RH) : Option (AVal × RH × List Nat) :=
  match F f with
  | some xf => (match Nat.ble args.length xf.n with
    | true => (match xexec r lf false xf.code ⟨xf.n, mkTab 0 args, [], h⟩ with
      | some (.normal, s, w) | some (.ret, s, w) => (match xlv s.d s.h with
        | some (h1, w1) => (match xrsV xf.rs s.t h1 with
          | some v => some (xfin h v h1 (w1 ++ w))
          | none => none)
        | none => none)
      | _ => none)
    | false => none)
  | none => none
theorem xcall1_ok {P : Program} (hm : P.follows .mixedOrders = true) {F : FuncId → Option XFunc} (hF : ∀ f xf, F f = some xf → xfunc P f = some xf) {r : XRun} (hr : r.Ok P) {lf : Nat} {f : FuncId} {args : List AVal} {h : RH} {v : AVal} {h' : RH} {w : List Nat}
    (hx : xcall1 F r lf f args h = some (v, h', w)) : Goes' h.abs w h'.abs ∧ callOk P f = true ∧ ACall P f args h.abs fun v' k => v' = v ∧ k = h'.abs := by
  unfold xcall1 at hx
  split at hx
  · rename_i xf hf
    have hxf := hF f xf hf
    have hok := (xfunc_ok hxf).1
    split at hx
    · rename_i hn
      have key : ∀ (e : Exit) (s : RSt) (w0 : List Nat), xexec r lf false xf.code ⟨xf.n, mkTab 0 args, [], h⟩ = some (e, s, w0) → (e = .normal ∨ e = .ret) →
          (match xlv s.d s.h with
            | some (h1, w1) => (match xrsV xf.rs s.t h1 with
              | some v => some (xfin h v h1 (w1 ++ w0))
              | none => none)
            | none => none) = some (v, h', w) → Goes' h.abs w h'.abs ∧ callOk P f = true ∧ ACall P f args h.abs fun v' k => v' = v ∧ k = h'.abs := by
        intro e s w0 he hee hx
        split at hx
        · rename_i h1 w1 e1
          split at hx
          · rename_i u hu
            obtain ⟨g1, g2, g3⟩ := xexec_ok (P := P) (n0 := h.abs.length) (md := none) hr (fun _ => rfl) _ _ _ _ _ he
            obtain ⟨g4, g5⟩ := xlv_ok _ _ _ _ e1
            obtain ⟨g6, g7⟩ := xfin_ok (v' := v) (h' := h') (w' := w) (g1.trans g4) (by simpa using hx)
            refine ⟨g6, hok, acall_x hm hxf hn (g3 ?_)⟩
            have : ALeave s.d s.h.abs fun h1 => XResV xf.rs s.t h1 fun v0 => FEnd h.abs (fun v' k => v' = v ∧ k = h'.abs) v0 h1 := g5 (xrsV_ok hu (g7 ⟨rfl, rfl⟩))
            rcases hee with rfl | rfl <;> exact this
          · cases hx
        · cases hx
      split at hx
      · rename_i s w0 he; exact key _ s w0 he (.inl rfl) hx
      · rename_i s w0 he; exact key _ s w0 he (.inr rfl) hx
      · cases hx
    · cases hx
  · cases hx
noncomputable def xjump : Exit → Option (Option Code)
  | .normal => some none
  | .ret => some (some .ret)
  | .exit id => some (some (.exit id))
  | _ => none
noncomputable def xyield1 (P : Program) (r : XRun) (lf : Nat) (l0 : Nat) (args : List AVal) (h : RH) : Option (AVal × RH × List Nat) :=
  match h.get l0 with
  | some (.loop n t ps as bo .ready none a0) =>
    (match Nat.beq args.length ps.size && ps.toList.all (fun p => decide (p < n)), xcomp P n as, xcomp P n bo with
    | true, some xa, some xb => (match xexec r lf true xa ⟨n, putParams ps.toList args t, [], h⟩ with
      | some (.normal, s, w) => (match s.h.get l0 with
        | some (.loop _ _ _ _ _ .ready none _) => (match xexec r lf true xb ⟨s.n, s.t, s.d, s.h.put l0 (some (.loop n t ps as bo .busy none a0))⟩ with
          | some (e, s2, w2) => (match xjump e, s2.h.get l0 with
            | some j, some (.loop _ _ _ _ _ .busy _ _) => some (vbool j.isNone, s2.h.put l0 (some (.loop n t ps as bo (if j.isNone then .ready else .done) j a0)), l0 :: (w2 ++ (l0 :: w)))
            | _, _ => none)
          | none => none)
        | _ => none)
      | _ => none)
    | _, _, _ => none)
  | _ => none
theorem xyield1_ok {P : Program} (hm : P.follows .mixedOrders = true) {r : XRun} (hr : r.Ok P) {lf l0 : Nat} {args : List AVal} {h : RH} {v : AVal} {h' : RH} {w : List Nat}
    (hx : xyield1 P r lf l0 args h = some (v, h', w)) : Goes' h.abs w h'.abs ∧ AYield P l0 args h.abs fun v' k => v' = v ∧ k = h'.abs := by
  unfold xyield1 at hx
  simp only [RH.get_eq] at hx
  split at hx
  · rename_i n t ps as bo a0 hl
    split at hx
    · rename_i xa xb hp hxa hxb
      simp only [Bool.and_eq_true] at hp
      split at hx
      · rename_i s w1 e1
        split at hx
        · rename_i n' t' ps' as' bo' a0' hl1
          split at hx
          · rename_i e s2 w2 e2
            split at hx
            · rename_i j n2 t2 ps2 as2 bo2 pe2 a2 hj hl2
              cases hx
              obtain ⟨g1, g2, g3⟩ := xexec_ok (P := P) (n0 := h.abs.length) (md := some l0) hr (fun e => by cases e) _ _ _ _ _ e1
              obtain ⟨g4, g5, g6⟩ := xexec_ok (P := P) (n0 := h.abs.length) (md := some l0) hr (fun e => by cases e) _ _ _ _ _ e2
              simp only [RSt.abs, RH.abs_put'] at g1 g2 g3 g4 g5 g6
              have q1 : hget s.h.abs l0 = some (.loop n t ps as bo .ready none a0) := by
                rcases g1.loop _ _ _ _ _ _ _ _ _ hl with q | ⟨st, pe, q⟩
                · rw [q] at hl1; cases hl1
                · rw [q] at hl1; cases hl1; exact q
              have hlt := hget_lt q1
              have q2 : hget (hset s.h.abs l0 (.loop n t ps as bo .busy none a0)) l0 = some (.loop n t ps as bo .busy none a0) := hget_set_same hlt _
              have q3 : hget s2.h.abs l0 = some (.loop n t ps as bo .busy pe2 a0) := by
                rcases g4.loop _ _ _ _ _ _ _ _ _ q2 with q | ⟨st, pe, q⟩
                · rw [q] at hl2; cases hl2
                · rw [q] at hl2; cases hl2; exact q
              have g7 := ((g1.trans (Goes'.setLoop q1 .busy none)).trans g4).trans (Goes'.setLoop q3 (if j.isNone then .ready else .done) j)
              rw [RH.abs_put']
              refine ⟨by simpa [hset] using g7, ?_⟩
              refine ayield_intro (pend := none) (a0 := a0) hl (Nat.eq_of_beq_eq_true hp.1) hp.2 ?_
              refine (xw P hm h.abs.length (some l0) n as xa hxa (fun e s' => e = .normal ∧ s' = s.abs) ⟨n, putParams ps.toList args t, [], h.abs⟩ rfl (g3 (Q := fun e s' => e = .normal ∧ s' = s.abs) ⟨rfl, rfl⟩)).mono ?_
              rintro e' s' ⟨_, _, rfl, rfl⟩
              refine ⟨q1, ?_⟩
              refine (xw P hm h.abs.length (some l0) n bo xb hxb (fun e' s' => e' = e ∧ s' = s2.abs) ⟨s.n, s.t, s.d, hset s.h.abs l0 (.loop n t ps as bo .busy none a0)⟩ g2 (g6 (Q := fun e' s' => e' = e ∧ s' = s2.abs) ⟨rfl, rfl⟩)).mono ?_
              rintro e'' s'' ⟨_, _, rfl, rfl⟩
              have fin : ∀ jj, j = jj → RoundEnd l0 n t ps as bo a0 h.abs (fun v' k => v' = vbool j.isNone ∧ k = hset s2.h.abs l0 (.loop n t ps as bo (if j.isNone then .ready else .done) j a0)) jj s2.h.abs := by
                rintro jj rfl
                exact ⟨pe2, q3, .all ⟨rfl, rfl⟩⟩
              cases e'' <;> simp only [xjump, Option.some.injEq, reduceCtorEq] at hj
              · exact fin _ hj.symm
              · exact fin _ hj.symm
              · exact fin _ hj.symm
            · cases hx
          · cases hx
        · cases hx
      · cases hx
    · cases hx
  · cases hx
noncomputable def xcallM (M : FuncId → List AVal → Option AVal) (F : FuncId → Option XFunc) (r : XRun) (lf : Nat) (f : FuncId) (args : List AVal) (h : RH) : Option (AVal × RH × List Nat) :=
  match M f args with
  | some v => some (v, h, [])
  | none => xcall1 F r lf f args h
noncomputable def MemoOk (P : Program) (M : FuncId → List AVal → Option AVal) : Prop := ∀ f args v, M f args = some v → callOk P f = true ∧ ∀ h, ACall P f args h fun v' h' => v' = v ∧ h' = h
noncomputable def xrun (P : Program) (M : FuncId → List AVal → Option AVal) (F : FuncId → Option XFunc) (E : FuncId → List AVal → Option AVal) (lf : Nat) : Nat → XRun
  | 0 => ⟨fun _ _ _ => none, fun _ _ _ => none, fun _ _ => none⟩
  | k + 1 => ⟨xcallM M F (xrun P M F E lf k) lf, xyield1 P (xrun P M F E lf k) lf, E⟩
theorem xrun_ok {P : Program} (hm : P.follows .mixedOrders = true) {M : FuncId → List AVal → Option AVal} (hM : MemoOk P M) {F : FuncId → Option XFunc} (hF : ∀ f xf, F f = some xf → xfunc P f = some xf) {E : FuncId → List AVal → Option AVal} (hE : ∀ f args v, E f args = some v → ∃ q, externK P f = some q ∧ AExtern q args fun v' => v' = v) (lf : Nat) :
    ∀ k, (xrun P M F E lf k).Ok P
  | 0 => ⟨fun f args h v h' w hx => (by cases hx), fun f args v hx => (by cases hx), fun a args h v h' w hx => (by cases hx)⟩
  | k + 1 => ⟨fun f args h v h' w hx => by
      have hx : xcallM M F (xrun P M F E lf k) lf f args h = some (v, h', w) := hx
      unfold xcallM at hx
      split at hx
      · rename_i u hu
        cases hx
        obtain ⟨m1, m2⟩ := hM _ _ _ hu
        exact ⟨.refl _, m1, m2 h.abs⟩
      · exact xcall1_ok hm hF (xrun_ok hm hM hF hE lf k) hx, hE, fun a args h v h' w hx => xyield1_ok hm (xrun_ok hm hM hF hE lf k) hx⟩
theorem acall_frame {P : Program} {f : FuncId} {args : List AVal} {R : AVal → AHeap → Prop} (hb : ∀ v ∈ args, Below 0 v) (hc : ACall P f args [] R) (hR : ∀ v h', R v h' → ∀ C D rv, VRel C v rv → VRel D v rv) (h : AHeap) :
    ACall P f args h fun v h' => h' = h ∧ ∃ k, R v k := by
  intro C w rargs hr hv
  let C0 : Ctx := { μ := fun _ => none, τ := fun _ _ => none, fc := C.fc, g := fun b => w.heap[b]?, glob := C.glob, io := C.io }
  have hr0 : HRel C0 [] w := ⟨hr.cells, fun b o hg => hg, fun a o L ho => by simp [hget] at ho, fun a a' o o' L L' ho => by simp [hget] at ho, fun a _ => ⟨rfl, fun _ => rfl⟩, fun a L hL => (by cases hL), fun a k L hL => (by cases hL), fun a e n ho => by simp [hget] at ho, hr.io⟩
  have hle0 : C.le 0 C0 := ⟨fun a ha => absurd ha (Nat.not_lt_zero _), fun a k L ha => absurd ha (Nat.not_lt_zero _), fun b o v x => x, fun b o x => hr.frozen b o x, rfl⟩
  have hv0 : VRels C0 args rargs := ⟨hv.1, fun i v rv a b => (hv.2 i v rv a b).le hle0 (hb v (List.mem_of_getElem? a))⟩
  refine (hc C0 w rargs hr0 hv0).mono ?_
  rintro e w' ⟨v, rv, D, h', rfl, d1, d2, d3, d4⟩
  have hold : ∀ b, b < w.heap.size → w'.heap[b]? = w.heap[b]? := fun b hlt => by
    have : C0.g b = some (w.heap[b]) := by show w.heap[b]? = _; exact Array.getElem?_eq_getElem hlt
    rw [d2.frozen b _ (d1.g b _ this), Array.getElem?_eq_getElem hlt]
  have hsize : w.heap.size ≤ w'.heap.size := by
    by_cases hz : w.heap.size = 0
    · omega
    · have h1 := hold (w.heap.size - 1) (by omega)
      have h2 : w.heap[w.heap.size - 1]? = some (w.heap[w.heap.size - 1]'(by omega)) := Array.getElem?_eq_getElem (by omega)
      rw [h2] at h1
      have := (Array.getElem?_eq_some_iff.1 h1).1
      omega
  refine ⟨v, rv, C, h, rfl, .refl _ _, ?_, hR v h' d4 D C rv d3, rfl, h', d4⟩
  refine ⟨fun b o u hc => ?_, fun b o hg => ?_, fun a o L ho hL => ?_, hr.inj, hr.fresh, fun a L hL => Nat.lt_of_lt_of_le (hr.there a L hL) hsize, fun a k L hL => Nat.lt_of_lt_of_le (hr.thereτ a k L hL) hsize, hr.top, d2.io.trans d1.io⟩
  · rw [cell_congr (hold b (hr.fc_lt hc))]; exact hr.cells b o u hc
  · rw [hold b (hr.g_lt hg)]; exact hr.frozen b o hg
  · obtain ⟨h1, h2, r, h3, h4⟩ := hr.live a o L ho hL
    exact ⟨h1, h2, r, by rw [hold _ (hr.loc_lt hL)]; exact h3, h4⟩
end Go.AL
