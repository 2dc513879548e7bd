/- DomLords. -/
import Derived.Test.YtjiccnebfbpcgaaGreatDoorPk2
set_option linter.unusedSimpArgs false
set_option linter.unusedVariables false
set_option linter.unusedSectionVars false
namespace Go.AL
open Go.Proofs
theorem DomOk.mem {ord : List Nat} {pl : Nat → Nat} {pr : Nat → List Nat} {dom : Nat → Nat → Prop} {L : Nat → Option Nat} (D : DomOk ord pl pr dom L) {v x : Nat} (h : Anc L v x) : v ∈ ord → x ∈ ord := by
  induction h with
  | refl => exact id
  | step h _ ih => exact fun _ => ih (D.i1 _ _ h).2.1
set_option maxRecDepth 8000 in
set_option maxHeartbeats 4000000 in
theorem domlords_ok {f : GFunc} (ok : FuncOk f) (a b c : Int) (h : AHeap) : ACall Tryz.prog 3 [.agg f.cells, .lit (.int .i64 a), .lit (.int .i64 b), .lit (.int .i64 c)] h fun r h' => r = .lit (.bool true) ∧ h' = h := by
  have hfl : f.cells.length = 6 := rfl
  have hfc1 : f.cells.all AVal.cell1 = true := rfl
  have hftk : f.cells.take 6 = f.cells := rfl
  refine acall_z mixed xf3 rfl ?_
  unfold xc3 xr3 xn3
  simp -dsimp -implicitDefEqProofs only [go_sem, reduceIte, Nat.reduceEqDiff, Nat.reduceAdd, Nat.reduceSub, Nat.reduceLeDiff, Nat.reduceLT, Nat.reduceMul, Int.reduceToNat, Int.reduceLT, Int.reduceLE, Int.reduceEq, Int.reduceNeg, go_sem, hfc1, hfl, hftk]
  refine zcall_eq xf14 (Nat.le_refl _) (alive14_ok _) ?_
  simp -dsimp -implicitDefEqProofs only [go_sem, reduceIte, Nat.reduceEqDiff, Nat.reduceAdd, Nat.reduceSub, Nat.reduceLeDiff, Nat.reduceLT, Nat.reduceMul, Int.reduceToNat, Int.reduceLT, Int.reduceLE, Int.reduceEq, Int.reduceNeg, go_sem, hfc1, hfl, hftk]
  refine zcall_any xf15 (greatF_ok ok _) ?_
  rintro v h' ⟨⟨big, rfl, hbig⟩, rfl⟩
  refine ⟨Nat.le_refl _, ?_⟩
  cases big with
  | true =>
    simp -dsimp -implicitDefEqProofs only [go_sem, reduceIte, Nat.reduceEqDiff, Nat.reduceAdd, Nat.reduceSub, Nat.reduceLeDiff, Nat.reduceLT, Nat.reduceMul, Int.reduceToNat, Int.reduceLT, Int.reduceLE, Int.reduceEq, Int.reduceNeg, go_sem]
    exact fend_cut (.lit _) ⟨rfl, rfl⟩
  | false =>
  have h20 := hbig rfl
  clear hbig
  have hlb : (fbs f).length = f.blocks.length := by simp [fbs]
  simp -dsimp -implicitDefEqProofs only [go_sem, reduceIte, Nat.reduceEqDiff, Nat.reduceAdd, Nat.reduceSub, Nat.reduceLeDiff, Nat.reduceLT, Nat.reduceMul, Int.reduceToNat, Int.reduceLT, Int.reduceLE, Int.reduceEq, Int.reduceNeg, go_sem, hfc1, hfl, hftk]
  refine zcall_any xf16 (new_ok (bs := fbs f) rfl rfl rfl (fun h => Elts.fslice (by intro e he; obtain ⟨k, _, rfl⟩ := List.mem_map.1 he; rfl)) (by simp [fbs]) (by omega) (blk_ok ok.fit) _) ?_
  rintro v h' ⟨g, rfl, rfl, G⟩
  refine ⟨Nat.le_refl _, ?_⟩
  have gfit := G.fit (by omega)
  simp -dsimp -implicitDefEqProofs only [go_sem, reduceIte, Nat.reduceEqDiff, Nat.reduceAdd, Nat.reduceSub, Nat.reduceLeDiff, Nat.reduceLT, Nat.reduceMul, Int.reduceToNat, Int.reduceLT, Int.reduceLE, Int.reduceEq, Int.reduceNeg, go_sem]
  refine zcall_any xf17 (domnew_ok gfit _) ?_
  rintro v h' ⟨L, lp, rfl, rfl, h0, D⟩
  refine ⟨Nat.le_refl _, ?_⟩
  rw [hlb] at gfit ⊢
  generalize f.blocks.length = n at h20 gfit
  have hnd : g.order.Nodup ∧ (∀ v ∈ g.order, v < n) ∧ g.order.length ≤ n := by
    rcases gfit.ord with ⟨e, _⟩ | o
    · rw [e]; exact ⟨List.nodup_nil, fun v hv => (by cases hv), Nat.zero_le _⟩
    · exact ⟨o.nd, o.lt, nd_le o.nd o.lt⟩
  obtain ⟨hnd, hlt, hlen⟩ := hnd
  obtain ⟨tcs, ht⟩ : ∃ tcs, treeV n g.order (fun v => g.order.idxOf v) L lp = .fptr tcs 0 := ⟨_, rfl⟩
  rw [ht]
  have hT1 : ∀ h, TreeOn n g.order (fun v => g.order.idxOf v) L (.fptr tcs 0) h := fun h => by rw [← ht]; exact treeV_on
  have hT2 : acells (.fptr tcs 0) = some [.fptr tcs 0] := rfl
  clear ht
  obtain ⟨R, hR⟩ : ∃ R : Int → Int → Bool, ∀ x y, R x y = true ↔ 0 ≤ y ∧ y.toNat ∈ g.order ∧ 0 ≤ x ∧ Anc L y.toNat x.toNat := by
    classical
    exact ⟨fun x y => decide (0 ≤ y ∧ y.toNat ∈ g.order ∧ 0 ≤ x ∧ Anc L y.toNat x.toNat), fun x y => by simp⟩
  have K : ∀ x y h, ACall Tryz.prog 19 [.fptr tcs 0, .lit (.int .i64 x), .lit (.int .i64 y)] h fun r h' => r = .lit (.bool (R x y)) ∧ h' = h := fun x y h => rules_ok D.i1 hlt hT2 (fun l => hT1 _) x y (hR x y)
  have Kr : ∀ y h, ACall Tryz.prog 20 [g.val, .lit (.int .i64 y)] h fun r h' => r = .lit (.bool (R y y)) ∧ h' = h := fun y h => (reached_ok g y h).mono fun r h' ⟨e, e'⟩ => ⟨by
    rw [e]
    show AVal.lit (.bool _) = _
    congr 2
    rw [Bool.eq_iff_iff, hR]
    have := G.reached y.toNat
    simp only [Bool.and_eq_true, decide_eq_true_eq]
    constructor
    · rintro ⟨h1, h2⟩
      have h3 : y.toNat ∈ g.order := this.1 (by cases hq : g.reached[y.toNat]? with
        | none => rw [hq] at h2; cases h2
        | some b => rw [hq] at h2; simp at h2; rw [h2])
      exact ⟨h1, h3, h1, .refl _⟩
    · rintro ⟨h1, h3, _, _⟩
      exact ⟨h1, by rw [this.2 h3]; rfl⟩, e'⟩
  have T0 : R 0 b = R b b := by
    rw [Bool.eq_iff_iff, hR, hR]
    constructor
    · rintro ⟨h1, h2, _, _⟩; exact ⟨h1, h2, h1, .refl _⟩
    · rintro ⟨h1, h2, _, _⟩; exact ⟨h1, h2, Int.le_refl _, D.root _ _ (Nat.le_refl _) h2⟩
  have T1 : R a c = true → R b c = true → R a b = true ∨ R b a = true := by
    simp only [hR]
    rintro ⟨c0, c1, a0, x1⟩ ⟨_, _, b0, x2⟩
    rcases x1.total x2 with h1 | h1
    · exact .inr ⟨a0, D.mem x1 c1, b0, h1⟩
    · exact .inl ⟨b0, D.mem x2 c1, a0, h1⟩
  have T2 : R a b = true → R b c = true → R a c = true := by
    simp only [hR]
    rintro ⟨b0, b1, a0, x1⟩ ⟨c0, c1, _, x2⟩
    exact ⟨c0, c1, a0, x2.trans x1⟩
  have T3 : R a b = true → R b a = true → a = b := by
    simp only [hR]
    rintro ⟨b0, b1, a0, x1⟩ ⟨_, _, _, x2⟩
    have h1 := x1.place D.down
    have h2 := x2.place D.down
    rcases h1 with h1 | h1 <;> rcases h2 with h2 | h2 <;> omega
  have T4 : ∀ x y, R x y = true → R x x = true ∧ R y y = true := by
    simp only [hR]
    rintro x y ⟨y0, y1, x0, h1⟩
    exact ⟨⟨x0, D.mem h1 y1, x0, .refl _⟩, y0, y1, y0, .refl _⟩
  have P1 := fun e => (T4 a b e).2
  have P2 := fun e => (T4 b c e).1
  have P3 := fun e => (T4 b a e).1
  have P4 := fun e => (T4 a c e).1
  clear T4
  obtain ⟨gcs, hg⟩ : ∃ gcs, g.val = .fptr gcs 0 := ⟨_, rfl⟩
  rw [hg] at Kr ⊢
  clear hg
  simp -dsimp -implicitDefEqProofs only [go_sem, reduceIte, Nat.reduceEqDiff, Nat.reduceAdd, Nat.reduceSub, Nat.reduceLeDiff, Nat.reduceLT, Nat.reduceMul, Int.reduceToNat, Int.reduceLT, Int.reduceLE, Int.reduceEq, Int.reduceNeg, go_sem]
  refine zcall_eq xf18 (by simp) (lords_ok hT2 b) ?_
  simp -dsimp -implicitDefEqProofs only [go_sem, reduceIte, Nat.reduceEqDiff, Nat.reduceAdd, Nat.reduceSub, Nat.reduceLeDiff, Nat.reduceLT, Nat.reduceMul, Int.reduceToNat, Int.reduceLT, Int.reduceLE, Int.reduceEq, Int.reduceNeg, go_sem]
  refine zw_rangeT rfl rfl (xfunc_ok xf61).1 ?_
  intro T hT
  simp -dsimp -implicitDefEqProofs only [go_sem, reduceIte, Nat.reduceEqDiff, Nat.reduceAdd, Nat.reduceSub, Nat.reduceLeDiff, Nat.reduceLT, Nat.reduceMul, Int.reduceToNat, Int.reduceLT, Int.reduceLE, Int.reduceEq, Int.reduceNeg, go_sem]
  have t2 : T.get 2 = .lit (.int .i64 b) := by rw [hT]; simp -dsimp -implicitDefEqProofs only [go_sem, reduceIte, Nat.reduceEqDiff, Nat.reduceAdd, Nat.reduceSub, Nat.reduceLeDiff, Nat.reduceLT, Nat.reduceMul, Int.reduceToNat, Int.reduceLT, Int.reduceLE, Int.reduceEq, Int.reduceNeg, go_sem]
  have t3 : T.get 3 = .lit (.int .i64 c) := by rw [hT]; simp -dsimp -implicitDefEqProofs only [go_sem, reduceIte, Nat.reduceEqDiff, Nat.reduceAdd, Nat.reduceSub, Nat.reduceLeDiff, Nat.reduceLT, Nat.reduceMul, Int.reduceToNat, Int.reduceLT, Int.reduceLE, Int.reduceEq, Int.reduceNeg, go_sem]
  have t5 : T.get 5 = .ptr (h.length + 1) 0 0 := by rw [hT]; simp -dsimp -implicitDefEqProofs only [go_sem, reduceIte, Nat.reduceEqDiff, Nat.reduceAdd, Nat.reduceSub, Nat.reduceLeDiff, Nat.reduceLT, Nat.reduceMul, Int.reduceToNat, Int.reduceLT, Int.reduceLE, Int.reduceEq, Int.reduceNeg, go_sem]
  have t8 : T.get 8 = .ptr (h.length + 2) 0 0 := by rw [hT]; simp -dsimp -implicitDefEqProofs only [go_sem, reduceIte, Nat.reduceEqDiff, Nat.reduceAdd, Nat.reduceSub, Nat.reduceLeDiff, Nat.reduceLT, Nat.reduceMul, Int.reduceToNat, Int.reduceLT, Int.reduceLE, Int.reduceEq, Int.reduceNeg, go_sem]
  have t9 : T.get 9 = .fptr gcs 0 := by rw [hT]; simp -dsimp -implicitDefEqProofs only [go_sem, reduceIte, Nat.reduceEqDiff, Nat.reduceAdd, Nat.reduceSub, Nat.reduceLeDiff, Nat.reduceLT, Nat.reduceMul, Int.reduceToNat, Int.reduceLT, Int.reduceLE, Int.reduceEq, Int.reduceNeg, go_sem]
  have t10 : T.get 10 = .fptr tcs 0 := by rw [hT]; simp -dsimp -implicitDefEqProofs only [go_sem, reduceIte, Nat.reduceEqDiff, Nat.reduceAdd, Nat.reduceSub, Nat.reduceLeDiff, Nat.reduceLT, Nat.reduceMul, Int.reduceToNat, Int.reduceLT, Int.reduceLE, Int.reduceEq, Int.reduceNeg, go_sem]
  have t11 : T.get 11 = .ptr (h.length + 3) 0 0 := by rw [hT]; simp -dsimp -implicitDefEqProofs only [go_sem, reduceIte, Nat.reduceEqDiff, Nat.reduceAdd, Nat.reduceSub, Nat.reduceLeDiff, Nat.reduceLT, Nat.reduceMul, Int.reduceToNat, Int.reduceLT, Int.reduceLE, Int.reduceEq, Int.reduceNeg, go_sem]
  have t12 : T.get 12 = .ptr (h.length + 4) 0 0 := by rw [hT]; simp -dsimp -implicitDefEqProofs only [go_sem, reduceIte, Nat.reduceEqDiff, Nat.reduceAdd, Nat.reduceSub, Nat.reduceLeDiff, Nat.reduceLT, Nat.reduceMul, Int.reduceToNat, Int.reduceLT, Int.reduceLE, Int.reduceEq, Int.reduceNeg, go_sem]
  clear hT
  let Lp (st : LoopState) (pe : Option Code) : AObj := .loop 125 T #[31] (bodyAt Tryz.prog 3 [1, 1, 1, 1, 1, 1, 1, 1, 0, 1, 0, 0]) (bodyAt Tryz.prog 3 [1, 1, 1, 1, 1, 1, 1, 1, 0, 1, 0, 1]) st pe (h.length + 7)
  let HH (m : Bool) (N : Nat) (cur : Int) : AHeap := h ++ [some (.rows [f.cells]), some (.rows [[.lit (.int .i64 a)]]), some (.rows [[.lit (.bool false)]]), some (.rows [[.lit (.bool m)]]), some (.rows [[.lit (.int .i64 N)]]), some (.rows [[.fptr tcs 0]]), some (.rows [[.lit (.int .i64 cur)]]), some .defd, some (Lp .ready none)]
  have key := lords1_ok (n := n) (ord := g.order) (pl := fun v => g.order.idxOf v) (L := L) (tv := .fptr tcs 0) (h := HH false 0 b) D.i1 hlt (Y := .yieldf (h.length + 8)) (A := h.length + 5) (B := h.length + 6)
    (fun v h' => ∃ m N, h' = HH m N v ∧ (R a b = true ↔ m = true ∨ 0 ≤ a ∧ Anc L v a.toNat) ∧ N + g.order.idxOf v ≤ 20)
    (fun v h' => ∃ m N, h' = HH m N v ∧ (R a b = true ↔ m = true ∨ 0 ≤ a ∧ ∃ l, L v = some l ∧ Anc L l a.toNat) ∧ N + g.order.idxOf v ≤ 21)
    (fun h' => ∃ N cur, h' = HH (R a b) N cur)
    ?_ ?_ ?_ ?_ b ?_ ?_ ?_ ?_ ?_
  · refine key.mono fun v h' ⟨_, N, cur, e⟩ => ?_
    subst e
    refine ⟨.ready, none, ?_, (fun e => by cases e), ?_, ?_⟩
    · simp -dsimp -implicitDefEqProofs only [go_sem, reduceIte, Nat.reduceEqDiff, Nat.reduceAdd, Nat.reduceSub, Nat.reduceLeDiff, Nat.reduceLT, Nat.reduceMul, Int.reduceToNat, Int.reduceLT, Int.reduceLE, Int.reduceEq, Int.reduceNeg, go_sem, HH]; rfl
    · simp [HH]
    · simp -dsimp -implicitDefEqProofs only [go_sem, reduceIte, Nat.reduceEqDiff, Nat.reduceAdd, Nat.reduceSub, Nat.reduceLeDiff, Nat.reduceLT, Nat.reduceMul, Int.reduceToNat, Int.reduceLT, Int.reduceLE, Int.reduceEq, Int.reduceNeg, go_sem, HH, set_new, t2, t3, t5, t8, t9, t10, t11, t12]
      refine zw_draw0 rfl ?_
      simp -dsimp -implicitDefEqProofs only [go_sem, reduceIte, Nat.reduceEqDiff, Nat.reduceAdd, Nat.reduceSub, Nat.reduceLeDiff, Nat.reduceLT, Nat.reduceMul, Int.reduceToNat, Int.reduceLT, Int.reduceLE, Int.reduceEq, Int.reduceNeg, go_sem, HH, set_new, t2, t3, t5, t8, t9, t10, t11, t12]
      have b1 : (true == true) = true := rfl
      have b2 : (true == false) = false := rfl
      have b3 : (false == true) = false := rfl
      have b4 : (false == false) = true := rfl
      clear key hR
      by_cases hE : a = b
      · subst hE
        cases hab : R a a <;> cases hac : R a c <;> rw [hab] at T0 <;> rw [hab, hac] at P4 <;> first | exact absurd (P4 rfl) Bool.false_ne_true | skip
        all_goals repeat (first
          | refine ⟨_, _, .inl ⟨(xfunc_ok xf19).1, K _ _ _⟩, ?_⟩
          | refine ⟨_, _, .inl ⟨(xfunc_ok xf20).1, Kr _ _⟩, ?_⟩
          | refine zcall_eq xf19 (Nat.le_refl _) (K _ _ _) ?_
          | refine zcall_eq xf20 (Nat.le_refl _) (Kr _ _) ?_
          | exact fend_cut (.lit _) ⟨rfl, rfl⟩
          | simp -dsimp -implicitDefEqProofs only [go_sem, reduceIte, Nat.reduceEqDiff, Nat.reduceAdd, Nat.reduceSub, Nat.reduceLeDiff, Nat.reduceLT, Nat.reduceMul, Int.reduceToNat, Int.reduceLT, Int.reduceLE, Int.reduceEq, Int.reduceNeg, go_sem, HH, set_new, t2, t3, t5, t8, t9, t10, t11, t12, hab, hac, T0, Bool.not_true, Bool.not_false, b1, b2, b3, b4, decide_false, decide_true])
      · cases hab : R a b <;> cases hac : R a c <;> cases hbc : R b c <;> cases hba : R b a <;> rw [hab, hac, hbc] at T2 <;> rw [hac, hbc, hab, hba] at T1 <;> rw [hab, hba] at T3 <;> first
          | exact absurd (T3 rfl rfl) hE
          | exact absurd (T2 rfl rfl) Bool.false_ne_true
          | (exact (T1 rfl rfl).elim (fun e => absurd e Bool.false_ne_true) (fun e => absurd e Bool.false_ne_true))
          | skip
        all_goals cases hbb : R b b
        all_goals rw [hbb] at T0 P1 P2 P3
        all_goals first
          | exact absurd (P1 hab) Bool.false_ne_true
          | exact absurd (P2 hbc) Bool.false_ne_true
          | exact absurd (P3 hba) Bool.false_ne_true
          | skip
        all_goals repeat (first
          | refine ⟨_, _, .inl ⟨(xfunc_ok xf19).1, K _ _ _⟩, ?_⟩
          | refine ⟨_, _, .inl ⟨(xfunc_ok xf20).1, Kr _ _⟩, ?_⟩
          | refine zcall_eq xf19 (Nat.le_refl _) (K _ _ _) ?_
          | refine zcall_eq xf20 (Nat.le_refl _) (Kr _ _) ?_
          | exact fend_cut (.lit _) ⟨rfl, rfl⟩
          | simp -dsimp -implicitDefEqProofs only [go_sem, reduceIte, Nat.reduceEqDiff, Nat.reduceAdd, Nat.reduceSub, Nat.reduceLeDiff, Nat.reduceLT, Nat.reduceMul, Int.reduceToNat, Int.reduceLT, Int.reduceLE, Int.reduceEq, Int.reduceNeg, go_sem, HH, set_new, t2, t3, t5, t8, t9, t10, t11, t12, hab, hac, hbc, hba, hbb, T0, hE, Bool.not_true, Bool.not_false, b1, b2, b3, b4, decide_false, decide_true])
  · rintro v h' hv (⟨m, N, rfl, _⟩ | ⟨m, N, rfl, _⟩)
    · exact ⟨by simp -dsimp -implicitDefEqProofs only [go_sem, reduceIte, Nat.reduceEqDiff, Nat.reduceAdd, Nat.reduceSub, Nat.reduceLeDiff, Nat.reduceLT, Nat.reduceMul, Int.reduceToNat, Int.reduceLT, Int.reduceLE, Int.reduceEq, Int.reduceNeg, go_sem, HH], by simp -dsimp -implicitDefEqProofs only [go_sem, reduceIte, Nat.reduceEqDiff, Nat.reduceAdd, Nat.reduceSub, Nat.reduceLeDiff, Nat.reduceLT, Nat.reduceMul, Int.reduceToNat, Int.reduceLT, Int.reduceLE, Int.reduceEq, Int.reduceNeg, go_sem, HH], hT1 _⟩
    · exact ⟨by simp -dsimp -implicitDefEqProofs only [go_sem, reduceIte, Nat.reduceEqDiff, Nat.reduceAdd, Nat.reduceSub, Nat.reduceLeDiff, Nat.reduceLT, Nat.reduceMul, Int.reduceToNat, Int.reduceLT, Int.reduceLE, Int.reduceEq, Int.reduceNeg, go_sem, HH], by simp -dsimp -implicitDefEqProofs only [go_sem, reduceIte, Nat.reduceEqDiff, Nat.reduceAdd, Nat.reduceSub, Nat.reduceLeDiff, Nat.reduceLT, Nat.reduceMul, Int.reduceToNat, Int.reduceLT, Int.reduceLE, Int.reduceEq, Int.reduceNeg, go_sem, HH], hT1 _⟩
  · rintro v h' hv ⟨m, N, rfl, hpv, hN⟩
    have hw : IntKind.i64.wrap ((N : Int) + 1) = (N : Int) + 1 := wrapI (by omega) (by omega)
    have hc : ¬ (100 : Int) < (N : Int) + 1 := by omega
    refine ⟨true, HH (m || decide ((v : Int) = a)) (N + 1) v, ?_, by simp [HH], fun _ => ⟨_, _, rfl, ?_, ?_⟩, fun e => by cases e⟩
    · refine ayield_z mixed (by simp -dsimp -implicitDefEqProofs only [go_sem, reduceIte, Nat.reduceEqDiff, Nat.reduceAdd, Nat.reduceSub, Nat.reduceLeDiff, Nat.reduceLT, Nat.reduceMul, Int.reduceToNat, Int.reduceLT, Int.reduceLE, Int.reduceEq, Int.reduceNeg, go_sem, HH]; rfl) rfl (by rfl) xaf3_0 xbf3_0 ?_
      unfold xa3_0 xb3_0
      cases m with
      | true =>
        simp -dsimp -implicitDefEqProofs only [go_sem, reduceIte, Nat.reduceEqDiff, Nat.reduceAdd, Nat.reduceSub, Nat.reduceLeDiff, Nat.reduceLT, Nat.reduceMul, Int.reduceToNat, Int.reduceLT, Int.reduceLE, Int.reduceEq, Int.reduceNeg, go_sem, HH, Lp, putParams, t2, t3, t5, t8, t9, t10, t11, t12, hw, hc, decide_false]
        refine ⟨none, by simp -dsimp -implicitDefEqProofs only [go_sem, reduceIte, Nat.reduceEqDiff, Nat.reduceAdd, Nat.reduceSub, Nat.reduceLeDiff, Nat.reduceLT, Nat.reduceMul, Int.reduceToNat, Int.reduceLT, Int.reduceLE, Int.reduceEq, Int.reduceNeg, go_sem], .all ⟨rfl, ?_⟩⟩
        simp -dsimp -implicitDefEqProofs only [go_sem, reduceIte, Nat.reduceEqDiff, Nat.reduceAdd, Nat.reduceSub, Nat.reduceLeDiff, Nat.reduceLT, Nat.reduceMul, Int.reduceToNat, Int.reduceLT, Int.reduceLE, Int.reduceEq, Int.reduceNeg, go_sem]
        rfl
      | false =>
        simp -dsimp -implicitDefEqProofs only [go_sem, reduceIte, Nat.reduceEqDiff, Nat.reduceAdd, Nat.reduceSub, Nat.reduceLeDiff, Nat.reduceLT, Nat.reduceMul, Int.reduceToNat, Int.reduceLT, Int.reduceLE, Int.reduceEq, Int.reduceNeg, go_sem, HH, Lp, putParams, t2, t3, t5, t8, t9, t10, t11, t12, hw, hc, decide_false]
        refine ⟨none, by simp -dsimp -implicitDefEqProofs only [go_sem, reduceIte, Nat.reduceEqDiff, Nat.reduceAdd, Nat.reduceSub, Nat.reduceLeDiff, Nat.reduceLT, Nat.reduceMul, Int.reduceToNat, Int.reduceLT, Int.reduceLE, Int.reduceEq, Int.reduceNeg, go_sem], .all ⟨rfl, ?_⟩⟩
        simp -dsimp -implicitDefEqProofs only [go_sem, reduceIte, Nat.reduceEqDiff, Nat.reduceAdd, Nat.reduceSub, Nat.reduceLeDiff, Nat.reduceLT, Nat.reduceMul, Int.reduceToNat, Int.reduceLT, Int.reduceLE, Int.reduceEq, Int.reduceNeg, go_sem]
        rfl
    · rw [hpv, Bool.or_eq_true, decide_eq_true_eq]
      constructor
      · rintro (h1 | ⟨h1, h2⟩)
        · exact .inl (.inl h1)
        · rcases h2.cases' with e | h2
          · exact .inl (.inr (by omega))
          · exact .inr ⟨h1, h2⟩
      · rintro ((h1 | h1) | ⟨h1, l, h2, h3⟩)
        · exact .inl h1
        · exact .inr ⟨by omega, by rw [← h1]; exact .refl _⟩
        · exact .inr ⟨h1, .step h2 h3⟩
    · omega
  · rintro v h' hv ⟨m, N, rfl, hpv, hN⟩ hl
    refine ⟨N, v, ?_⟩
    have : R a b = m := by
      rw [Bool.eq_iff_iff, hpv]
      constructor
      · rintro (h1 | ⟨_, l, h2, _⟩)
        · exact h1
        · rw [hl] at h2; cases h2
      · exact .inl
    rw [this]
  · rintro v l h' hv ⟨m, N, rfl, hpv, hN⟩ hl
    refine ⟨m, N, by simp -dsimp -implicitDefEqProofs only [go_sem, reduceIte, Nat.reduceEqDiff, Nat.reduceAdd, Nat.reduceSub, Nat.reduceLeDiff, Nat.reduceLT, Nat.reduceMul, Int.reduceToNat, Int.reduceLT, Int.reduceLE, Int.reduceEq, Int.reduceNeg, go_sem, HH], ?_, ?_⟩
    · rw [hpv, hl]; simp
    · have := (D.i1 v l hl).2.2; omega
  · simp -dsimp -implicitDefEqProofs only [go_sem, reduceIte, Nat.reduceEqDiff, Nat.reduceAdd, Nat.reduceSub, Nat.reduceLeDiff, Nat.reduceLT, Nat.reduceMul, Int.reduceToNat, Int.reduceLT, Int.reduceLE, Int.reduceEq, Int.reduceNeg, go_sem, HH]
  · simp -dsimp -implicitDefEqProofs only [go_sem, reduceIte, Nat.reduceEqDiff, Nat.reduceAdd, Nat.reduceSub, Nat.reduceLeDiff, Nat.reduceLT, Nat.reduceMul, Int.reduceToNat, Int.reduceLT, Int.reduceLE, Int.reduceEq, Int.reduceNeg, go_sem, HH]
  · exact hT1 _
  · intro hb0 hbo
    refine ⟨false, 0, by simp only [HH, Int.toNat_of_nonneg hb0], (hR a b).trans ⟨fun ⟨_, _, h1, h2⟩ => .inr ⟨h1, h2⟩, fun h => ?_⟩, ?_⟩
    · rcases h with h | ⟨h1, h2⟩
      · cases h
      · exact ⟨hb0, hbo, h1, h2⟩
    · have := List.idxOf_lt_length_of_mem hbo; omega
  · intro hb
    refine ⟨0, b, ?_⟩
    have : R a b = false := by
      rw [← Bool.not_eq_true, hR]
      rintro ⟨h1, h2, _, _⟩
      exact hb ⟨h1, h2⟩
    rw [this]
end Go.AL
