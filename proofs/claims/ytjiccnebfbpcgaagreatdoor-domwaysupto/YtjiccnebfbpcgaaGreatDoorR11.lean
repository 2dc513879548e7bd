/- All places of a function. -/
import Derived.Test.YtjiccnebfbpcgaaGreatDoorR10
set_option linter.unusedSimpArgs false
set_option linter.unusedVariables false
set_option linter.unusedSectionVars false
namespace Go.AL
open Go.Proofs
def toL (p : Pl) : List Pl := if p.1 = [] then [] else [p]
def usesS (s : GStmt) : List Pl := s.args ++ toL s.to
def usesB (b : GBlock) : List Pl := (b.stmts.map usesS).flatten ++ (b.term.args ++ toL b.term.to)
def usesF (f : GFunc) : List Pl := (f.blocks.map usesB).flatten
theorem fl_step {α β : Type} {l : List α} {f : α → List β} {j : Nat} (hj : j < l.length) : ((l.take (j + 1)).map f).flatten = ((l.take j).map f).flatten ++ f (l[j]'hj) := by
  rw [List.take_add_one, List.getElem?_eq_getElem hj]; simp only [Option.toList_some, List.map_append, List.map_cons, List.map_nil, List.flatten_append, List.flatten_cons, List.flatten_nil, List.append_nil]
theorem fl_le {α β : Type} {f : α → List β} : ∀ (l : List α) (j : Nat), ((l.take j).map f).flatten.length ≤ (l.map f).flatten.length
  | [], j => by simp
  | x :: l, 0 => by simp
  | x :: l, j + 1 => by
    have := fl_le (f := f) l j
    simp only [List.take_succ_cons, List.map_cons, List.flatten_cons, List.length_append]; omega
theorem fl_one {α β : Type} {f : α → List β} {l : List α} {j : Nat} (hj : j < l.length) : ((l.take j).map f).flatten.length + (f (l[j]'hj)).length ≤ (l.map f).flatten.length := by
  have := fl_le (f := f) l (j + 1)
  rw [fl_step hj, List.length_append] at this; exact this
theorem placesV_app {a b : List Pl} : placesV (a ++ b) = placesV a ++ placesV b := by simp [placesV]
structure USt (h : AHeap) (A : Nat) (ps : List Pl) (h2 : AHeap) : Prop where
  ov : Over h h2
  am : h.length ≤ A
  r : hget h2 A = some (.rows (placesV ps))
theorem USt.more {h h2 : AHeap} {A : Nat} {ps qs : List Pl} {l : AHeap} (s : USt h A ps h2) : USt h (h2 ++ l).length (ps ++ qs) (List.set (h2 ++ l) A none ++ [some (.rows (placesV ps ++ placesV qs))]) := by
  have o := s.ov
  refine ⟨(Over.set o.snoc s.am).snoc, by have := o.len; rw [List.length_append]; omega, ?_⟩
  have e : (List.set (h2 ++ l) A none).length = (h2 ++ l).length := by simp
  rw [← e, hget_new0, placesV_app]
  rfl
theorem USt.more0 {h h2 : AHeap} {A : Nat} {ps qs : List Pl} (s : USt h A ps h2) : USt h h2.length (ps ++ qs) (List.set h2 A none ++ [some (.rows (placesV ps ++ placesV qs))]) := by
  have := s.more (l := []) (qs := qs)
  simpa using this
theorem take_places {ps : List Pl} : (placesV ps).take ps.length = placesV ps := List.take_of_length_le (by rw [placesV_len]; exact Nat.le_refl _)
theorem take_places2 {ps qs : List Pl} : (placesV ps ++ placesV qs).take (ps.length + qs.length) = placesV ps ++ placesV qs := List.take_of_length_le (by rw [List.length_append, placesV_len, placesV_len]; exact Nat.le_refl _)
theorem USt.old0 {h2 : AHeap} {A x : Nat} {o y : AObj} (hx : hget h2 x = some y) (hne : A ≠ x) : hget (List.set h2 A none ++ [some o]) x = some y := by
  have lx := hget_lt hx
  rw [hget_append_old (by simp; omega), hget_set_ne hne]; exact hx
theorem USt.old {h h2 : AHeap} {A x : Nat} {ps : List Pl} {o y : AObj} {l : AHeap} (s : USt h A ps h2) (hx : hget h2 x = some y) (hne : A ≠ x) : hget (List.set (h2 ++ l) A none ++ [some o]) x = some y := by
  have lx := hget_lt hx
  rw [hget_append_old (by simp; omega), hget_set_ne hne, hget_append_old lx]; exact hx
theorem Over.base {h h2 l : AHeap} (o : Over (h ++ l) h2) : Over h h2 := by
  have := o.len
  rw [List.length_append] at this
  refine ⟨?_, by omega⟩
  have t := congrArg (fun l : AHeap => l.take h.length) o.take
  simp only [List.take_take, List.length_append, List.take_left'] at t
  rwa [Nat.min_eq_left (by omega)] at t
theorem toL_ne {p : Pl} (h : ¬ p.1 = []) : toL p = [p] := if_neg h
theorem toL_eq {p : Pl} (h : p.1 = []) : toL p = [] := if_pos h
set_option maxHeartbeats 1000000 in
theorem uses_ok {f : GFunc} (fit : FuncFit f) (hN : (usesF f).length ≤ 4294967296) (h : AHeap) :
    ACall Tryz.prog 87 [.agg f.cells] h fun r h' => ∃ A, r = .slice A 2 0 (usesF f).length none ∧ USt h A (usesF f) h' := by
  have hfb := fit.bl
  have hfc : f.cells.length = 6 := rfl
  have hf1 : f.cells.all AVal.cell1 = true := rfl
  have hf5 : f.cells.drop 5 = [.fslice (f.blocks.map GBlock.cells)] := rfl
  refine acall_z mixed xf87 rfl ?_
  unfold xc87 xr87 xn87
  simp -dsimp -implicitDefEqProofs only [go_sem, reduceIte, Nat.reduceEqDiff, Nat.reduceAdd, Nat.reduceSub, Nat.reduceLeDiff, Nat.reduceLT, Nat.reduceMul, Int.reduceToNat, Int.reduceLT, Int.reduceLE, Int.reduceEq, Int.reduceNeg, go_sem, hf1]
  refine zw_loopDU (j := 3) (a := h.length + 1) (e := 2) (i := 0) (m := 0) (cp := some 0) (by simp -dsimp -implicitDefEqProofs only [go_sem, reduceIte, Nat.reduceEqDiff, Nat.reduceAdd, Nat.reduceSub, Nat.reduceLeDiff, Nat.reduceLT, Nat.reduceMul, Int.reduceToNat, Int.reduceLT, Int.reduceLE, Int.reduceEq, Int.reduceNeg, go_sem]) (fun k t h2 => ∃ i A, i ≤ f.blocks.length ∧ k = f.blocks.length - i ∧ USt (h ++ [some (.rows [f.cells])]) A ((f.blocks.take i).map usesB).flatten h2 ∧ t.get 1 = .ptr h.length 0 0 ∧ t.get 4 = .lit (.int .i64 i) ∧
    t.get 3 = .slice A 2 0 ((f.blocks.take i).map usesB).flatten.length none) f.blocks.length
    ⟨0, h.length + 1, Nat.zero_le _, rfl, ⟨by rw [show h ++ [some (AObj.rows [f.cells]), some (AObj.rows [])] = (h ++ [some (AObj.rows [f.cells])]) ++ [some (AObj.rows [])] by simp]; exact (Over.refl _).snoc, by simp, by simp -dsimp -implicitDefEqProofs only [go_sem, reduceIte, Nat.reduceEqDiff, Nat.reduceAdd, Nat.reduceSub, Nat.reduceLeDiff, Nat.reduceLT, Nat.reduceMul, Int.reduceToNat, Int.reduceLT, Int.reduceLE, Int.reduceEq, Int.reduceNeg, go_sem]; rfl⟩, by simp -dsimp -implicitDefEqProofs only [go_sem, reduceIte, Nat.reduceEqDiff, Nat.reduceAdd, Nat.reduceSub, Nat.reduceLeDiff, Nat.reduceLT, Nat.reduceMul, Int.reduceToNat, Int.reduceLT, Int.reduceLE, Int.reduceEq, Int.reduceNeg, go_sem], by simp -dsimp -implicitDefEqProofs only [go_sem, reduceIte, Nat.reduceEqDiff, Nat.reduceAdd, Nat.reduceSub, Nat.reduceLeDiff, Nat.reduceLT, Nat.reduceMul, Int.reduceToNat, Int.reduceLT, Int.reduceLE, Int.reduceEq, Int.reduceNeg, go_sem]; rfl, by simp -dsimp -implicitDefEqProofs only [go_sem, reduceIte, Nat.reduceEqDiff, Nat.reduceAdd, Nat.reduceSub, Nat.reduceLeDiff, Nat.reduceLT, Nat.reduceMul, Int.reduceToNat, Int.reduceLT, Int.reduceLE, Int.reduceEq, Int.reduceNeg, go_sem]; rfl⟩ ?_
  rintro k t h2 ⟨i, A, hi, rfl, us, t1, t4, t3⟩
  have m1 : hget h2 h.length = some (.rows [f.cells]) := by rw [us.ov.old (by simp)]; simp -dsimp -implicitDefEqProofs only [go_sem, reduceIte, Nat.reduceEqDiff, Nat.reduceAdd, Nat.reduceSub, Nat.reduceLeDiff, Nat.reduceLT, Nat.reduceMul, Int.reduceToNat, Int.reduceLT, Int.reduceLE, Int.reduceEq, Int.reduceNeg, go_sem]
  simp -dsimp -implicitDefEqProofs only [go_sem, reduceIte, Nat.reduceEqDiff, Nat.reduceAdd, Nat.reduceSub, Nat.reduceLeDiff, Nat.reduceLT, Nat.reduceMul, Int.reduceToNat, Int.reduceLT, Int.reduceLE, Int.reduceEq, Int.reduceNeg, go_sem, t1, t4, m1, hf5, hfc, List.length_map]
  by_cases hl : (i : Int) < (f.blocks.length : Int)
  · have hl2 : i < f.blocks.length := by omega
    have hw : IntKind.i64.wrap ((i : Int) + 1) = (i : Int) + 1 := wrapI (by omega) (by omega)
    have hbg : (f.blocks.map GBlock.cells)[i]? = some (f.blocks[i]'hl2).cells := by simp [hl2]
    have hbfit := fit.bs _ (List.getElem_mem hl2)
    have hbst := fl_step (f := usesB) hl2
    have hbone := fl_one (f := usesB) hl2
    generalize f.blocks[i]'hl2 = b at hbg hbfit hbst hbone
    generalize hps : ((f.blocks.take i).map usesB).flatten = ps0 at us t3 hbst hbone
    have hbl11 : b.cells.length = 11 := rfl
    have hbtk : b.cells.take 11 = b.cells := List.take_of_length_le (by rw [hbl11]; exact Nat.le_refl _)
    have hbc1 : b.cells.all AVal.cell1 = true := rfl
    have hd2 : b.cells.drop 2 = .fslice (b.stmts.map GStmt.cells) :: b.cells.drop 3 := rfl
    have hNl : ps0.length + (usesB b).length ≤ 4294967296 := by unfold usesF at hN; omega
    simp -dsimp -implicitDefEqProofs only [go_sem, reduceIte, Nat.reduceEqDiff, Nat.reduceAdd, Nat.reduceSub, Nat.reduceLeDiff, Nat.reduceLT, Nat.reduceMul, Int.reduceToNat, Int.reduceLT, Int.reduceLE, Int.reduceEq, Int.reduceNeg, go_sem, hl, decide_true, t1, t4, m1, hf5, hfc, hbg, hbl11, hbtk, hbc1]
    -- its statements
    generalize hA5 : h2.length = A5
    have lA := hget_lt us.r
    refine zw_loopD (fun k t h3 => ∃ u A, u ≤ b.stmts.length ∧ k = b.stmts.length - u ∧ USt (h ++ [some (.rows [f.cells])]) A (ps0 ++ ((b.stmts.take u).map usesS).flatten) h3 ∧ hget h3 A5 = some (.rows [b.cells]) ∧ A ≠ A5 ∧ t.get 1 = .ptr h.length 0 0 ∧ t.get 4 = .lit (.int .i64 i) ∧ t.get 5 = .ptr A5 0 0 ∧ t.get 6 = .lit (.int .i64 u) ∧
      t.get 3 = .slice A 2 0 (ps0 ++ ((b.stmts.take u).map usesS).flatten).length none) b.stmts.length
      ⟨0, A, Nat.zero_le _, rfl, ⟨us.ov.snoc, us.am, by rw [hget_append_old lA]; simpa using us.r⟩, by rw [← hA5]; simp -dsimp -implicitDefEqProofs only [go_sem, reduceIte, Nat.reduceEqDiff, Nat.reduceAdd, Nat.reduceSub, Nat.reduceLeDiff, Nat.reduceLT, Nat.reduceMul, Int.reduceToNat, Int.reduceLT, Int.reduceLE, Int.reduceEq, Int.reduceNeg, go_sem], by omega, by simp -dsimp -implicitDefEqProofs only [go_sem, reduceIte, Nat.reduceEqDiff, Nat.reduceAdd, Nat.reduceSub, Nat.reduceLeDiff, Nat.reduceLT, Nat.reduceMul, Int.reduceToNat, Int.reduceLT, Int.reduceLE, Int.reduceEq, Int.reduceNeg, go_sem, t1], by simp -dsimp -implicitDefEqProofs only [go_sem, reduceIte, Nat.reduceEqDiff, Nat.reduceAdd, Nat.reduceSub, Nat.reduceLeDiff, Nat.reduceLT, Nat.reduceMul, Int.reduceToNat, Int.reduceLT, Int.reduceLE, Int.reduceEq, Int.reduceNeg, go_sem, t4], by simp -dsimp -implicitDefEqProofs only [go_sem, reduceIte, Nat.reduceEqDiff, Nat.reduceAdd, Nat.reduceSub, Nat.reduceLeDiff, Nat.reduceLT, Nat.reduceMul, Int.reduceToNat, Int.reduceLT, Int.reduceLE, Int.reduceEq, Int.reduceNeg, go_sem, hA5], by simp -dsimp -implicitDefEqProofs only [go_sem, reduceIte, Nat.reduceEqDiff, Nat.reduceAdd, Nat.reduceSub, Nat.reduceLeDiff, Nat.reduceLT, Nat.reduceMul, Int.reduceToNat, Int.reduceLT, Int.reduceLE, Int.reduceEq, Int.reduceNeg, go_sem]; rfl, by simp -dsimp -implicitDefEqProofs only [go_sem, reduceIte, Nat.reduceEqDiff, Nat.reduceAdd, Nat.reduceSub, Nat.reduceLeDiff, Nat.reduceLT, Nat.reduceMul, Int.reduceToNat, Int.reduceLT, Int.reduceLE, Int.reduceEq, Int.reduceNeg, go_sem, t3]; simp⟩ ?_
    clear lA us hps t1 t3 t4 t hA5 m1 h2
    rintro k t h3 ⟨u, A, hu, rfl, us, m5, hne, t1, t4, t5, t6, t3⟩
    simp -dsimp -implicitDefEqProofs only [go_sem, reduceIte, Nat.reduceEqDiff, Nat.reduceAdd, Nat.reduceSub, Nat.reduceLeDiff, Nat.reduceLT, Nat.reduceMul, Int.reduceToNat, Int.reduceLT, Int.reduceLE, Int.reduceEq, Int.reduceNeg, go_sem, t5, t6, m5, hd2, hbl11, List.length_map]
    have hbs := hbfit.sl
    by_cases hls : (u : Int) < (b.stmts.length : Int)
    · have hls2 : u < b.stmts.length := by omega
      have hsg : (b.stmts.map GStmt.cells)[u]? = some (b.stmts[u]'hls2).cells := by simp [hls2]
      have hws : IntKind.i64.wrap ((u : Int) + 1) = (u : Int) + 1 := wrapI (by omega) (by omega)
      have hsst := fl_step (f := usesS) hls2
      have hsone := fl_one (f := usesS) hls2
      generalize b.stmts[u]'hls2 = s at hsg hsst hsone
      generalize hpu : ps0 ++ ((b.stmts.take u).map usesS).flatten = ps at us t3
      have hL : ps0 ++ ((b.stmts.take (u + 1)).map usesS).flatten = ps ++ usesS s := by rw [hsst, ← List.append_assoc, hpu]
      have hLl : ps0.length + ((b.stmts.take (u + 1)).map usesS).flatten.length = ps.length + (usesS s).length := by have := congrArg List.length hL; simpa only [List.length_append] using this
      have hpl : ps.length + (usesS s).length ≤ 4294967296 := by
        rw [← hpu, List.length_append]
        have : (usesB b).length = (b.stmts.map usesS).flatten.length + (b.term.args ++ toL b.term.to).length := by unfold usesB; rw [List.length_append]
        omega
      have hsl8 : s.cells.length = 8 := rfl
      have hs7 : s.cells.drop 7 = [.fslice (placesV s.args)] := rfl
      have hs2 : s.cells.drop 2 = .str s.to.1 :: .fslice (strs s.to.2) :: s.cells.drop 4 := rfl
      have hss : (usesS s).length = s.args.length + (toL s.to).length := by unfold usesS; rw [List.length_append]
      have m3 := us.r
      have g5 : ∀ o, hget (List.set h3 A none ++ [some o]) A5 = some (.rows [b.cells]) := fun o => USt.old0 m5 hne
      have u1 := us.more0 (qs := s.args)
      have l5 := hget_lt m5
      have hlen1 : (List.set h3 A none).length = h3.length := by simp
      simp -dsimp -implicitDefEqProofs only [go_sem, reduceIte, Nat.reduceEqDiff, Nat.reduceAdd, Nat.reduceSub, Nat.reduceLeDiff, Nat.reduceLT, Nat.reduceMul, Int.reduceToNat, Int.reduceLT, Int.reduceLE, Int.reduceEq, Int.reduceNeg, go_sem, hls, decide_true, t3, t5, t6, m5, hd2, hbl11, hsg, hsl8, hs7, hs2, m3, placesV_len, g5, take_places]
      refine ⟨placesV_two, by omega, ?_⟩
      by_cases hto : s.to.1 = []
      · simp -dsimp -implicitDefEqProofs only [go_sem, reduceIte, Nat.reduceEqDiff, Nat.reduceAdd, Nat.reduceSub, Nat.reduceLeDiff, Nat.reduceLT, Nat.reduceMul, Int.reduceToNat, Int.reduceLT, Int.reduceLE, Int.reduceEq, Int.reduceNeg, hto, decide_true, t6, hws, g5]
        rw [toL_eq hto] at hss
        refine ⟨b.stmts.length - (u + 1), by omega, u + 1, h3.length, by omega, rfl, ?_, by omega, t1, t4, t5, rfl, ?_⟩
        · rw [hL]; unfold usesS; rw [toL_eq hto, List.append_nil]; exact u1
        · rw [hLl, hss]; rfl
      · rw [toL_ne hto] at hss
        have k1 : ∀ r l, hget (List.set h3 A none ++ (some r :: l)) h3.length = some r := fun r l => by rw [← hlen1, hget_new0]; rfl
        have u2 := u1.more (l := [some (.rows [[.str s.to.1, .fslice (strs s.to.2)]])]) (qs := [s.to])
        have k2 : ∀ r z l, hget (List.set h3 A none ++ (some r :: some z :: l)) (h3.length + 1) = some z := fun r z l => by rw [← hlen1, hget_append_new]; rfl
        have k5 : ∀ r l, hget (List.set h3 A none ++ (some r :: l)) A5 = some (.rows [b.cells]) := fun r l => by rw [hget_append_old (by rw [hlen1]; exact l5), hget_set_ne hne]; exact m5
        simp -dsimp -implicitDefEqProofs only [go_sem, reduceIte, Nat.reduceEqDiff, Nat.reduceAdd, Nat.reduceSub, Nat.reduceLeDiff, Nat.reduceLT, Nat.reduceMul, Int.reduceToNat, Int.reduceLT, Int.reduceLE, Int.reduceEq, Int.reduceNeg, hto, decide_false, t5, t6, g5, hd2, hbl11, hsg, hsl8, hs2, hlen1, k1, k2, take_places, take_places2, placesV_len, hws]
        have hss' : (usesS s).length = s.args.length + 1 := hss
        refine ⟨by omega, b.stmts.length - (u + 1), by omega, u + 1, h3.length + 2, by omega, rfl, ?_, ?_, by omega, t1, t4, rfl, ?_⟩
        · rw [hL]; unfold usesS; rw [toL_ne hto]
          have el : (List.set h3 A none ++ [some (AObj.rows (placesV ps ++ placesV s.args))] ++ [some (AObj.rows [[.str s.to.1, .fslice (strs s.to.2)]])]).length = h3.length + 2 := by simp
          rw [el, placesV_app] at u2
          simp only [List.append_assoc, List.cons_append, List.nil_append] at u2
          exact u2
        · rw [hget_append_old (by simp; omega), hget_set_ne (by omega)]; exact k5 _ _
        · rw [hLl, hss']
    · have hu2 : u = b.stmts.length := by omega
      subst hu2
      rw [List.take_length] at t3 us
      generalize hpu : ps0 ++ (b.stmts.map usesS).flatten = ps at us t3
      have hL : ps0 ++ usesB b = ps ++ (b.term.args ++ toL b.term.to) := by unfold usesB; rw [← List.append_assoc, hpu]
      have hLl : ps0.length + (usesB b).length = ps.length + (b.term.args.length + (toL b.term.to).length) := by have := congrArg List.length hL; simpa only [List.length_append] using this
      have hb8 : b.cells.drop 8 = .fslice (placesV b.term.args) :: b.cells.drop 9 := rfl
      have hb5 : b.cells.drop 5 = .str b.term.to.1 :: .fslice (strs b.term.to.2) :: b.cells.drop 7 := rfl
      have m3 := us.r
      have g5 : ∀ o, hget (List.set h3 A none ++ [some o]) A5 = some (.rows [b.cells]) := fun o => USt.old0 m5 hne
      have u1 := us.more0 (qs := b.term.args)
      have l5 := hget_lt m5
      have hlen1 : (List.set h3 A none).length = h3.length := by simp
      simp -dsimp -implicitDefEqProofs only [go_sem, reduceIte, Nat.reduceEqDiff, Nat.reduceAdd, Nat.reduceSub, Nat.reduceLeDiff, Nat.reduceLT, Nat.reduceMul, Int.reduceToNat, Int.reduceLT, Int.reduceLE, Int.reduceEq, Int.reduceNeg, hls, decide_false, t3, t5, m5, hbl11, hb8, hb5, m3, placesV_len, g5, take_places]
      refine ⟨placesV_two, by omega, ?_⟩
      by_cases hto : b.term.to.1 = []
      · simp -dsimp -implicitDefEqProofs only [go_sem, reduceIte, Nat.reduceEqDiff, Nat.reduceAdd, Nat.reduceSub, Nat.reduceLeDiff, Nat.reduceLT, Nat.reduceMul, Int.reduceToNat, Int.reduceLT, Int.reduceLE, Int.reduceEq, Int.reduceNeg, hto, decide_true, t4, hw]
        rw [toL_eq hto, List.append_nil] at hL
        rw [toL_eq hto] at hLl
        refine ⟨f.blocks.length - (i + 1), by omega, i + 1, h3.length, by omega, rfl, ?_, t1, rfl, ?_⟩
        · rw [hbst, hL]; exact u1
        · rw [hbst, hL, List.length_append]
      · rw [toL_ne hto] at hL hLl
        have hLl' : ps0.length + (usesB b).length = ps.length + (b.term.args.length + 1) := hLl
        have k1 : ∀ r l, hget (List.set h3 A none ++ (some r :: l)) h3.length = some r := fun r l => by rw [← hlen1, hget_new0]; rfl
        have u2 := u1.more (l := [some (.rows [[.str b.term.to.1, .fslice (strs b.term.to.2)]])]) (qs := [b.term.to])
        have k2 : ∀ r z l, hget (List.set h3 A none ++ (some r :: some z :: l)) (h3.length + 1) = some z := fun r z l => by rw [← hlen1, hget_append_new]; rfl
        simp -dsimp -implicitDefEqProofs only [go_sem, reduceIte, Nat.reduceEqDiff, Nat.reduceAdd, Nat.reduceSub, Nat.reduceLeDiff, Nat.reduceLT, Nat.reduceMul, Int.reduceToNat, Int.reduceLT, Int.reduceLE, Int.reduceEq, Int.reduceNeg, hto, decide_false, t4, t5, g5, hbl11, hb5, hlen1, k1, k2, take_places, take_places2, placesV_len, hw]
        refine ⟨by omega, f.blocks.length - (i + 1), by omega, i + 1, h3.length + 2, by omega, rfl, ?_, t1, rfl, ?_⟩
        · rw [hbst, hL]
          have el : (List.set h3 A none ++ [some (AObj.rows (placesV ps ++ placesV b.term.args))] ++ [some (AObj.rows [[.str b.term.to.1, .fslice (strs b.term.to.2)]])]).length = h3.length + 2 := by simp
          rw [el, placesV_app] at u2
          simp only [List.append_assoc, List.cons_append, List.nil_append] at u2
          exact u2
        · rw [hbst, List.length_append, hLl']
  · have hi2 : i = f.blocks.length := by omega
    subst hi2
    rw [List.take_length] at t3 us
    simp -dsimp -implicitDefEqProofs only [go_sem, reduceIte, Nat.reduceEqDiff, Nat.reduceAdd, Nat.reduceSub, Nat.reduceLeDiff, Nat.reduceLT, Nat.reduceMul, Int.reduceToNat, Int.reduceLT, Int.reduceLE, Int.reduceEq, Int.reduceNeg, hl, decide_false, t3]
    exact .all ⟨A, rfl, us.ov.base, by have := us.am; rw [List.length_append] at this; omega, us.r⟩
end Go.AL
namespace Go.AL
open Go.Proofs
theorem Over.trans {h h2 h3 : AHeap} (o : Over h h2) (o' : Over h2 h3) : Over h h3 := by
  refine ⟨?_, Nat.le_trans o.len o'.len⟩
  have t := congrArg (fun l : AHeap => l.take h.length) o'.take
  simp only [List.take_take] at t
  rw [Nat.min_eq_left o.len, o.take] at t
  exact t
set_option maxHeartbeats 4000000 in
theorem great_ok {xs xe xf : AVal} {ss : List GStruct} {es : List GEnum} {fs : List GFunc} {qs qe qf : Nat → Nat → AVal} {h : AHeap} (c1 : xs.cell1 = true) (c2 : xe.cell1 = true) (c3 : xf.cell1 = true)
    (RS : ∀ h2, Over h h2 → Row h2 xs 5 (ss.map GStruct.cells) qs) (RE : ∀ h2, Over h h2 → Row h2 xe 3 (es.map GEnum.cells) qe) (RF : ∀ h2, Over h h2 → Row h2 xf 6 (fs.map GFunc.cells) qf)
    (hs : ss.length < 4294967296) (he : es.length < 4294967296) (hf : fs.length < 4294967296) (fs1 : ∀ s ∈ ss, s.fields.length < 4294967296) (fe1 : ∀ e ∈ es, e.variants.length < 4294967296) (ff1 : ∀ f ∈ fs, FuncFit f)
    (fu : ∀ f ∈ fs, (usesF f).length < 4294967296) (hB : (progB ss es fs).length ≤ 4611686018427387904) : ACall Tryz.prog 41 [.agg [xs, xe, xf]] h fun r h' => (∃ b, r = .lit (.bool b)) ∧ h' = h := by
  have o1 : ∀ l, Over h (h ++ l) := fun l => (Over.refl h).snoc
  have fS := (RS h (.refl h)).form
  have fE := (RE h (.refl h)).form
  have fF := (RF h (.refl h)).form
  refine acall_z mixed xf41 rfl ?_
  unfold xc41 xr41 xn41
  simp -dsimp -implicitDefEqProofs only [go_sem, reduceIte, Nat.reduceEqDiff, Nat.reduceAdd, Nat.reduceSub, Nat.reduceLeDiff, Nat.reduceLT, Nat.reduceMul, Int.reduceToNat, Int.reduceLT, Int.reduceLE, Int.reduceEq, Int.reduceNeg, go_sem, c1, c2, c3, fS, fE, fF, (RS _ (o1 _)).len, (RE _ (o1 _)).len, (RF _ (o1 _)).len, List.length_map]
  by_cases h100 : 100 < IntKind.i64.wrap (IntKind.i64.wrap ((ss.length : Int) + (es.length : Int)) + (fs.length : Int))
  · simp -dsimp -implicitDefEqProofs only [go_sem, reduceIte, Nat.reduceEqDiff, Nat.reduceAdd, Nat.reduceSub, Nat.reduceLeDiff, Nat.reduceLT, Nat.reduceMul, Int.reduceToNat, Int.reduceLT, Int.reduceLE, Int.reduceEq, Int.reduceNeg, h100, decide_true]
    exact fend_cut (.lit _) ⟨⟨_, rfl⟩, rfl⟩
  simp -dsimp -implicitDefEqProofs only [go_sem, reduceIte, Nat.reduceEqDiff, Nat.reduceAdd, Nat.reduceSub, Nat.reduceLeDiff, Nat.reduceLT, Nat.reduceMul, Int.reduceToNat, Int.reduceLT, Int.reduceLE, Int.reduceEq, Int.reduceNeg, h100, decide_false]
  clear h100
  -- the structs
  refine zw_loopD (fun k t h2 => ∃ (j : Nat) (z : Int), j ≤ ss.length ∧ k = ss.length - j ∧ Over h h2 ∧ hget h2 h.length = some (.rows [[xs, xe, xf]]) ∧ t.get 1 = .ptr h.length 0 0 ∧ t.get 4 = .lit (.int .i64 j) ∧ t.get 3 = .lit (.int .i64 z)) ss.length
    ⟨0, _, Nat.zero_le _, rfl, o1 _, by simp -dsimp -implicitDefEqProofs only [go_sem, reduceIte, Nat.reduceEqDiff, Nat.reduceAdd, Nat.reduceSub, Nat.reduceLeDiff, Nat.reduceLT, Nat.reduceMul, Int.reduceToNat, Int.reduceLT, Int.reduceLE, Int.reduceEq, Int.reduceNeg, go_sem], by simp -dsimp -implicitDefEqProofs only [go_sem, reduceIte, Nat.reduceEqDiff, Nat.reduceAdd, Nat.reduceSub, Nat.reduceLeDiff, Nat.reduceLT, Nat.reduceMul, Int.reduceToNat, Int.reduceLT, Int.reduceLE, Int.reduceEq, Int.reduceNeg, go_sem], by simp -dsimp -implicitDefEqProofs only [go_sem, reduceIte, Nat.reduceEqDiff, Nat.reduceAdd, Nat.reduceSub, Nat.reduceLeDiff, Nat.reduceLT, Nat.reduceMul, Int.reduceToNat, Int.reduceLT, Int.reduceLE, Int.reduceEq, Int.reduceNeg, go_sem]; rfl, by simp -dsimp -implicitDefEqProofs only [go_sem, reduceIte, Nat.reduceEqDiff, Nat.reduceAdd, Nat.reduceSub, Nat.reduceLeDiff, Nat.reduceLT, Nat.reduceMul, Int.reduceToNat, Int.reduceLT, Int.reduceLE, Int.reduceEq, Int.reduceNeg, go_sem]; rfl⟩ ?_
  rintro k t h2 ⟨j, z, hj, rfl, ov, m1, t1, t4, t3⟩
  have R := RS h2 ov
  simp -dsimp -implicitDefEqProofs only [go_sem, reduceIte, Nat.reduceEqDiff, Nat.reduceAdd, Nat.reduceSub, Nat.reduceLeDiff, Nat.reduceLT, Nat.reduceMul, Int.reduceToNat, Int.reduceLT, Int.reduceLE, Int.reduceEq, Int.reduceNeg, go_sem, t1, t4, m1, fS, R.len, List.length_map]
  by_cases hl : (j : Int) < (ss.length : Int)
  · have hl2 : j < ss.length := by omega
    have e1 := R.idx j (by rw [List.length_map]; exact hl2)
    have e0 := R.fld j (by rw [List.length_map]; exact hl2)
    have e2 := R.rd j (ss[j]'hl2).cells (by simp [hl2]) 4 1 (by simp [GStruct.cells])
    have hw : IntKind.i64.wrap ((j : Int) + 1) = (j : Int) + 1 := wrapI (by omega) (by omega)
    simp -dsimp -implicitDefEqProofs only [go_sem, reduceIte, Nat.reduceEqDiff, Nat.reduceAdd, Nat.reduceSub, Nat.reduceLeDiff, Nat.reduceLT, Nat.reduceMul, Int.reduceToNat, Int.reduceLT, Int.reduceLE, Int.reduceEq, Int.reduceNeg, go_sem, hl, decide_true, t1, t3, t4, m1, e0, e1, e2, GStruct.cells, hw]
    exact ⟨ss.length - (j + 1), by omega, j + 1, _, by omega, rfl, ov, rfl, rfl⟩
  have hj2 : j = ss.length := by omega
  subst hj2
  simp -dsimp -implicitDefEqProofs only [go_sem, reduceIte, Nat.reduceEqDiff, Nat.reduceAdd, Nat.reduceSub, Nat.reduceLeDiff, Nat.reduceLT, Nat.reduceMul, Int.reduceToNat, Int.reduceLT, Int.reduceLE, Int.reduceEq, Int.reduceNeg, hl, decide_false]
  clear t4 hl
  -- the enums
  refine zw_loopD (fun k t h2 => ∃ (j : Nat) (z : Int), j ≤ es.length ∧ k = es.length - j ∧ Over h h2 ∧ hget h2 h.length = some (.rows [[xs, xe, xf]]) ∧ t.get 1 = .ptr h.length 0 0 ∧ t.get 5 = .lit (.int .i64 j) ∧ t.get 3 = .lit (.int .i64 z)) es.length
    ⟨0, _, Nat.zero_le _, rfl, ov, m1, by simp -dsimp -implicitDefEqProofs only [go_sem, reduceIte, Nat.reduceEqDiff, Nat.reduceAdd, Nat.reduceSub, Nat.reduceLeDiff, Nat.reduceLT, Nat.reduceMul, Int.reduceToNat, Int.reduceLT, Int.reduceLE, Int.reduceEq, Int.reduceNeg, go_sem, t1], by simp -dsimp -implicitDefEqProofs only [go_sem, reduceIte, Nat.reduceEqDiff, Nat.reduceAdd, Nat.reduceSub, Nat.reduceLeDiff, Nat.reduceLT, Nat.reduceMul, Int.reduceToNat, Int.reduceLT, Int.reduceLE, Int.reduceEq, Int.reduceNeg, go_sem]; rfl, by simp -dsimp -implicitDefEqProofs only [go_sem, reduceIte, Nat.reduceEqDiff, Nat.reduceAdd, Nat.reduceSub, Nat.reduceLeDiff, Nat.reduceLT, Nat.reduceMul, Int.reduceToNat, Int.reduceLT, Int.reduceLE, Int.reduceEq, Int.reduceNeg, go_sem, t3]; rfl⟩ ?_
  clear t1 t3 t m1 ov R h2 hj z
  rintro k t h2 ⟨j, z, hj, rfl, ov, m1, t1, t5, t3⟩
  have R := RE h2 ov
  simp -dsimp -implicitDefEqProofs only [go_sem, reduceIte, Nat.reduceEqDiff, Nat.reduceAdd, Nat.reduceSub, Nat.reduceLeDiff, Nat.reduceLT, Nat.reduceMul, Int.reduceToNat, Int.reduceLT, Int.reduceLE, Int.reduceEq, Int.reduceNeg, go_sem, t1, t5, m1, fE, R.len, List.length_map]
  by_cases hl : (j : Int) < (es.length : Int)
  · have hl2 : j < es.length := by omega
    have e1 := R.idx j (by rw [List.length_map]; exact hl2)
    have e0 := R.fld j (by rw [List.length_map]; exact hl2)
    have e2 := R.rd j (es[j]'hl2).cells (by simp [hl2]) 2 1 (by simp [GEnum.cells])
    have hw : IntKind.i64.wrap ((j : Int) + 1) = (j : Int) + 1 := wrapI (by omega) (by omega)
    simp -dsimp -implicitDefEqProofs only [go_sem, reduceIte, Nat.reduceEqDiff, Nat.reduceAdd, Nat.reduceSub, Nat.reduceLeDiff, Nat.reduceLT, Nat.reduceMul, Int.reduceToNat, Int.reduceLT, Int.reduceLE, Int.reduceEq, Int.reduceNeg, go_sem, hl, decide_true, t1, t3, t5, m1, e0, e1, e2, GEnum.cells, hw]
    exact ⟨es.length - (j + 1), by omega, j + 1, _, by omega, rfl, ov, rfl, rfl⟩
  have hj2 : j = es.length := by omega
  subst hj2
  simp -dsimp -implicitDefEqProofs only [go_sem, reduceIte, Nat.reduceEqDiff, Nat.reduceAdd, Nat.reduceSub, Nat.reduceLeDiff, Nat.reduceLT, Nat.reduceMul, Int.reduceToNat, Int.reduceLT, Int.reduceLE, Int.reduceEq, Int.reduceNeg, hl, decide_false]
  clear t5 hl
  -- the functions
  refine zw_loopD (fun k t h2 => ∃ (j : Nat) (z : Int), j ≤ fs.length ∧ k = fs.length - j ∧ Over h h2 ∧ hget h2 h.length = some (.rows [[xs, xe, xf]]) ∧ t.get 1 = .ptr h.length 0 0 ∧ t.get 6 = .lit (.int .i64 j) ∧ t.get 3 = .lit (.int .i64 z)) fs.length
    ⟨0, _, Nat.zero_le _, rfl, ov, m1, by simp -dsimp -implicitDefEqProofs only [go_sem, reduceIte, Nat.reduceEqDiff, Nat.reduceAdd, Nat.reduceSub, Nat.reduceLeDiff, Nat.reduceLT, Nat.reduceMul, Int.reduceToNat, Int.reduceLT, Int.reduceLE, Int.reduceEq, Int.reduceNeg, go_sem, t1], by simp -dsimp -implicitDefEqProofs only [go_sem, reduceIte, Nat.reduceEqDiff, Nat.reduceAdd, Nat.reduceSub, Nat.reduceLeDiff, Nat.reduceLT, Nat.reduceMul, Int.reduceToNat, Int.reduceLT, Int.reduceLE, Int.reduceEq, Int.reduceNeg, go_sem]; rfl, by simp -dsimp -implicitDefEqProofs only [go_sem, reduceIte, Nat.reduceEqDiff, Nat.reduceAdd, Nat.reduceSub, Nat.reduceLeDiff, Nat.reduceLT, Nat.reduceMul, Int.reduceToNat, Int.reduceLT, Int.reduceLE, Int.reduceEq, Int.reduceNeg, go_sem, t3]; rfl⟩ ?_
  clear t1 t3 t m1 ov R h2 hj z
  rintro k t h2 ⟨j, z, hj, rfl, ov, m1, t1, t6, t3⟩
  have R := RF h2 ov
  simp -dsimp -implicitDefEqProofs only [go_sem, reduceIte, Nat.reduceEqDiff, Nat.reduceAdd, Nat.reduceSub, Nat.reduceLeDiff, Nat.reduceLT, Nat.reduceMul, Int.reduceToNat, Int.reduceLT, Int.reduceLE, Int.reduceEq, Int.reduceNeg, go_sem, t1, t6, m1, fF, R.len, List.length_map]
  by_cases hl : (j : Int) < (fs.length : Int)
  · have hl2 : j < fs.length := by omega
    have e1 := R.idx j (by rw [List.length_map]; exact hl2)
    have e2 := R.rd j (fs[j]'hl2).cells (by simp [hl2]) 0 6 (Nat.le_refl _)
    have hfit := ff1 _ (List.getElem_mem hl2)
    have hfu := fu _ (List.getElem_mem hl2)
    have hw : IntKind.i64.wrap ((j : Int) + 1) = (j : Int) + 1 := wrapI (by omega) (by omega)
    generalize fs[j]'hl2 = f at e2 hfit hfu
    have hfl : f.cells.length = 6 := rfl
    have hfc1 : f.cells.all AVal.cell1 = true := rfl
    have hftk : f.cells.take 6 = f.cells := rfl
    have hf2 : f.cells.drop 2 = .fslice (varsV f.params) :: f.cells.drop 3 := rfl
    have hf3 : f.cells.drop 3 = .fslice (varsV f.locals) :: f.cells.drop 4 := rfl
    have hf5 : f.cells.drop 5 = [.fslice (f.blocks.map GBlock.cells)] := rfl
    simp -dsimp -implicitDefEqProofs only [go_sem, reduceIte, Nat.reduceEqDiff, Nat.reduceAdd, Nat.reduceSub, Nat.reduceLeDiff, Nat.reduceLT, Nat.reduceMul, Int.reduceToNat, Int.reduceLT, Int.reduceLE, Int.reduceEq, Int.reduceNeg, go_sem, hl, decide_true, t1, t3, t6, m1, e1, e2, hfl, hfc1, hftk, hf2, hf3, hf5, varsV_len, List.length_map]
    generalize IntKind.i64.wrap (z + IntKind.i64.wrap (IntKind.i64.wrap ((f.params.length : Int) + (f.locals.length : Int)) + (f.blocks.length : Int))) = z1
    by_cases h5 : 5000 < z1
    · simp -dsimp -implicitDefEqProofs only [go_sem, reduceIte, Nat.reduceEqDiff, Nat.reduceAdd, Nat.reduceSub, Nat.reduceLeDiff, Nat.reduceLT, Nat.reduceMul, Int.reduceToNat, Int.reduceLT, Int.reduceLE, Int.reduceEq, Int.reduceNeg, h5, decide_true]
      exact fend_over ov.snoc (.lit _) ⟨⟨_, rfl⟩, rfl⟩
    simp -dsimp -implicitDefEqProofs only [go_sem, reduceIte, Nat.reduceEqDiff, Nat.reduceAdd, Nat.reduceSub, Nat.reduceLeDiff, Nat.reduceLT, Nat.reduceMul, Int.reduceToNat, Int.reduceLT, Int.reduceLE, Int.reduceEq, Int.reduceNeg, h5, decide_false]
    generalize hA7 : h2.length = A7
    have n1 : hget (h2 ++ [some (.rows [f.cells])]) h.length = some (.rows [[xs, xe, xf]]) := by rw [hget_append_old (hget_lt m1)]; exact m1
    have n7 : hget (h2 ++ [some (.rows [f.cells])]) A7 = some (.rows [f.cells]) := by rw [← hA7]; simp -dsimp -implicitDefEqProofs only [go_sem, reduceIte, Nat.reduceEqDiff, Nat.reduceAdd, Nat.reduceSub, Nat.reduceLeDiff, Nat.reduceLT, Nat.reduceMul, Int.reduceToNat, Int.reduceLT, Int.reduceLE, Int.reduceEq, Int.reduceNeg, go_sem]
    -- its blocks
    refine zw_loopD (fun k t h3 => ∃ (i : Nat) (z : Int), i ≤ f.blocks.length ∧ k = f.blocks.length - i ∧ Over h h3 ∧ hget h3 h.length = some (.rows [[xs, xe, xf]]) ∧ hget h3 A7 = some (.rows [f.cells]) ∧ t.get 1 = .ptr h.length 0 0 ∧ t.get 6 = .lit (.int .i64 j) ∧ t.get 7 = .ptr A7 0 0 ∧ t.get 8 = .lit (.int .i64 i) ∧ t.get 3 = .lit (.int .i64 z)) f.blocks.length
      ⟨0, _, Nat.zero_le _, rfl, ov.snoc, n1, n7, by simp -dsimp -implicitDefEqProofs only [go_sem, reduceIte, Nat.reduceEqDiff, Nat.reduceAdd, Nat.reduceSub, Nat.reduceLeDiff, Nat.reduceLT, Nat.reduceMul, Int.reduceToNat, Int.reduceLT, Int.reduceLE, Int.reduceEq, Int.reduceNeg, go_sem, t1], by simp -dsimp -implicitDefEqProofs only [go_sem, reduceIte, Nat.reduceEqDiff, Nat.reduceAdd, Nat.reduceSub, Nat.reduceLeDiff, Nat.reduceLT, Nat.reduceMul, Int.reduceToNat, Int.reduceLT, Int.reduceLE, Int.reduceEq, Int.reduceNeg, go_sem, t6], by simp -dsimp -implicitDefEqProofs only [go_sem, reduceIte, Nat.reduceEqDiff, Nat.reduceAdd, Nat.reduceSub, Nat.reduceLeDiff, Nat.reduceLT, Nat.reduceMul, Int.reduceToNat, Int.reduceLT, Int.reduceLE, Int.reduceEq, Int.reduceNeg, go_sem, hA7], by simp -dsimp -implicitDefEqProofs only [go_sem, reduceIte, Nat.reduceEqDiff, Nat.reduceAdd, Nat.reduceSub, Nat.reduceLeDiff, Nat.reduceLT, Nat.reduceMul, Int.reduceToNat, Int.reduceLT, Int.reduceLE, Int.reduceEq, Int.reduceNeg, go_sem]; rfl, by simp -dsimp -implicitDefEqProofs only [go_sem, reduceIte, Nat.reduceEqDiff, Nat.reduceAdd, Nat.reduceSub, Nat.reduceLeDiff, Nat.reduceLT, Nat.reduceMul, Int.reduceToNat, Int.reduceLT, Int.reduceLE, Int.reduceEq, Int.reduceNeg, go_sem]; rfl⟩ ?_
    clear n1 n7 m1 t1 t3 t6 t ov R hA7 h2 e2 h5 z1 z
    rintro k t h2 ⟨i, z, hi, rfl, ov, m1, m7, t1, t6, t7, t8, t3⟩
    have hfb := hfit.bl
    simp -dsimp -implicitDefEqProofs only [go_sem, reduceIte, Nat.reduceEqDiff, Nat.reduceAdd, Nat.reduceSub, Nat.reduceLeDiff, Nat.reduceLT, Nat.reduceMul, Int.reduceToNat, Int.reduceLT, Int.reduceLE, Int.reduceEq, Int.reduceNeg, go_sem, t7, t8, m7, hf5, hfl, List.length_map]
    by_cases hlb : (i : Int) < (f.blocks.length : Int)
    · have hlb2 : i < f.blocks.length := by omega
      have hbg : (f.blocks.map GBlock.cells)[i]? = some (f.blocks[i]'hlb2).cells := by simp [hlb2]
      have hbfit := hfit.bs _ (List.getElem_mem hlb2)
      have hwb : IntKind.i64.wrap ((i : Int) + 1) = (i : Int) + 1 := wrapI (by omega) (by omega)
      generalize f.blocks[i]'hlb2 = b at hbg hbfit
      have hbl11 : b.cells.length = 11 := rfl
      have hd2 : b.cells.drop 2 = .fslice (b.stmts.map GStmt.cells) :: b.cells.drop 3 := rfl
      have hd8 : b.cells.drop 8 = .fslice (placesV b.term.args) :: b.cells.drop 9 := rfl
      have hd9 : b.cells.drop 9 = .fslice (strs b.term.blocks) :: b.cells.drop 10 := rfl
      have hd10 : b.cells.drop 10 = [.fslice (armsV b.term.arms)] := rfl
      simp -dsimp -implicitDefEqProofs only [go_sem, reduceIte, Nat.reduceEqDiff, Nat.reduceAdd, Nat.reduceSub, Nat.reduceLeDiff, Nat.reduceLT, Nat.reduceMul, Int.reduceToNat, Int.reduceLT, Int.reduceLE, Int.reduceEq, Int.reduceNeg, go_sem, hlb, decide_true, t3, t7, t8, m7, hf5, hfl, hbg, hbl11, hd2, hd8, hd9, hd10, placesV_len, strs_len, armsV_len, List.length_map]
      generalize IntKind.i64.wrap (z + IntKind.i64.wrap (IntKind.i64.wrap (IntKind.i64.wrap ((b.stmts.length : Int) + (b.term.args.length : Int)) + (b.term.blocks.length : Int)) + (b.term.arms.length : Int))) = z1
      by_cases h5 : 5000 < z1
      · simp -dsimp -implicitDefEqProofs only [go_sem, reduceIte, Nat.reduceEqDiff, Nat.reduceAdd, Nat.reduceSub, Nat.reduceLeDiff, Nat.reduceLT, Nat.reduceMul, Int.reduceToNat, Int.reduceLT, Int.reduceLE, Int.reduceEq, Int.reduceNeg, h5, decide_true]
        exact fend_over ov (.lit _) ⟨⟨_, rfl⟩, rfl⟩
      simp -dsimp -implicitDefEqProofs only [go_sem, reduceIte, Nat.reduceEqDiff, Nat.reduceAdd, Nat.reduceSub, Nat.reduceLeDiff, Nat.reduceLT, Nat.reduceMul, Int.reduceToNat, Int.reduceLT, Int.reduceLE, Int.reduceEq, Int.reduceNeg, h5, decide_false]
      -- its statements
      refine zw_loopD (fun k t h3 => ∃ (u : Nat) (z : Int), u ≤ b.stmts.length ∧ k = b.stmts.length - u ∧ h3 = h2 ∧ t.get 1 = .ptr h.length 0 0 ∧ t.get 6 = .lit (.int .i64 j) ∧ t.get 7 = .ptr A7 0 0 ∧ t.get 8 = .lit (.int .i64 i) ∧ t.get 9 = .lit (.int .i64 u) ∧ t.get 3 = .lit (.int .i64 z)) b.stmts.length
        ⟨0, _, Nat.zero_le _, rfl, rfl, by simp -dsimp -implicitDefEqProofs only [go_sem, reduceIte, Nat.reduceEqDiff, Nat.reduceAdd, Nat.reduceSub, Nat.reduceLeDiff, Nat.reduceLT, Nat.reduceMul, Int.reduceToNat, Int.reduceLT, Int.reduceLE, Int.reduceEq, Int.reduceNeg, go_sem, t1], by simp -dsimp -implicitDefEqProofs only [go_sem, reduceIte, Nat.reduceEqDiff, Nat.reduceAdd, Nat.reduceSub, Nat.reduceLeDiff, Nat.reduceLT, Nat.reduceMul, Int.reduceToNat, Int.reduceLT, Int.reduceLE, Int.reduceEq, Int.reduceNeg, go_sem, t6], by simp -dsimp -implicitDefEqProofs only [go_sem, reduceIte, Nat.reduceEqDiff, Nat.reduceAdd, Nat.reduceSub, Nat.reduceLeDiff, Nat.reduceLT, Nat.reduceMul, Int.reduceToNat, Int.reduceLT, Int.reduceLE, Int.reduceEq, Int.reduceNeg, go_sem, t7], by simp -dsimp -implicitDefEqProofs only [go_sem, reduceIte, Nat.reduceEqDiff, Nat.reduceAdd, Nat.reduceSub, Nat.reduceLeDiff, Nat.reduceLT, Nat.reduceMul, Int.reduceToNat, Int.reduceLT, Int.reduceLE, Int.reduceEq, Int.reduceNeg, go_sem, t8], by simp -dsimp -implicitDefEqProofs only [go_sem, reduceIte, Nat.reduceEqDiff, Nat.reduceAdd, Nat.reduceSub, Nat.reduceLeDiff, Nat.reduceLT, Nat.reduceMul, Int.reduceToNat, Int.reduceLT, Int.reduceLE, Int.reduceEq, Int.reduceNeg, go_sem]; rfl, by simp -dsimp -implicitDefEqProofs only [go_sem, reduceIte, Nat.reduceEqDiff, Nat.reduceAdd, Nat.reduceSub, Nat.reduceLeDiff, Nat.reduceLT, Nat.reduceMul, Int.reduceToNat, Int.reduceLT, Int.reduceLE, Int.reduceEq, Int.reduceNeg, go_sem]; rfl⟩ ?_
      clear t1 t3 t6 t7 t8 t h5 z1 z
      rintro k t h3 ⟨u, z, hu, rfl, rfl, t1, t6, t7, t8, t9, t3⟩
      have hbs := hbfit.sl
      simp -dsimp -implicitDefEqProofs only [go_sem, reduceIte, Nat.reduceEqDiff, Nat.reduceAdd, Nat.reduceSub, Nat.reduceLeDiff, Nat.reduceLT, Nat.reduceMul, Int.reduceToNat, Int.reduceLT, Int.reduceLE, Int.reduceEq, Int.reduceNeg, go_sem, t7, t8, t9, m7, hf5, hfl, hbg, hbl11, hd2, List.length_map]
      by_cases hls : (u : Int) < (b.stmts.length : Int)
      · have hls2 : u < b.stmts.length := by omega
        have hsg : (b.stmts.map GStmt.cells)[u]? = some (b.stmts[u]'hls2).cells := by simp [hls2]
        have hws : IntKind.i64.wrap ((u : Int) + 1) = (u : Int) + 1 := wrapI (by omega) (by omega)
        generalize b.stmts[u]'hls2 = s at hsg
        have hsl8 : s.cells.length = 8 := rfl
        have hs7 : s.cells.drop 7 = [.fslice (placesV s.args)] := rfl
        simp -dsimp -implicitDefEqProofs only [go_sem, reduceIte, Nat.reduceEqDiff, Nat.reduceAdd, Nat.reduceSub, Nat.reduceLeDiff, Nat.reduceLT, Nat.reduceMul, Int.reduceToNat, Int.reduceLT, Int.reduceLE, Int.reduceEq, Int.reduceNeg, go_sem, hls, decide_true, t3, t7, t8, t9, m7, hf5, hfl, hbg, hbl11, hd2, hsg, hsl8, hs7, placesV_len, hws]
        exact ⟨b.stmts.length - (u + 1), by omega, u + 1, _, by omega, rfl, t1, t6, rfl, rfl⟩
      · simp -dsimp -implicitDefEqProofs only [go_sem, reduceIte, Nat.reduceEqDiff, Nat.reduceAdd, Nat.reduceSub, Nat.reduceLeDiff, Nat.reduceLT, Nat.reduceMul, Int.reduceToNat, Int.reduceLT, Int.reduceLE, Int.reduceEq, Int.reduceNeg, hls, decide_false, t8, hwb]
        exact ⟨f.blocks.length - (i + 1), by omega, i + 1, z, by omega, rfl, ov, m1, m7, t1, t6, t7, rfl, t3⟩
    · simp -dsimp -implicitDefEqProofs only [go_sem, reduceIte, Nat.reduceEqDiff, Nat.reduceAdd, Nat.reduceSub, Nat.reduceLeDiff, Nat.reduceLT, Nat.reduceMul, Int.reduceToNat, Int.reduceLT, Int.reduceLE, Int.reduceEq, Int.reduceNeg, hlb, decide_false, t7, m7, hfl, hfc1, hftk]
      -- its places
      refine zcall_any xf87 (uses_ok hfit (by omega) _) ?_
      rintro v h3 ⟨A, rfl, us⟩
      have hol := us.ov.len
      refine ⟨hol, ?_⟩
      have RU : Row h3 (.slice A 2 0 (usesF f).length none) 2 (placesV (usesF f)) fun j o => .ptr A j o := by have := Row.live (c := none) (esz := 2) us.r; rwa [placesV_len] at this
      have m1' : hget h3 h.length = some (.rows [[xs, xe, xf]]) := by rw [us.ov.old (hget_lt m1)]; exact m1
      have ov' : Over h h3 := ov.trans us.ov
      have hlu : (placesV (usesF f)).length = (usesF f).length := placesV_len
      simp -dsimp -implicitDefEqProofs only [go_sem, reduceIte, Nat.reduceEqDiff, Nat.reduceAdd, Nat.reduceSub, Nat.reduceLeDiff, Nat.reduceLT, Nat.reduceMul, Int.reduceToNat, Int.reduceLT, Int.reduceLE, Int.reduceEq, Int.reduceNeg, go_sem]
      refine zw_loopD (fun k t h4 => ∃ (u : Nat) (z : Int), u ≤ (usesF f).length ∧ k = (usesF f).length - u ∧ h4 = h3 ∧ t.get 1 = .ptr h.length 0 0 ∧ t.get 6 = .lit (.int .i64 j) ∧ t.get 10 = .slice A 2 0 (usesF f).length none ∧ t.get 11 = .lit (.int .i64 u) ∧ t.get 3 = .lit (.int .i64 z)) (usesF f).length
        ⟨0, _, Nat.zero_le _, rfl, rfl, by simp -dsimp -implicitDefEqProofs only [go_sem, reduceIte, Nat.reduceEqDiff, Nat.reduceAdd, Nat.reduceSub, Nat.reduceLeDiff, Nat.reduceLT, Nat.reduceMul, Int.reduceToNat, Int.reduceLT, Int.reduceLE, Int.reduceEq, Int.reduceNeg, go_sem, t1], by simp -dsimp -implicitDefEqProofs only [go_sem, reduceIte, Nat.reduceEqDiff, Nat.reduceAdd, Nat.reduceSub, Nat.reduceLeDiff, Nat.reduceLT, Nat.reduceMul, Int.reduceToNat, Int.reduceLT, Int.reduceLE, Int.reduceEq, Int.reduceNeg, go_sem, t6], by simp -dsimp -implicitDefEqProofs only [go_sem, reduceIte, Nat.reduceEqDiff, Nat.reduceAdd, Nat.reduceSub, Nat.reduceLeDiff, Nat.reduceLT, Nat.reduceMul, Int.reduceToNat, Int.reduceLT, Int.reduceLE, Int.reduceEq, Int.reduceNeg, go_sem], by simp -dsimp -implicitDefEqProofs only [go_sem, reduceIte, Nat.reduceEqDiff, Nat.reduceAdd, Nat.reduceSub, Nat.reduceLeDiff, Nat.reduceLT, Nat.reduceMul, Int.reduceToNat, Int.reduceLT, Int.reduceLE, Int.reduceEq, Int.reduceNeg, go_sem]; rfl, by simp -dsimp -implicitDefEqProofs only [go_sem, reduceIte, Nat.reduceEqDiff, Nat.reduceAdd, Nat.reduceSub, Nat.reduceLeDiff, Nat.reduceLT, Nat.reduceMul, Int.reduceToNat, Int.reduceLT, Int.reduceLE, Int.reduceEq, Int.reduceNeg, go_sem, t3]; rfl⟩ ?_
      clear t1 t3 t6 t7 t8 t z
      rintro k t h4 ⟨u, z, hu, rfl, rfl, t1, t6, t10, t11, t3⟩
      simp -dsimp -implicitDefEqProofs only [go_sem, reduceIte, Nat.reduceEqDiff, Nat.reduceAdd, Nat.reduceSub, Nat.reduceLeDiff, Nat.reduceLT, Nat.reduceMul, Int.reduceToNat, Int.reduceLT, Int.reduceLE, Int.reduceEq, Int.reduceNeg, go_sem, t10, t11]
      by_cases hls : (u : Int) < ((usesF f).length : Int)
      · have hls2 : u < (usesF f).length := by omega
        have p1 := RU.idx u (by rw [hlu]; exact hls2)
        have p0 := RU.fld u (by rw [hlu]; exact hls2)
        have p2 := RU.rd u [.str ((usesF f)[u]'hls2).1, .fslice (strs ((usesF f)[u]'hls2).2)] (by simp [placesV, hls2]) 1 1 (by simp)
        have hws : IntKind.i64.wrap ((u : Int) + 1) = (u : Int) + 1 := wrapI (by omega) (by omega)
        have hls3 : u < (usesF f).length := hls2
        simp -dsimp -implicitDefEqProofs only [go_sem, reduceIte, Nat.reduceEqDiff, Nat.reduceAdd, Nat.reduceSub, Nat.reduceLeDiff, Nat.reduceLT, Nat.reduceMul, Int.reduceToNat, Int.reduceLT, Int.reduceLE, Int.reduceEq, Int.reduceNeg, go_sem, hls, decide_true, t3, t10, t11, p1, p0, p2, strs_len, hws]
        exact ⟨(usesF f).length - (u + 1), by omega, u + 1, _, by omega, rfl, t1, t6, rfl, rfl⟩
      · simp -dsimp -implicitDefEqProofs only [go_sem, reduceIte, Nat.reduceEqDiff, Nat.reduceAdd, Nat.reduceSub, Nat.reduceLeDiff, Nat.reduceLT, Nat.reduceMul, Int.reduceToNat, Int.reduceLT, Int.reduceLE, Int.reduceEq, Int.reduceNeg, hls, decide_false, t6, hw]
        exact ⟨fs.length - (j + 1), by omega, j + 1, z, by omega, rfl, ov', m1', t1, rfl, t3⟩
  · simp -dsimp -implicitDefEqProofs only [go_sem, reduceIte, Nat.reduceEqDiff, Nat.reduceAdd, Nat.reduceSub, Nat.reduceLeDiff, Nat.reduceLT, Nat.reduceMul, Int.reduceToNat, Int.reduceLT, Int.reduceLE, Int.reduceEq, Int.reduceNeg, hl, decide_false, t3]
    by_cases h5 : 5000 < z
    · simp -dsimp -implicitDefEqProofs only [go_sem, reduceIte, Nat.reduceEqDiff, Nat.reduceAdd, Nat.reduceSub, Nat.reduceLeDiff, Nat.reduceLT, Nat.reduceMul, Int.reduceToNat, Int.reduceLT, Int.reduceLE, Int.reduceEq, Int.reduceNeg, h5, decide_true]
      exact fend_over ov (.lit _) ⟨⟨_, rfl⟩, rfl⟩
    · simp -dsimp -implicitDefEqProofs only [go_sem, reduceIte, Nat.reduceEqDiff, Nat.reduceAdd, Nat.reduceSub, Nat.reduceLeDiff, Nat.reduceLT, Nat.reduceMul, Int.reduceToNat, Int.reduceLT, Int.reduceLE, Int.reduceEq, Int.reduceNeg, h5, decide_false, t1, m1]
      refine zcall_eq xf88 (Nat.le_refl _) (progKey_ok c1 c2 c3 (fun h3 o => RS h3 (ov.trans o)) (fun h3 o => RE h3 (ov.trans o)) (fun h3 o => RF h3 (ov.trans o)) hs he hf fs1 fe1 ff1 hB) ?_
      simp -dsimp -implicitDefEqProofs only [go_sem, reduceIte, Nat.reduceEqDiff, Nat.reduceAdd, Nat.reduceSub, Nat.reduceLeDiff, Nat.reduceLT, Nat.reduceMul, Int.reduceToNat, Int.reduceLT, Int.reduceLE, Int.reduceEq, Int.reduceNeg, go_sem]
      exact fend_over ov (.lit _) ⟨⟨_, rfl⟩, rfl⟩
end Go.AL
