/- A program's data, its cells, and its text by which statements tell programs apart. -/
import Derived.Test.YtjiccnebfbpcgaaGreatDoorR09
set_option linter.unusedSimpArgs false
set_option linter.unusedVariables false
set_option linter.unusedSectionVars false
namespace Go.AL
open Go.Proofs
abbrev Pl := List UInt8 × List (List UInt8)
structure GStmt where
  pos : Int
  kind : Int
  to : Pl
  num : Int
  name : List UInt8
  variant : List UInt8
  args : List Pl
structure GTerm where
  pos : Int
  kind : Int
  to : Pl
  name : List UInt8
  args : List Pl
  blocks : List (List UInt8)
  arms : List (List UInt8 × List UInt8 × List UInt8)
structure GBlock where
  pos : Int
  name : List UInt8
  stmts : List GStmt
  term : GTerm
structure GFunc where
  pos : Int
  name : List UInt8
  params : List (List UInt8 × List UInt8)
  locals : List (List UInt8 × List UInt8)
  result : List UInt8
  blocks : List GBlock
structure GStruct where
  pos : Int
  name : List UInt8
  safe : Bool
  hook : Bool
  fields : List (List UInt8 × List UInt8)
structure GEnum where
  pos : Int
  name : List UInt8
  variants : List (List UInt8 × List UInt8)
def GStmt.cells (s : GStmt) : List AVal := [.lit (.int .i64 s.pos), .lit (.int .i64 s.kind), .str s.to.1, .fslice (strs s.to.2), .lit (.int .i64 s.num), .str s.name, .str s.variant, .fslice (placesV s.args)]
def GTerm.cells (t : GTerm) : List AVal := [.lit (.int .i64 t.pos), .lit (.int .i64 t.kind), .str t.to.1, .fslice (strs t.to.2), .str t.name, .fslice (placesV t.args), .fslice (strs t.blocks), .fslice (armsV t.arms)]
def GBlock.cells (b : GBlock) : List AVal := .lit (.int .i64 b.pos) :: .str b.name :: .fslice (b.stmts.map GStmt.cells) :: b.term.cells
def GFunc.cells (f : GFunc) : List AVal := [.lit (.int .i64 f.pos), .str f.name, .fslice (varsV f.params), .fslice (varsV f.locals), .str f.result, .fslice (f.blocks.map GBlock.cells)]
def GStruct.cells (s : GStruct) : List AVal := [.lit (.int .i64 s.pos), .str s.name, .lit (.bool s.safe), .lit (.bool s.hook), .fslice (varsV s.fields)]
def GEnum.cells (e : GEnum) : List AVal := [.lit (.int .i64 e.pos), .str e.name, .fslice (varsV e.variants)]
def flagB (b : Bool) : List UInt8 := [if b then 49 else 48]
def structB (s : GStruct) : List UInt8 := keyB s.name ++ (flagB s.safe ++ (flagB s.hook ++ varsB s.fields))
def enumB (e : GEnum) : List UInt8 := keyB e.name ++ varsB e.variants
def armB (a : List UInt8 × List UInt8 × List UInt8) : List UInt8 := keyB a.1 ++ (keyB a.2.1 ++ keyB a.2.2)
def stmtB (s : GStmt) : List UInt8 := numB s.kind ++ (placesB [s.to] ++ (numB s.num ++ ([59] ++ (keyB s.name ++ (keyB s.variant ++ placesB s.args)))))
def termB (t : GTerm) : List UInt8 := numB t.kind ++ (placesB [t.to] ++ (keyB t.name ++ (placesB t.args ++ (keysB t.blocks ++ (dig (U (t.arms.length : Int)) ++ ([97] ++ (t.arms.map armB).flatten))))))
def blockB (b : GBlock) : List UInt8 := keyB b.name ++ (dig (U (b.stmts.length : Int)) ++ ([116] ++ ((b.stmts.map stmtB).flatten ++ termB b.term)))
def funcB (f : GFunc) : List UInt8 := keyB f.name ++ (varsB f.params ++ (varsB f.locals ++ (keyB f.result ++ (dig (U (f.blocks.length : Int)) ++ ([98] ++ (f.blocks.map blockB).flatten)))))
def progB (ss : List GStruct) (es : List GEnum) (fs : List GFunc) : List UInt8 :=
  dig (U (ss.length : Int)) ++ ([115] ++ ((ss.map structB).flatten ++ (dig (U (es.length : Int)) ++ ([101] ++ ((es.map enumB).flatten ++ (dig (U (fs.length : Int)) ++ ([102] ++ (fs.map funcB).flatten)))))))
structure Over (h h2 : AHeap) : Prop where
  take : h2.take h.length = h
  len : h.length ≤ h2.length
theorem Over.refl (h : AHeap) : Over h h := ⟨by simp, Nat.le_refl _⟩
theorem Over.snoc {h h2 l : AHeap} (o : Over h h2) : Over h (h2 ++ l) := ⟨(take_snoc o.len).trans o.take, by have := o.len; rw [List.length_append]; omega⟩
theorem Over.hset {h h2 : AHeap} {a : Nat} {x : AObj} (o : Over h h2) (ha : h.length ≤ a) : Over h (Go.AL.hset h2 a x) := ⟨(take_hset ha).trans o.take, by rw [hset_length]; exact o.len⟩
theorem Over.set {h h2 : AHeap} {a : Nat} {x : Option AObj} (o : Over h h2) (ha : h.length ≤ a) : Over h (h2.set a x) := ⟨(take_set_none ha).trans o.take, by rw [List.length_set]; exact o.len⟩
theorem Over.old {h h2 : AHeap} {a : Nat} (o : Over h h2) (ha : a < h.length) : hget h2 a = hget h a := hget_take_eq (m := h.length) (by rw [o.take, List.take_length]) ha
theorem fend_over {h h2 : AHeap} {v : AVal} {R : AVal → AHeap → Prop} (o : Over h h2) (hb : Below h.length v) (hR : R v h) : FEnd h R v h2 :=
  .cut h.length (Nat.le_refl _) o.len hb (fun a x hx ha => .inl ⟨ha, by rw [← o.old ha]; exact hx⟩) (by rw [o.take]; exact hR)
theorem placeRow1 {h : AHeap} {a : Nat} {c : Option Nat} {p : Pl} (ha : hget h a = some (.rows [[.str p.1, .fslice (strs p.2)]])) : Row h (.slice a 2 0 1 c) 2 (placesV [p]) fun j o => .ptr a j o := Row.live (es := placesV [p]) ha
theorem armsV_len {l : List (List UInt8 × List UInt8 × List UInt8)} : (armsV l).length = l.length := by simp [armsV]
theorem armsV_three {l : List (List UInt8 × List UInt8 × List UInt8)} : ∀ e ∈ armsV l, e.length = 3 := by intro e he; obtain ⟨k, _, rfl⟩ := List.mem_map.1 he; rfl
structure PlFit (p : Pl) : Prop where
  l : p.2.length < 4294967296
structure StmtFit (s : GStmt) : Prop where
  to : s.to.2.length < 4294967296
  al : s.args.length < 4294967296
  ar : ∀ p ∈ s.args, p.2.length < 4294967296
structure TermFit (t : GTerm) : Prop where
  to : t.to.2.length < 4294967296
  al : t.args.length < 4294967296
  ar : ∀ p ∈ t.args, p.2.length < 4294967296
  bl : t.blocks.length < 4294967296
  ml : t.arms.length < 4294967296
structure BlockFit (b : GBlock) : Prop where
  sl : b.stmts.length < 4294967296
  ss : ∀ s ∈ b.stmts, StmtFit s
  t : TermFit b.term
structure FuncFit (f : GFunc) : Prop where
  pl : f.params.length < 4294967296
  ll : f.locals.length < 4294967296
  bl : f.blocks.length < 4294967296
  bs : ∀ b ∈ f.blocks, BlockFit b
end Go.AL
namespace Go.AL
open Go.Proofs
theorem structs_len {l : List GStruct} : (l.map GStruct.cells).length = l.length := by simp
set_option maxHeartbeats 4000000 in
theorem progKey_ok {xs xe xf : AVal} {ss : List GStruct} {es : List GEnum} {fs : List GFunc} {qs qe qf : Nat → Nat → AVal} {h : AHeap} (c1 : xs.cell1 = true) (c2 : xe.cell1 = true) (c3 : xf.cell1 = true)
    (RS : ∀ h2, Over h h2 → Row h2 xs 5 (ss.map GStruct.cells) qs) (RE : ∀ h2, Over h h2 → Row h2 xe 3 (es.map GEnum.cells) qe) (RF : ∀ h2, Over h h2 → Row h2 xf 6 (fs.map GFunc.cells) qf)
    (hs : ss.length < 4294967296) (he : es.length < 4294967296) (hf : fs.length < 4294967296) (fs1 : ∀ s ∈ ss, s.fields.length < 4294967296) (fe1 : ∀ e ∈ es, e.variants.length < 4294967296) (ff1 : ∀ f ∈ fs, FuncFit f)
    (hB : (progB ss es fs).length ≤ 4611686018427387904) : ACall Tryz.prog 88 [.agg [xs, xe, xf]] h fun r h' => r = .str (progB ss es fs) ∧ h' = h := by
  have d1 := digU_len (ss.length : Int)
  have d2 := digU_len (es.length : Int)
  have d3 := digU_len (fs.length : Int)
  have hB' : (dig (U (ss.length : Int))).length + (1 + ((ss.map structB).flatten.length + ((dig (U (es.length : Int))).length + (1 + ((es.map enumB).flatten.length + ((dig (U (fs.length : Int))).length + (1 + (fs.map funcB).flatten.length))))))) ≤ 4611686018427387904 := by
    unfold progB at hB; simp only [List.length_append] at hB; exact hB
  have o1 : ∀ l, Over h (h ++ l) := fun l => (Over.refl h).snoc
  have fS := (RS h (.refl h)).form
  have fE := (RE h (.refl h)).form
  have fF := (RF h (.refl h)).form
  refine acall_z mixed xf88 rfl ?_
  unfold xc88 xr88 xn88
  simp -dsimp -implicitDefEqProofs only [go_sem, reduceIte, Nat.reduceEqDiff, Nat.reduceAdd, Nat.reduceSub, Nat.reduceLeDiff, Nat.reduceLT, Nat.reduceMul, Int.reduceToNat, Int.reduceLT, Int.reduceLE, Int.reduceEq, Int.reduceNeg, go_sem, c1, c2, c3, fS, (RS _ (o1 _)).len, List.length_map]
  refine zcall_eq xf140 (Nat.le_refl _) (digitsU_ok _ _) ?_
  simp -dsimp -implicitDefEqProofs only [go_sem, reduceIte, Nat.reduceEqDiff, Nat.reduceAdd, Nat.reduceSub, Nat.reduceLeDiff, Nat.reduceLT, Nat.reduceMul, Int.reduceToNat, Int.reduceLT, Int.reduceLE, Int.reduceEq, Int.reduceNeg, go_sem]
  refine ⟨by omega, ?_⟩
  -- the structs
  refine zw_loopD (fun k t h2 => ∃ j : Nat, j ≤ ss.length ∧ k = ss.length - j ∧ Over h h2 ∧ hget h2 h.length = some (.rows [[xs, xe, xf]]) ∧ t.get 1 = .ptr h.length 0 0 ∧ t.get 4 = .lit (.int .i64 j) ∧ t.get 3 = .str (dig (U (ss.length : Int)) ++ ([115] ++ ((ss.take j).map structB).flatten))) ss.length
    ⟨0, Nat.zero_le _, rfl, o1 _, by simp -dsimp -implicitDefEqProofs only [go_sem, reduceIte, Nat.reduceEqDiff, Nat.reduceAdd, Nat.reduceSub, Nat.reduceLeDiff, Nat.reduceLT, Nat.reduceMul, Int.reduceToNat, Int.reduceLT, Int.reduceLE, Int.reduceEq, Int.reduceNeg, go_sem], by simp -dsimp -implicitDefEqProofs only [go_sem, reduceIte, Nat.reduceEqDiff, Nat.reduceAdd, Nat.reduceSub, Nat.reduceLeDiff, Nat.reduceLT, Nat.reduceMul, Int.reduceToNat, Int.reduceLT, Int.reduceLE, Int.reduceEq, Int.reduceNeg, go_sem], by simp -dsimp -implicitDefEqProofs only [go_sem, reduceIte, Nat.reduceEqDiff, Nat.reduceAdd, Nat.reduceSub, Nat.reduceLeDiff, Nat.reduceLT, Nat.reduceMul, Int.reduceToNat, Int.reduceLT, Int.reduceLE, Int.reduceEq, Int.reduceNeg, go_sem]; rfl, by simp -dsimp -implicitDefEqProofs only [go_sem, reduceIte, Nat.reduceEqDiff, Nat.reduceAdd, Nat.reduceSub, Nat.reduceLeDiff, Nat.reduceLT, Nat.reduceMul, Int.reduceToNat, Int.reduceLT, Int.reduceLE, Int.reduceEq, Int.reduceNeg, go_sem]; simp⟩ ?_
  rintro k t h2 ⟨j, hj, rfl, ov, m1, t1, t4, t3⟩
  have R := RS h2 ov
  simp -dsimp -implicitDefEqProofs only [go_sem, reduceIte, Nat.reduceEqDiff, Nat.reduceAdd, Nat.reduceSub, Nat.reduceLeDiff, Nat.reduceLT, Nat.reduceMul, Int.reduceToNat, Int.reduceLT, Int.reduceLE, Int.reduceEq, Int.reduceNeg, go_sem, t1, t4, m1, fS, R.len, List.length_map]
  by_cases hl : (j : Int) < (ss.length : Int)
  · have hl2 : j < ss.length := by omega
    have e1 := R.idx j (by rw [structs_len]; exact hl2)
    have e2 := R.rd j (ss[j]'hl2).cells (by simp [hl2]) 0 5 (Nat.le_refl _)
    have hw : IntKind.i64.wrap ((j : Int) + 1) = (j : Int) + 1 := wrapI (by omega) (by omega)
    have hfl := flat_one (f := structB) hl2
    have hg := keyB_ge (ss[j]'hl2).name
    have hsl : (structB (ss[j]'hl2)).length = (keyB (ss[j]'hl2).name).length + ((flagB (ss[j]'hl2).safe).length + ((flagB (ss[j]'hl2).hook).length + (varsB (ss[j]'hl2).fields).length)) := by unfold structB; simp only [List.length_append]
    simp -dsimp -implicitDefEqProofs only [go_sem, reduceIte, Nat.reduceEqDiff, Nat.reduceAdd, Nat.reduceSub, Nat.reduceLeDiff, Nat.reduceLT, Nat.reduceMul, Int.reduceToNat, Int.reduceLT, Int.reduceLE, Int.reduceEq, Int.reduceNeg, go_sem, hl, decide_true, t1, t4, m1, e1, e2, GStruct.cells]
    refine zw_draw0 rfl ?_
    simp -dsimp -implicitDefEqProofs only [go_sem, reduceIte, Nat.reduceEqDiff, Nat.reduceAdd, Nat.reduceSub, Nat.reduceLeDiff, Nat.reduceLT, Nat.reduceMul, Int.reduceToNat, Int.reduceLT, Int.reduceLE, Int.reduceEq, Int.reduceNeg, go_sem, t3]
    refine ⟨_, _, .inl ⟨(xfunc_ok xf141).1, key_ok (by omega) _⟩, ?_⟩
    simp -dsimp -implicitDefEqProofs only [go_sem, reduceIte, Nat.reduceEqDiff, Nat.reduceAdd, Nat.reduceSub, Nat.reduceLeDiff, Nat.reduceLT, Nat.reduceMul, Int.reduceToNat, Int.reduceLT, Int.reduceLE, Int.reduceEq, Int.reduceNeg, go_sem]
    refine ⟨_, _, .inl ⟨(xfunc_ok xf142).1, flag_ok _ _⟩, ?_⟩
    simp -dsimp -implicitDefEqProofs only [go_sem, reduceIte, Nat.reduceEqDiff, Nat.reduceAdd, Nat.reduceSub, Nat.reduceLeDiff, Nat.reduceLT, Nat.reduceMul, Int.reduceToNat, Int.reduceLT, Int.reduceLE, Int.reduceEq, Int.reduceNeg, go_sem]
    refine ⟨by omega, _, _, .inl ⟨(xfunc_ok xf142).1, flag_ok _ _⟩, ?_⟩
    simp -dsimp -implicitDefEqProofs only [go_sem, reduceIte, Nat.reduceEqDiff, Nat.reduceAdd, Nat.reduceSub, Nat.reduceLeDiff, Nat.reduceLT, Nat.reduceMul, Int.reduceToNat, Int.reduceLT, Int.reduceLE, Int.reduceEq, Int.reduceNeg, go_sem]
    refine ⟨by omega, _, _, .inl ⟨(xfunc_ok xf143).1, varKeys_ok (Row.frozen varsV_two) (fs1 _ (List.getElem_mem _)) (by omega)⟩, ?_⟩
    simp -dsimp -implicitDefEqProofs only [go_sem, reduceIte, Nat.reduceEqDiff, Nat.reduceAdd, Nat.reduceSub, Nat.reduceLeDiff, Nat.reduceLT, Nat.reduceMul, Int.reduceToNat, Int.reduceLT, Int.reduceLE, Int.reduceEq, Int.reduceNeg, go_sem, t1, t4, hw]
    have f1 : (flagB (ss[j]'hl2).safe).length = 1 := rfl
    have f2 : (flagB (ss[j]'hl2).hook).length = 1 := rfl
    refine ⟨by omega, by omega, ss.length - (j + 1), by omega, j + 1, by omega, rfl, ov.snoc, by rw [hget_append_old (hget_lt m1)]; exact m1, rfl, ?_⟩
    rw [flat_step hl2]
    rfl
  have hj2 : j = ss.length := by omega
  subst hj2
  rw [List.take_length] at t3
  simp -dsimp -implicitDefEqProofs only [go_sem, reduceIte, Nat.reduceEqDiff, Nat.reduceAdd, Nat.reduceSub, Nat.reduceLeDiff, Nat.reduceLT, Nat.reduceMul, Int.reduceToNat, Int.reduceLT, Int.reduceLE, Int.reduceEq, Int.reduceNeg, hl, decide_false, t1, t3, m1, fE, (RE h2 ov).len, List.length_map]
  clear t4 hl
  refine zcall_eq xf140 (Nat.le_refl _) (digitsU_ok _ _) ?_
  simp -dsimp -implicitDefEqProofs only [go_sem, reduceIte, Nat.reduceEqDiff, Nat.reduceAdd, Nat.reduceSub, Nat.reduceLeDiff, Nat.reduceLT, Nat.reduceMul, Int.reduceToNat, Int.reduceLT, Int.reduceLE, Int.reduceEq, Int.reduceNeg, go_sem, t3]
  refine ⟨by omega, by omega, ?_⟩
  -- the enums
  generalize hP1 : dig (U (ss.length : Int)) ++ 115 :: ((ss.map structB).flatten ++ (dig (U (es.length : Int)) ++ [101])) = P1
  have lP1 : P1.length = (dig (U (ss.length : Int))).length + (1 + ((ss.map structB).flatten.length + ((dig (U (es.length : Int))).length + 1))) := by rw [← hP1]; simp only [List.length_append, List.length_cons, List.length_nil]; omega
  refine zw_loopD (fun k t h2 => ∃ j : Nat, j ≤ es.length ∧ k = es.length - j ∧ Over h h2 ∧ hget h2 h.length = some (.rows [[xs, xe, xf]]) ∧ t.get 1 = .ptr h.length 0 0 ∧ t.get 6 = .lit (.int .i64 j) ∧ t.get 3 = .str (P1 ++ ((es.take j).map enumB).flatten)) es.length
    ⟨0, Nat.zero_le _, rfl, ov, m1, by simp -dsimp -implicitDefEqProofs only [go_sem, reduceIte, Nat.reduceEqDiff, Nat.reduceAdd, Nat.reduceSub, Nat.reduceLeDiff, Nat.reduceLT, Nat.reduceMul, Int.reduceToNat, Int.reduceLT, Int.reduceLE, Int.reduceEq, Int.reduceNeg, go_sem, t1], by simp -dsimp -implicitDefEqProofs only [go_sem, reduceIte, Nat.reduceEqDiff, Nat.reduceAdd, Nat.reduceSub, Nat.reduceLeDiff, Nat.reduceLT, Nat.reduceMul, Int.reduceToNat, Int.reduceLT, Int.reduceLE, Int.reduceEq, Int.reduceNeg, go_sem]; rfl, by simp -dsimp -implicitDefEqProofs only [go_sem, reduceIte, Nat.reduceEqDiff, Nat.reduceAdd, Nat.reduceSub, Nat.reduceLeDiff, Nat.reduceLT, Nat.reduceMul, Int.reduceToNat, Int.reduceLT, Int.reduceLE, Int.reduceEq, Int.reduceNeg, go_sem]; rw [← hP1]; simp⟩ ?_
  clear t1 t3 t m1 ov R h2 hj
  rintro k t h2 ⟨j, hj, rfl, ov, m1, t1, t6, t3⟩
  have R := RE h2 ov
  simp -dsimp -implicitDefEqProofs only [go_sem, reduceIte, Nat.reduceEqDiff, Nat.reduceAdd, Nat.reduceSub, Nat.reduceLeDiff, Nat.reduceLT, Nat.reduceMul, Int.reduceToNat, Int.reduceLT, Int.reduceLE, Int.reduceEq, Int.reduceNeg, go_sem, t1, t6, m1, fE, R.len, List.length_map]
  by_cases hl : (j : Int) < (es.length : Int)
  · have hl2 : j < es.length := by omega
    have e1 := R.idx j (by rw [List.length_map]; exact hl2)
    have e0 := R.fld j (by rw [List.length_map]; exact hl2)
    have e2 := R.rd j (es[j]'hl2).cells (by simp [hl2]) 1 1 (by simp [GEnum.cells])
    have e3 := R.rd j (es[j]'hl2).cells (by simp [hl2]) 2 1 (by simp [GEnum.cells])
    have hw : IntKind.i64.wrap ((j : Int) + 1) = (j : Int) + 1 := wrapI (by omega) (by omega)
    have hfl := flat_one (f := enumB) hl2
    have hg := keyB_ge (es[j]'hl2).name
    have hsl : (enumB (es[j]'hl2)).length = (keyB (es[j]'hl2).name).length + (varsB (es[j]'hl2).variants).length := by unfold enumB; simp only [List.length_append]
    simp -dsimp -implicitDefEqProofs only [go_sem, reduceIte, Nat.reduceEqDiff, Nat.reduceAdd, Nat.reduceSub, Nat.reduceLeDiff, Nat.reduceLT, Nat.reduceMul, Int.reduceToNat, Int.reduceLT, Int.reduceLE, Int.reduceEq, Int.reduceNeg, go_sem, hl, decide_true, t6]
    refine zw_draw0 rfl ?_
    simp -dsimp -implicitDefEqProofs only [go_sem, reduceIte, Nat.reduceEqDiff, Nat.reduceAdd, Nat.reduceSub, Nat.reduceLeDiff, Nat.reduceLT, Nat.reduceMul, Int.reduceToNat, Int.reduceLT, Int.reduceLE, Int.reduceEq, Int.reduceNeg, go_sem, t1, t3, t6, m1, e0, e1, e2, e3, GEnum.cells]
    refine ⟨_, _, .inl ⟨(xfunc_ok xf141).1, key_ok (by omega) _⟩, ?_⟩
    simp -dsimp -implicitDefEqProofs only [go_sem, reduceIte, Nat.reduceEqDiff, Nat.reduceAdd, Nat.reduceSub, Nat.reduceLeDiff, Nat.reduceLT, Nat.reduceMul, Int.reduceToNat, Int.reduceLT, Int.reduceLE, Int.reduceEq, Int.reduceNeg, go_sem, t1, t3, t6, m1, e0, e1, e2, e3, GEnum.cells]
    refine ⟨_, _, .inl ⟨(xfunc_ok xf143).1, varKeys_ok (Row.frozen varsV_two) (fe1 _ (List.getElem_mem _)) (by omega)⟩, ?_⟩
    simp -dsimp -implicitDefEqProofs only [go_sem, reduceIte, Nat.reduceEqDiff, Nat.reduceAdd, Nat.reduceSub, Nat.reduceLeDiff, Nat.reduceLT, Nat.reduceMul, Int.reduceToNat, Int.reduceLT, Int.reduceLE, Int.reduceEq, Int.reduceNeg, go_sem, t1, t3, t6, m1, e0, e1, e2, e3, hw, GEnum.cells]
    refine ⟨by omega, by omega, es.length - (j + 1), by omega, j + 1, by omega, rfl, ov, rfl, ?_⟩
    rw [flat_step hl2]
    rfl
  have hj2 : j = es.length := by omega
  subst hj2
  rw [List.take_length] at t3
  simp -dsimp -implicitDefEqProofs only [go_sem, reduceIte, Nat.reduceEqDiff, Nat.reduceAdd, Nat.reduceSub, Nat.reduceLeDiff, Nat.reduceLT, Nat.reduceMul, Int.reduceToNat, Int.reduceLT, Int.reduceLE, Int.reduceEq, Int.reduceNeg, hl, decide_false, t1, t3, m1, fF, (RF h2 ov).len, List.length_map]
  clear t6 hl
  refine zcall_eq xf140 (Nat.le_refl _) (digitsU_ok _ _) ?_
  simp -dsimp -implicitDefEqProofs only [go_sem, reduceIte, Nat.reduceEqDiff, Nat.reduceAdd, Nat.reduceSub, Nat.reduceLeDiff, Nat.reduceLT, Nat.reduceMul, Int.reduceToNat, Int.reduceLT, Int.reduceLE, Int.reduceEq, Int.reduceNeg, go_sem, t3]
  refine ⟨by omega, by omega, ?_⟩
  -- the functions
  generalize hP2 : P1 ++ ((es.map enumB).flatten ++ (dig (U (fs.length : Int)) ++ [102])) = P2
  have lP2 : P2.length = P1.length + ((es.map enumB).flatten.length + ((dig (U (fs.length : Int))).length + 1)) := by rw [← hP2]; simp only [List.length_append, List.length_cons, List.length_nil]
  have hPB : progB ss es fs = P2 ++ (fs.map funcB).flatten := by rw [← hP2, ← hP1]; unfold progB; simp
  have hPl : P2.length + (fs.map funcB).flatten.length ≤ 4611686018427387904 := by omega
  rw [hPB]
  clear hP2 hP1 hPB
  refine zw_loopD (fun k t h2 => ∃ j : Nat, j ≤ fs.length ∧ k = fs.length - j ∧ Over h h2 ∧ hget h2 h.length = some (.rows [[xs, xe, xf]]) ∧ t.get 1 = .ptr h.length 0 0 ∧ t.get 7 = .lit (.int .i64 j) ∧ t.get 3 = .str (P2 ++ ((fs.take j).map funcB).flatten)) fs.length
    ⟨0, Nat.zero_le _, rfl, ov, m1, by simp -dsimp -implicitDefEqProofs only [go_sem, reduceIte, Nat.reduceEqDiff, Nat.reduceAdd, Nat.reduceSub, Nat.reduceLeDiff, Nat.reduceLT, Nat.reduceMul, Int.reduceToNat, Int.reduceLT, Int.reduceLE, Int.reduceEq, Int.reduceNeg, go_sem, t1], by simp -dsimp -implicitDefEqProofs only [go_sem, reduceIte, Nat.reduceEqDiff, Nat.reduceAdd, Nat.reduceSub, Nat.reduceLeDiff, Nat.reduceLT, Nat.reduceMul, Int.reduceToNat, Int.reduceLT, Int.reduceLE, Int.reduceEq, Int.reduceNeg, go_sem]; rfl, by simp -dsimp -implicitDefEqProofs only [go_sem, reduceIte, Nat.reduceEqDiff, Nat.reduceAdd, Nat.reduceSub, Nat.reduceLeDiff, Nat.reduceLT, Nat.reduceMul, Int.reduceToNat, Int.reduceLT, Int.reduceLE, Int.reduceEq, Int.reduceNeg, go_sem]; simp⟩ ?_
  clear t1 t3 t m1 ov R h2 hj
  rintro k t h2 ⟨j, hj, rfl, ov, m1, t1, t7, t3⟩
  have R := RF h2 ov
  simp -dsimp -implicitDefEqProofs only [go_sem, reduceIte, Nat.reduceEqDiff, Nat.reduceAdd, Nat.reduceSub, Nat.reduceLeDiff, Nat.reduceLT, Nat.reduceMul, Int.reduceToNat, Int.reduceLT, Int.reduceLE, Int.reduceEq, Int.reduceNeg, go_sem, t1, t7, m1, fF, R.len, List.length_map]
  by_cases hl : (j : Int) < (fs.length : Int)
  · have hl2 : j < fs.length := by omega
    have e1 := R.idx j (by rw [List.length_map]; exact hl2)
    have e2 := R.rd j (fs[j]'hl2).cells (by simp [hl2]) 0 6 (Nat.le_refl _)
    have hfit := ff1 _ (List.getElem_mem hl2)
    have hw : IntKind.i64.wrap ((j : Int) + 1) = (j : Int) + 1 := wrapI (by omega) (by omega)
    have hfl := flat_one (f := funcB) hl2
    have hst := flat_step (f := funcB) hl2
    generalize fs[j]'hl2 = f at e2 hfit hfl hst
    have hg := keyB_ge f.name
    have hg2 := keyB_ge f.result
    have hdl := digU_len (f.blocks.length : Int)
    have hsl : (funcB f).length = (keyB f.name).length + ((varsB f.params).length + ((varsB f.locals).length + ((keyB f.result).length + ((dig (U (f.blocks.length : Int))).length + (1 + (f.blocks.map blockB).flatten.length))))) := by unfold funcB; simp only [List.length_append]; rfl
    simp -dsimp -implicitDefEqProofs only [go_sem, reduceIte, Nat.reduceEqDiff, Nat.reduceAdd, Nat.reduceSub, Nat.reduceLeDiff, Nat.reduceLT, Nat.reduceMul, Int.reduceToNat, Int.reduceLT, Int.reduceLE, Int.reduceEq, Int.reduceNeg, go_sem, hl, decide_true, t1, t7, m1, e1, e2, GFunc.cells]
    refine zw_draw0 rfl ?_
    simp -dsimp -implicitDefEqProofs only [go_sem, reduceIte, Nat.reduceEqDiff, Nat.reduceAdd, Nat.reduceSub, Nat.reduceLeDiff, Nat.reduceLT, Nat.reduceMul, Int.reduceToNat, Int.reduceLT, Int.reduceLE, Int.reduceEq, Int.reduceNeg, go_sem, t3]
    refine ⟨_, _, .inl ⟨(xfunc_ok xf141).1, key_ok (by omega) _⟩, ?_⟩
    simp -dsimp -implicitDefEqProofs only [go_sem, reduceIte, Nat.reduceEqDiff, Nat.reduceAdd, Nat.reduceSub, Nat.reduceLeDiff, Nat.reduceLT, Nat.reduceMul, Int.reduceToNat, Int.reduceLT, Int.reduceLE, Int.reduceEq, Int.reduceNeg, go_sem]
    refine ⟨_, _, .inl ⟨(xfunc_ok xf143).1, varKeys_ok (Row.frozen varsV_two) hfit.pl (by omega)⟩, ?_⟩
    simp -dsimp -implicitDefEqProofs only [go_sem, reduceIte, Nat.reduceEqDiff, Nat.reduceAdd, Nat.reduceSub, Nat.reduceLeDiff, Nat.reduceLT, Nat.reduceMul, Int.reduceToNat, Int.reduceLT, Int.reduceLE, Int.reduceEq, Int.reduceNeg, go_sem]
    refine ⟨by omega, _, _, .inl ⟨(xfunc_ok xf143).1, varKeys_ok (Row.frozen varsV_two) hfit.ll (by omega)⟩, ?_⟩
    simp -dsimp -implicitDefEqProofs only [go_sem, reduceIte, Nat.reduceEqDiff, Nat.reduceAdd, Nat.reduceSub, Nat.reduceLeDiff, Nat.reduceLT, Nat.reduceMul, Int.reduceToNat, Int.reduceLT, Int.reduceLE, Int.reduceEq, Int.reduceNeg, go_sem]
    refine ⟨by omega, _, _, .inl ⟨(xfunc_ok xf141).1, key_ok (by omega) _⟩, ?_⟩
    simp -dsimp -implicitDefEqProofs only [go_sem, reduceIte, Nat.reduceEqDiff, Nat.reduceAdd, Nat.reduceSub, Nat.reduceLeDiff, Nat.reduceLT, Nat.reduceMul, Int.reduceToNat, Int.reduceLT, Int.reduceLE, Int.reduceEq, Int.reduceNeg, go_sem, List.length_map]
    refine ⟨by omega, _, _, .inl ⟨(xfunc_ok xf140).1, digitsU_ok _ _⟩, ?_⟩
    simp -dsimp -implicitDefEqProofs only [go_sem, reduceIte, Nat.reduceEqDiff, Nat.reduceAdd, Nat.reduceSub, Nat.reduceLeDiff, Nat.reduceLT, Nat.reduceMul, Int.reduceToNat, Int.reduceLT, Int.reduceLE, Int.reduceEq, Int.reduceNeg, go_sem, List.length_map]
    refine ⟨by omega, by omega, by omega, ?_⟩
    -- its blocks
    generalize hP3 : P2 ++ (((fs.take j).map funcB).flatten ++ (keyB f.name ++ (varsB f.params ++ (varsB f.locals ++ (keyB f.result ++ (dig (U (f.blocks.length : Int)) ++ [98])))))) = P3
    have lP3 : P3.length = P2.length + (((fs.take j).map funcB).flatten.length + ((keyB f.name).length + ((varsB f.params).length + ((varsB f.locals).length + ((keyB f.result).length + ((dig (U (f.blocks.length : Int))).length + 1)))))) := by rw [← hP3]; simp only [List.length_append, List.length_cons, List.length_nil]
    have hP3f : P3 ++ (f.blocks.map blockB).flatten = P2 ++ ((fs.take (j + 1)).map funcB).flatten := by rw [← hP3, hst]; unfold funcB; simp
    have hP3l : P3.length + (f.blocks.map blockB).flatten.length ≤ 4611686018427387904 := by omega
    clear hP3
    generalize hA8 : h2.length = A8
    have n1 : hget (h2 ++ [some (.rows [[.lit (.int .i64 f.pos), .str f.name, .fslice (varsV f.params), .fslice (varsV f.locals), .str f.result, .fslice (f.blocks.map GBlock.cells)]])]) h.length = some (.rows [[xs, xe, xf]]) := by rw [hget_append_old (hget_lt m1)]; exact m1
    have n8 : hget (h2 ++ [some (.rows [[.lit (.int .i64 f.pos), .str f.name, .fslice (varsV f.params), .fslice (varsV f.locals), .str f.result, .fslice (f.blocks.map GBlock.cells)]])]) A8 = some (.rows [[.lit (.int .i64 f.pos), .str f.name, .fslice (varsV f.params), .fslice (varsV f.locals), .str f.result, .fslice (f.blocks.map GBlock.cells)]]) := by rw [← hA8]; simp -dsimp -implicitDefEqProofs only [go_sem, reduceIte, Nat.reduceEqDiff, Nat.reduceAdd, Nat.reduceSub, Nat.reduceLeDiff, Nat.reduceLT, Nat.reduceMul, Int.reduceToNat, Int.reduceLT, Int.reduceLE, Int.reduceEq, Int.reduceNeg, go_sem]
    refine zw_loopD (fun k t h3 => ∃ i : Nat, i ≤ f.blocks.length ∧ k = f.blocks.length - i ∧ Over h h3 ∧ hget h3 h.length = some (.rows [[xs, xe, xf]]) ∧ hget h3 A8 = some (.rows [[.lit (.int .i64 f.pos), .str f.name, .fslice (varsV f.params), .fslice (varsV f.locals), .str f.result, .fslice (f.blocks.map GBlock.cells)]]) ∧
      t.get 1 = .ptr h.length 0 0 ∧ t.get 7 = .lit (.int .i64 j) ∧ t.get 8 = .ptr A8 0 0 ∧ t.get 9 = .lit (.int .i64 i) ∧ t.get 3 = .str (P3 ++ ((f.blocks.take i).map blockB).flatten)) f.blocks.length
      ⟨0, Nat.zero_le _, rfl, ov.snoc, n1, n8, by simp -dsimp -implicitDefEqProofs only [go_sem, reduceIte, Nat.reduceEqDiff, Nat.reduceAdd, Nat.reduceSub, Nat.reduceLeDiff, Nat.reduceLT, Nat.reduceMul, Int.reduceToNat, Int.reduceLT, Int.reduceLE, Int.reduceEq, Int.reduceNeg, go_sem, t1], by simp -dsimp -implicitDefEqProofs only [go_sem, reduceIte, Nat.reduceEqDiff, Nat.reduceAdd, Nat.reduceSub, Nat.reduceLeDiff, Nat.reduceLT, Nat.reduceMul, Int.reduceToNat, Int.reduceLT, Int.reduceLE, Int.reduceEq, Int.reduceNeg, go_sem, t7], by simp -dsimp -implicitDefEqProofs only [go_sem, reduceIte, Nat.reduceEqDiff, Nat.reduceAdd, Nat.reduceSub, Nat.reduceLeDiff, Nat.reduceLT, Nat.reduceMul, Int.reduceToNat, Int.reduceLT, Int.reduceLE, Int.reduceEq, Int.reduceNeg, go_sem, hA8], by simp -dsimp -implicitDefEqProofs only [go_sem, reduceIte, Nat.reduceEqDiff, Nat.reduceAdd, Nat.reduceSub, Nat.reduceLeDiff, Nat.reduceLT, Nat.reduceMul, Int.reduceToNat, Int.reduceLT, Int.reduceLE, Int.reduceEq, Int.reduceNeg, go_sem]; rfl, by simp -dsimp -implicitDefEqProofs only [go_sem, reduceIte, Nat.reduceEqDiff, Nat.reduceAdd, Nat.reduceSub, Nat.reduceLeDiff, Nat.reduceLT, Nat.reduceMul, Int.reduceToNat, Int.reduceLT, Int.reduceLE, Int.reduceEq, Int.reduceNeg, go_sem]; simp⟩ ?_
    clear n1 n8 m1 t1 t3 t7 t ov R hA8 h2 e2
    rintro k t h2 ⟨i, hi, rfl, ov, m1, m8, t1, t7, t8, t9, t3⟩
    simp -dsimp -implicitDefEqProofs only [go_sem, reduceIte, Nat.reduceEqDiff, Nat.reduceAdd, Nat.reduceSub, Nat.reduceLeDiff, Nat.reduceLT, Nat.reduceMul, Int.reduceToNat, Int.reduceLT, Int.reduceLE, Int.reduceEq, Int.reduceNeg, go_sem, t8, t9, m8, List.length_map]
    by_cases hlb : (i : Int) < (f.blocks.length : Int)
    · have hlb2 : i < f.blocks.length := by omega
      have hbg : (f.blocks.map GBlock.cells)[i]? = some (f.blocks[i]'hlb2).cells := by simp [hlb2]
      have hbfit := hfit.bs _ (List.getElem_mem hlb2)
      have hwb : IntKind.i64.wrap ((i : Int) + 1) = (i : Int) + 1 := wrapI (by have := hfit.bl; omega) (by have := hfit.bl; omega)
      have hblf := flat_one (f := blockB) hlb2
      have hbst := flat_step (f := blockB) hlb2
      generalize f.blocks[i]'hlb2 = b at hbg hbfit hblf hbst
      have hbl11 : b.cells.length = 11 := rfl
      have hbtk : b.cells.take 11 = b.cells := List.take_of_length_le (by rw [hbl11]; exact Nat.le_refl _)
      have hbc1 : b.cells.all AVal.cell1 = true := rfl
      have hgb := keyB_ge b.name
      have hdb := digU_len (b.stmts.length : Int)
      have hsb : (blockB b).length = (keyB b.name).length + ((dig (U (b.stmts.length : Int))).length + (1 + ((b.stmts.map stmtB).flatten.length + (termB b.term).length))) := by unfold blockB; simp only [List.length_append]; rfl
      simp -dsimp -implicitDefEqProofs only [go_sem, reduceIte, Nat.reduceEqDiff, Nat.reduceAdd, Nat.reduceSub, Nat.reduceLeDiff, Nat.reduceLT, Nat.reduceMul, Int.reduceToNat, Int.reduceLT, Int.reduceLE, Int.reduceEq, Int.reduceNeg, go_sem, hlb, decide_true, t8, t9, m8, hbg, hbl11, hbtk, hbc1]
      have hd1 : b.cells.drop 1 = .str b.name :: b.cells.drop 2 := rfl
      have hd2 : b.cells.drop 2 = .fslice (b.stmts.map GStmt.cells) :: b.cells.drop 3 := rfl
      have hd3 : b.cells.drop 3 = b.term.cells := rfl
      refine zw_draw0 rfl ?_
      simp -dsimp -implicitDefEqProofs only [go_sem, reduceIte, Nat.reduceEqDiff, Nat.reduceAdd, Nat.reduceSub, Nat.reduceLeDiff, Nat.reduceLT, Nat.reduceMul, Int.reduceToNat, Int.reduceLT, Int.reduceLE, Int.reduceEq, Int.reduceNeg, go_sem, t3, hd1, hd2, hbl11, List.length_map]
      refine ⟨_, _, .inl ⟨(xfunc_ok xf141).1, key_ok (by omega) _⟩, ?_⟩
      simp -dsimp -implicitDefEqProofs only [go_sem, reduceIte, Nat.reduceEqDiff, Nat.reduceAdd, Nat.reduceSub, Nat.reduceLeDiff, Nat.reduceLT, Nat.reduceMul, Int.reduceToNat, Int.reduceLT, Int.reduceLE, Int.reduceEq, Int.reduceNeg, go_sem, t3, hd1, hd2, hbl11, List.length_map]
      refine ⟨_, _, .inl ⟨(xfunc_ok xf140).1, digitsU_ok _ _⟩, ?_⟩
      simp -dsimp -implicitDefEqProofs only [go_sem, reduceIte, Nat.reduceEqDiff, Nat.reduceAdd, Nat.reduceSub, Nat.reduceLeDiff, Nat.reduceLT, Nat.reduceMul, Int.reduceToNat, Int.reduceLT, Int.reduceLE, Int.reduceEq, Int.reduceNeg, go_sem, t3, hd1, hd2, hbl11, List.length_map]
      refine ⟨by omega, by omega, by omega, ?_⟩
      -- its statements
      generalize hP4 : P3 ++ (((f.blocks.take i).map blockB).flatten ++ (keyB b.name ++ (dig (U (b.stmts.length : Int)) ++ [116]))) = P4
      have lP4 : P4.length = P3.length + (((f.blocks.take i).map blockB).flatten.length + ((keyB b.name).length + ((dig (U (b.stmts.length : Int))).length + 1))) := by rw [← hP4]; simp only [List.length_append, List.length_cons, List.length_nil]
      have hP4f : P4 ++ ((b.stmts.map stmtB).flatten ++ termB b.term) = P3 ++ ((f.blocks.take (i + 1)).map blockB).flatten := by rw [← hP4, hbst]; unfold blockB; simp
      have hP4l : P4.length + ((b.stmts.map stmtB).flatten.length + (termB b.term).length) ≤ 4611686018427387904 := by omega
      clear hP4
      generalize hA10 : h2.length = A10
      have n1 : hget (h2 ++ [some (.rows [b.cells])]) h.length = some (.rows [[xs, xe, xf]]) := by rw [hget_append_old (hget_lt m1)]; exact m1
      have n8 : hget (h2 ++ [some (.rows [b.cells])]) A8 = some (.rows [[.lit (.int .i64 f.pos), .str f.name, .fslice (varsV f.params), .fslice (varsV f.locals), .str f.result, .fslice (f.blocks.map GBlock.cells)]]) := by rw [hget_append_old (hget_lt m8)]; exact m8
      have n10 : hget (h2 ++ [some (.rows [b.cells])]) A10 = some (.rows [b.cells]) := by rw [← hA10]; simp -dsimp -implicitDefEqProofs only [go_sem, reduceIte, Nat.reduceEqDiff, Nat.reduceAdd, Nat.reduceSub, Nat.reduceLeDiff, Nat.reduceLT, Nat.reduceMul, Int.reduceToNat, Int.reduceLT, Int.reduceLE, Int.reduceEq, Int.reduceNeg, go_sem]
      refine zw_loopD (fun k t h3 => ∃ u : Nat, u ≤ b.stmts.length ∧ k = b.stmts.length - u ∧ Over h h3 ∧ hget h3 h.length = some (.rows [[xs, xe, xf]]) ∧ hget h3 A8 = some (.rows [[.lit (.int .i64 f.pos), .str f.name, .fslice (varsV f.params), .fslice (varsV f.locals), .str f.result, .fslice (f.blocks.map GBlock.cells)]]) ∧ hget h3 A10 = some (.rows [b.cells]) ∧
        t.get 1 = .ptr h.length 0 0 ∧ t.get 7 = .lit (.int .i64 j) ∧ t.get 8 = .ptr A8 0 0 ∧ t.get 9 = .lit (.int .i64 i) ∧ t.get 10 = .ptr A10 0 0 ∧ t.get 11 = .lit (.int .i64 u) ∧ t.get 3 = .str (P4 ++ ((b.stmts.take u).map stmtB).flatten)) b.stmts.length
        ⟨0, Nat.zero_le _, rfl, ov.snoc, n1, n8, n10, by simp -dsimp -implicitDefEqProofs only [go_sem, reduceIte, Nat.reduceEqDiff, Nat.reduceAdd, Nat.reduceSub, Nat.reduceLeDiff, Nat.reduceLT, Nat.reduceMul, Int.reduceToNat, Int.reduceLT, Int.reduceLE, Int.reduceEq, Int.reduceNeg, go_sem, t1], by simp -dsimp -implicitDefEqProofs only [go_sem, reduceIte, Nat.reduceEqDiff, Nat.reduceAdd, Nat.reduceSub, Nat.reduceLeDiff, Nat.reduceLT, Nat.reduceMul, Int.reduceToNat, Int.reduceLT, Int.reduceLE, Int.reduceEq, Int.reduceNeg, go_sem, t7], by simp -dsimp -implicitDefEqProofs only [go_sem, reduceIte, Nat.reduceEqDiff, Nat.reduceAdd, Nat.reduceSub, Nat.reduceLeDiff, Nat.reduceLT, Nat.reduceMul, Int.reduceToNat, Int.reduceLT, Int.reduceLE, Int.reduceEq, Int.reduceNeg, go_sem, t8], by simp -dsimp -implicitDefEqProofs only [go_sem, reduceIte, Nat.reduceEqDiff, Nat.reduceAdd, Nat.reduceSub, Nat.reduceLeDiff, Nat.reduceLT, Nat.reduceMul, Int.reduceToNat, Int.reduceLT, Int.reduceLE, Int.reduceEq, Int.reduceNeg, go_sem, t9], by simp -dsimp -implicitDefEqProofs only [go_sem, reduceIte, Nat.reduceEqDiff, Nat.reduceAdd, Nat.reduceSub, Nat.reduceLeDiff, Nat.reduceLT, Nat.reduceMul, Int.reduceToNat, Int.reduceLT, Int.reduceLE, Int.reduceEq, Int.reduceNeg, go_sem, hA10], by simp -dsimp -implicitDefEqProofs only [go_sem, reduceIte, Nat.reduceEqDiff, Nat.reduceAdd, Nat.reduceSub, Nat.reduceLeDiff, Nat.reduceLT, Nat.reduceMul, Int.reduceToNat, Int.reduceLT, Int.reduceLE, Int.reduceEq, Int.reduceNeg, go_sem]; rfl, by simp -dsimp -implicitDefEqProofs only [go_sem, reduceIte, Nat.reduceEqDiff, Nat.reduceAdd, Nat.reduceSub, Nat.reduceLeDiff, Nat.reduceLT, Nat.reduceMul, Int.reduceToNat, Int.reduceLT, Int.reduceLE, Int.reduceEq, Int.reduceNeg, go_sem]; simp⟩ ?_
      clear n1 n8 n10 m1 m8 t1 t3 t7 t8 t9 t ov hA10 h2
      rintro k t h2 ⟨u, hu, rfl, ov, m1, m8, m10, t1, t7, t8, t9, t10, t11, t3⟩
      simp -dsimp -implicitDefEqProofs only [go_sem, reduceIte, Nat.reduceEqDiff, Nat.reduceAdd, Nat.reduceSub, Nat.reduceLeDiff, Nat.reduceLT, Nat.reduceMul, Int.reduceToNat, Int.reduceLT, Int.reduceLE, Int.reduceEq, Int.reduceNeg, go_sem, t10, t11, m10, hd2, hbl11, List.length_map]
      by_cases hls : (u : Int) < (b.stmts.length : Int)
      · have hls2 : u < b.stmts.length := by omega
        have hsg : (b.stmts.map GStmt.cells)[u]? = some (b.stmts[u]'hls2).cells := by simp [hls2]
        have hsfit := hbfit.ss _ (List.getElem_mem hls2)
        have hws : IntKind.i64.wrap ((u : Int) + 1) = (u : Int) + 1 := wrapI (by have := hbfit.sl; omega) (by have := hbfit.sl; omega)
        have hslf := flat_one (f := stmtB) hls2
        have hsst := flat_step (f := stmtB) hls2
        generalize b.stmts[u]'hls2 = s at hsg hsfit hslf hsst
        have hss : (stmtB s).length = (numB s.kind).length + ((placesB [s.to]).length + ((numB s.num).length + (1 + ((keyB s.name).length + ((keyB s.variant).length + (placesB s.args).length))))) := by unfold stmtB; simp only [List.length_append]; rfl
        have hg1 := keyB_ge s.name
        have hg2 := keyB_ge s.variant
        simp -dsimp -implicitDefEqProofs only [go_sem, reduceIte, Nat.reduceEqDiff, Nat.reduceAdd, Nat.reduceSub, Nat.reduceLeDiff, Nat.reduceLT, Nat.reduceMul, Int.reduceToNat, Int.reduceLT, Int.reduceLE, Int.reduceEq, Int.reduceNeg, go_sem, hls, decide_true, t10, t11, m10, hd2, hbl11, hsg, GStmt.cells]
        refine zw_draw [.rows [[.str s.to.1, .fslice (strs s.to.2)]]] rfl ?_
        simp -dsimp -implicitDefEqProofs only [go_sem, reduceIte, Nat.reduceEqDiff, Nat.reduceAdd, Nat.reduceSub, Nat.reduceLeDiff, Nat.reduceLT, Nat.reduceMul, Int.reduceToNat, Int.reduceLT, Int.reduceLE, Int.reduceEq, Int.reduceNeg, go_sem, t3]
        refine ⟨_, _, .inl ⟨(xfunc_ok xf113).1, number_ok _ _⟩, ?_⟩
        simp -dsimp -implicitDefEqProofs only [go_sem, reduceIte, Nat.reduceEqDiff, Nat.reduceAdd, Nat.reduceSub, Nat.reduceLeDiff, Nat.reduceLT, Nat.reduceMul, Int.reduceToNat, Int.reduceLT, Int.reduceLE, Int.reduceEq, Int.reduceNeg, go_sem]
        refine ⟨_, _, .inl ⟨(xfunc_ok xf144).1, placeKeys_ok (l := [s.to]) (placeRow1 ?_) (by simp) (fun p hp => by simp at hp; subst hp; exact hsfit.to) (by omega)⟩, ?_⟩
        · simp -dsimp -implicitDefEqProofs only [go_sem, reduceIte, Nat.reduceEqDiff, Nat.reduceAdd, Nat.reduceSub, Nat.reduceLeDiff, Nat.reduceLT, Nat.reduceMul, Int.reduceToNat, Int.reduceLT, Int.reduceLE, Int.reduceEq, Int.reduceNeg, go_sem]
        simp -dsimp -implicitDefEqProofs only [go_sem, reduceIte, Nat.reduceEqDiff, Nat.reduceAdd, Nat.reduceSub, Nat.reduceLeDiff, Nat.reduceLT, Nat.reduceMul, Int.reduceToNat, Int.reduceLT, Int.reduceLE, Int.reduceEq, Int.reduceNeg, go_sem]
        refine ⟨by omega, _, _, .inl ⟨(xfunc_ok xf113).1, number_ok _ _⟩, ?_⟩
        simp -dsimp -implicitDefEqProofs only [go_sem, reduceIte, Nat.reduceEqDiff, Nat.reduceAdd, Nat.reduceSub, Nat.reduceLeDiff, Nat.reduceLT, Nat.reduceMul, Int.reduceToNat, Int.reduceLT, Int.reduceLE, Int.reduceEq, Int.reduceNeg, go_sem]
        refine ⟨by omega, by omega, _, _, .inl ⟨(xfunc_ok xf141).1, key_ok (by omega) _⟩, ?_⟩
        simp -dsimp -implicitDefEqProofs only [go_sem, reduceIte, Nat.reduceEqDiff, Nat.reduceAdd, Nat.reduceSub, Nat.reduceLeDiff, Nat.reduceLT, Nat.reduceMul, Int.reduceToNat, Int.reduceLT, Int.reduceLE, Int.reduceEq, Int.reduceNeg, go_sem]
        refine ⟨by omega, _, _, .inl ⟨(xfunc_ok xf141).1, key_ok (by omega) _⟩, ?_⟩
        simp -dsimp -implicitDefEqProofs only [go_sem, reduceIte, Nat.reduceEqDiff, Nat.reduceAdd, Nat.reduceSub, Nat.reduceLeDiff, Nat.reduceLT, Nat.reduceMul, Int.reduceToNat, Int.reduceLT, Int.reduceLE, Int.reduceEq, Int.reduceNeg, go_sem]
        refine ⟨by omega, _, _, .inl ⟨(xfunc_ok xf144).1, placeKeys_ok (Row.frozen placesV_two) hsfit.al hsfit.ar (by omega)⟩, ?_⟩
        simp -dsimp -implicitDefEqProofs only [go_sem, reduceIte, Nat.reduceEqDiff, Nat.reduceAdd, Nat.reduceSub, Nat.reduceLeDiff, Nat.reduceLT, Nat.reduceMul, Int.reduceToNat, Int.reduceLT, Int.reduceLE, Int.reduceEq, Int.reduceNeg, go_sem, t11, hws]
        refine ⟨by omega, by omega, b.stmts.length - (u + 1), by omega, u + 1, by omega, rfl, ov.snoc, by rw [hget_append_old (hget_lt m1)]; exact m1, by rw [hget_append_old (hget_lt m8)]; exact m8, by rw [hget_append_old (hget_lt m10)]; exact m10, t1, t7, t8, t9, t10, rfl, ?_⟩
        rw [hsst]
        unfold stmtB
        simp
      · have hu2 : u = b.stmts.length := by omega
        subst hu2
        rw [List.take_length] at t3
        have htl8 : b.term.cells.take 8 = b.term.cells := rfl
        have htc1 : b.term.cells.all AVal.cell1 = true := rfl
        have htl : b.term.cells.length = 8 := rfl
        simp -dsimp -implicitDefEqProofs only [go_sem, reduceIte, Nat.reduceEqDiff, Nat.reduceAdd, Nat.reduceSub, Nat.reduceLeDiff, Nat.reduceLT, Nat.reduceMul, Int.reduceToNat, Int.reduceLT, Int.reduceLE, Int.reduceEq, Int.reduceNeg, hls, decide_false, t10, m10, hd3, hbl11, htl8, htc1, htl]
        have htf := hbfit.t
        generalize hbt : b.term = e at htf hP4f hP4l hsb hd3 ⊢
        have htsl : (termB e).length = (numB e.kind).length + ((placesB [e.to]).length + ((keyB e.name).length + ((placesB e.args).length + ((keysB e.blocks).length + ((dig (U (e.arms.length : Int))).length + (1 + (e.arms.map armB).flatten.length)))))) := by unfold termB; simp only [List.length_append]; rfl
        have hg1 := keyB_ge e.name
        have hdt := digU_len (e.arms.length : Int)
        refine zw_draw [.rows [[.str e.to.1, .fslice (strs e.to.2)]]] rfl ?_
        simp -dsimp -implicitDefEqProofs only [go_sem, reduceIte, Nat.reduceEqDiff, Nat.reduceAdd, Nat.reduceSub, Nat.reduceLeDiff, Nat.reduceLT, Nat.reduceMul, Int.reduceToNat, Int.reduceLT, Int.reduceLE, Int.reduceEq, Int.reduceNeg, go_sem, t3, GTerm.cells]
        refine ⟨_, _, .inl ⟨(xfunc_ok xf113).1, number_ok _ _⟩, ?_⟩
        simp -dsimp -implicitDefEqProofs only [go_sem, reduceIte, Nat.reduceEqDiff, Nat.reduceAdd, Nat.reduceSub, Nat.reduceLeDiff, Nat.reduceLT, Nat.reduceMul, Int.reduceToNat, Int.reduceLT, Int.reduceLE, Int.reduceEq, Int.reduceNeg, go_sem]
        refine ⟨_, _, .inl ⟨(xfunc_ok xf144).1, placeKeys_ok (l := [e.to]) (placeRow1 ?_) (by simp) (fun p hp => by simp at hp; subst hp; exact htf.to) (by omega)⟩, ?_⟩
        · simp -dsimp -implicitDefEqProofs only [go_sem, reduceIte, Nat.reduceEqDiff, Nat.reduceAdd, Nat.reduceSub, Nat.reduceLeDiff, Nat.reduceLT, Nat.reduceMul, Int.reduceToNat, Int.reduceLT, Int.reduceLE, Int.reduceEq, Int.reduceNeg, go_sem]
        simp -dsimp -implicitDefEqProofs only [go_sem, reduceIte, Nat.reduceEqDiff, Nat.reduceAdd, Nat.reduceSub, Nat.reduceLeDiff, Nat.reduceLT, Nat.reduceMul, Int.reduceToNat, Int.reduceLT, Int.reduceLE, Int.reduceEq, Int.reduceNeg, go_sem]
        refine ⟨by omega, _, _, .inl ⟨(xfunc_ok xf141).1, key_ok (by omega) _⟩, ?_⟩
        simp -dsimp -implicitDefEqProofs only [go_sem, reduceIte, Nat.reduceEqDiff, Nat.reduceAdd, Nat.reduceSub, Nat.reduceLeDiff, Nat.reduceLT, Nat.reduceMul, Int.reduceToNat, Int.reduceLT, Int.reduceLE, Int.reduceEq, Int.reduceNeg, go_sem]
        refine ⟨by omega, _, _, .inl ⟨(xfunc_ok xf144).1, placeKeys_ok (Row.frozen placesV_two) htf.al htf.ar (by omega)⟩, ?_⟩
        simp -dsimp -implicitDefEqProofs only [go_sem, reduceIte, Nat.reduceEqDiff, Nat.reduceAdd, Nat.reduceSub, Nat.reduceLeDiff, Nat.reduceLT, Nat.reduceMul, Int.reduceToNat, Int.reduceLT, Int.reduceLE, Int.reduceEq, Int.reduceNeg, go_sem]
        refine ⟨by omega, _, _, .inl ⟨(xfunc_ok xf145).1, keys_ok (Row.frozen strs_one) htf.bl (by omega)⟩, ?_⟩
        simp -dsimp -implicitDefEqProofs only [go_sem, reduceIte, Nat.reduceEqDiff, Nat.reduceAdd, Nat.reduceSub, Nat.reduceLeDiff, Nat.reduceLT, Nat.reduceMul, Int.reduceToNat, Int.reduceLT, Int.reduceLE, Int.reduceEq, Int.reduceNeg, go_sem]
        refine ⟨by omega, _, _, .inl ⟨(xfunc_ok xf140).1, digitsU_ok _ _⟩, ?_⟩
        simp -dsimp -implicitDefEqProofs only [go_sem, reduceIte, Nat.reduceEqDiff, Nat.reduceAdd, Nat.reduceSub, Nat.reduceLeDiff, Nat.reduceLT, Nat.reduceMul, Int.reduceToNat, Int.reduceLT, Int.reduceLE, Int.reduceEq, Int.reduceNeg, go_sem, armsV_len]
        refine ⟨by omega, by omega, by omega, ?_⟩
        -- its arms
        generalize hP5 : P4 ++ ((b.stmts.map stmtB).flatten ++ (numB e.kind ++ (placesB [e.to] ++ (keyB e.name ++ (placesB e.args ++ (keysB e.blocks ++ (dig (U (e.arms.length : Int)) ++ [97]))))))) = P5
        have lP5 : P5.length = P4.length + ((b.stmts.map stmtB).flatten.length + ((numB e.kind).length + ((placesB [e.to]).length + ((keyB e.name).length + ((placesB e.args).length + ((keysB e.blocks).length + ((dig (U (e.arms.length : Int))).length + 1))))))) := by rw [← hP5]; simp only [List.length_append, List.length_cons, List.length_nil]
        have hP5f : P5 ++ (e.arms.map armB).flatten = P3 ++ ((f.blocks.take (i + 1)).map blockB).flatten := by rw [← hP4f, ← hP5]; unfold termB; simp
        have hP5l : P5.length + (e.arms.map armB).flatten.length ≤ 4611686018427387904 := by omega
        clear hP5
        generalize hA13 : h2.length = A13
        have n1 : ∀ l, hget (h2 ++ l) h.length = some (.rows [[xs, xe, xf]]) := fun l => by rw [hget_append_old (hget_lt m1)]; exact m1
        have n8 : ∀ l, hget (h2 ++ l) A8 = some (.rows [[.lit (.int .i64 f.pos), .str f.name, .fslice (varsV f.params), .fslice (varsV f.locals), .str f.result, .fslice (f.blocks.map GBlock.cells)]]) := fun l => by rw [hget_append_old (hget_lt m8)]; exact m8
        have n13 : ∀ x r, hget (h2 ++ (some x :: r)) A13 = some x := fun x r => by rw [← hA13, hget_new0]; rfl
        refine zw_loopD (fun k t h3 => ∃ u : Nat, u ≤ e.arms.length ∧ k = e.arms.length - u ∧ Over h h3 ∧ hget h3 h.length = some (.rows [[xs, xe, xf]]) ∧ hget h3 A8 = some (.rows [[.lit (.int .i64 f.pos), .str f.name, .fslice (varsV f.params), .fslice (varsV f.locals), .str f.result, .fslice (f.blocks.map GBlock.cells)]]) ∧
          hget h3 A13 = some (.rows [e.cells]) ∧ t.get 1 = .ptr h.length 0 0 ∧ t.get 7 = .lit (.int .i64 j) ∧ t.get 8 = .ptr A8 0 0 ∧ t.get 9 = .lit (.int .i64 i) ∧ t.get 13 = .ptr A13 0 0 ∧ t.get 14 = .lit (.int .i64 u) ∧ t.get 3 = .str (P5 ++ ((e.arms.take u).map armB).flatten)) e.arms.length
          ⟨0, Nat.zero_le _, rfl, ov.snoc, n1 _, n8 _, n13 _ _, by simp -dsimp -implicitDefEqProofs only [go_sem, reduceIte, Nat.reduceEqDiff, Nat.reduceAdd, Nat.reduceSub, Nat.reduceLeDiff, Nat.reduceLT, Nat.reduceMul, Int.reduceToNat, Int.reduceLT, Int.reduceLE, Int.reduceEq, Int.reduceNeg, go_sem, t1], by simp -dsimp -implicitDefEqProofs only [go_sem, reduceIte, Nat.reduceEqDiff, Nat.reduceAdd, Nat.reduceSub, Nat.reduceLeDiff, Nat.reduceLT, Nat.reduceMul, Int.reduceToNat, Int.reduceLT, Int.reduceLE, Int.reduceEq, Int.reduceNeg, go_sem, t7], by simp -dsimp -implicitDefEqProofs only [go_sem, reduceIte, Nat.reduceEqDiff, Nat.reduceAdd, Nat.reduceSub, Nat.reduceLeDiff, Nat.reduceLT, Nat.reduceMul, Int.reduceToNat, Int.reduceLT, Int.reduceLE, Int.reduceEq, Int.reduceNeg, go_sem, t8], by simp -dsimp -implicitDefEqProofs only [go_sem, reduceIte, Nat.reduceEqDiff, Nat.reduceAdd, Nat.reduceSub, Nat.reduceLeDiff, Nat.reduceLT, Nat.reduceMul, Int.reduceToNat, Int.reduceLT, Int.reduceLE, Int.reduceEq, Int.reduceNeg, go_sem, t9], by simp -dsimp -implicitDefEqProofs only [go_sem, reduceIte, Nat.reduceEqDiff, Nat.reduceAdd, Nat.reduceSub, Nat.reduceLeDiff, Nat.reduceLT, Nat.reduceMul, Int.reduceToNat, Int.reduceLT, Int.reduceLE, Int.reduceEq, Int.reduceNeg, go_sem, hA13], by simp -dsimp -implicitDefEqProofs only [go_sem, reduceIte, Nat.reduceEqDiff, Nat.reduceAdd, Nat.reduceSub, Nat.reduceLeDiff, Nat.reduceLT, Nat.reduceMul, Int.reduceToNat, Int.reduceLT, Int.reduceLE, Int.reduceEq, Int.reduceNeg, go_sem]; rfl, by simp -dsimp -implicitDefEqProofs only [go_sem, reduceIte, Nat.reduceEqDiff, Nat.reduceAdd, Nat.reduceSub, Nat.reduceLeDiff, Nat.reduceLT, Nat.reduceMul, Int.reduceToNat, Int.reduceLT, Int.reduceLE, Int.reduceEq, Int.reduceNeg, go_sem]; simp⟩ ?_
        clear n1 n8 n13 m1 m8 m10 t1 t3 t7 t8 t9 t10 t11 t ov hA13 h2
        rintro k t h2 ⟨u, hu, rfl, ov, m1, m8, m13, t1, t7, t8, t9, t13, t14, t3⟩
        have hel : e.cells.length = 8 := rfl
        have hed : e.cells.drop 7 = [.fslice (armsV e.arms)] := rfl
        simp -dsimp -implicitDefEqProofs only [go_sem, reduceIte, Nat.reduceEqDiff, Nat.reduceAdd, Nat.reduceSub, Nat.reduceLeDiff, Nat.reduceLT, Nat.reduceMul, Int.reduceToNat, Int.reduceLT, Int.reduceLE, Int.reduceEq, Int.reduceNeg, go_sem, t13, t14, m13, hel, hed, armsV_len]
        by_cases hla : (u : Int) < (e.arms.length : Int)
        · have hla2 : u < e.arms.length := by omega
          have hag : (armsV e.arms)[u]? = some [.str (e.arms[u]'hla2).1, .str (e.arms[u]'hla2).2.1, .str (e.arms[u]'hla2).2.2] := by simp [armsV, hla2]
          have hwa : IntKind.i64.wrap ((u : Int) + 1) = (u : Int) + 1 := wrapI (by have := htf.ml; omega) (by have := htf.ml; omega)
          have hslf := flat_one (f := armB) hla2
          have hsst := flat_step (f := armB) hla2
          generalize e.arms[u]'hla2 = a at hag hslf hsst
          have hss : (armB a).length = (keyB a.1).length + ((keyB a.2.1).length + (keyB a.2.2).length) := by unfold armB; simp only [List.length_append]
          have hk1 := keyB_ge a.1
          have hk2 := keyB_ge a.2.1
          have hk3 := keyB_ge a.2.2
          simp -dsimp -implicitDefEqProofs only [go_sem, reduceIte, Nat.reduceEqDiff, Nat.reduceAdd, Nat.reduceSub, Nat.reduceLeDiff, Nat.reduceLT, Nat.reduceMul, Int.reduceToNat, Int.reduceLT, Int.reduceLE, Int.reduceEq, Int.reduceNeg, go_sem, hla, decide_true, t14]
          refine zw_draw0 rfl ?_
          simp -dsimp -implicitDefEqProofs only [go_sem, reduceIte, Nat.reduceEqDiff, Nat.reduceAdd, Nat.reduceSub, Nat.reduceLeDiff, Nat.reduceLT, Nat.reduceMul, Int.reduceToNat, Int.reduceLT, Int.reduceLE, Int.reduceEq, Int.reduceNeg, go_sem, t3, t13, t14, m13, hel, hed, hag]
          refine ⟨_, _, .inl ⟨(xfunc_ok xf141).1, key_ok (by omega) _⟩, ?_⟩
          simp -dsimp -implicitDefEqProofs only [go_sem, reduceIte, Nat.reduceEqDiff, Nat.reduceAdd, Nat.reduceSub, Nat.reduceLeDiff, Nat.reduceLT, Nat.reduceMul, Int.reduceToNat, Int.reduceLT, Int.reduceLE, Int.reduceEq, Int.reduceNeg, go_sem, t3, t13, t14, m13, hel, hed, hag]
          refine ⟨_, _, .inl ⟨(xfunc_ok xf141).1, key_ok (by omega) _⟩, ?_⟩
          simp -dsimp -implicitDefEqProofs only [go_sem, reduceIte, Nat.reduceEqDiff, Nat.reduceAdd, Nat.reduceSub, Nat.reduceLeDiff, Nat.reduceLT, Nat.reduceMul, Int.reduceToNat, Int.reduceLT, Int.reduceLE, Int.reduceEq, Int.reduceNeg, go_sem, t3, t13, t14, m13, hel, hed, hag]
          refine ⟨by omega, _, _, .inl ⟨(xfunc_ok xf141).1, key_ok (by omega) _⟩, ?_⟩
          simp -dsimp -implicitDefEqProofs only [go_sem, reduceIte, Nat.reduceEqDiff, Nat.reduceAdd, Nat.reduceSub, Nat.reduceLeDiff, Nat.reduceLT, Nat.reduceMul, Int.reduceToNat, Int.reduceLT, Int.reduceLE, Int.reduceEq, Int.reduceNeg, go_sem, t3, t13, t14, m13, hel, hed, hag, hwa]
          refine ⟨by omega, by omega, e.arms.length - (u + 1), by omega, u + 1, by omega, rfl, ov, m1, m8, t1, t7, t8, t9, rfl, ?_⟩
          rw [hsst]
          rfl
        · have hu2 : u = e.arms.length := by omega
          subst hu2
          rw [List.take_length, hP5f] at t3
          simp -dsimp -implicitDefEqProofs only [go_sem, reduceIte, Nat.reduceEqDiff, Nat.reduceAdd, Nat.reduceSub, Nat.reduceLeDiff, Nat.reduceLT, Nat.reduceMul, Int.reduceToNat, Int.reduceLT, Int.reduceLE, Int.reduceEq, Int.reduceNeg, hla, decide_false, t9, hwb]
          exact ⟨f.blocks.length - (i + 1), by omega, i + 1, by omega, rfl, ov, m1, m8, t1, t7, t8, rfl, t3⟩
    · have hi2 : i = f.blocks.length := by omega
      subst hi2
      rw [List.take_length, hP3f] at t3
      simp -dsimp -implicitDefEqProofs only [go_sem, reduceIte, Nat.reduceEqDiff, Nat.reduceAdd, Nat.reduceSub, Nat.reduceLeDiff, Nat.reduceLT, Nat.reduceMul, Int.reduceToNat, Int.reduceLT, Int.reduceLE, Int.reduceEq, Int.reduceNeg, hlb, decide_false, t7, hw]
      exact ⟨fs.length - (j + 1), by omega, j + 1, by omega, rfl, ov, m1, t1, rfl, t3⟩
  · have hj2 : j = fs.length := by omega
    subst hj2
    rw [List.take_length] at t3
    simp -dsimp -implicitDefEqProofs only [go_sem, reduceIte, Nat.reduceEqDiff, Nat.reduceAdd, Nat.reduceSub, Nat.reduceLeDiff, Nat.reduceLT, Nat.reduceMul, Int.reduceToNat, Int.reduceLT, Int.reduceLE, Int.reduceEq, Int.reduceNeg, hl, decide_false, t3]
    exact fend_over ov (.str _) ⟨rfl, rfl⟩
end Go.AL
