/- A row of the same number; a search by a test. -/
import Derived.Test.YtjiccnebfbpcgaaGreatDoorR06
import Derived.Laws.Bits64b
set_option linter.unusedSimpArgs false
set_option linter.unusedVariables false
set_option linter.unusedSectionVars false
namespace Go.AL
open Go.Proofs
theorem wrapU {n : Int} (h0 : 0 ≤ n) (h : n < 18446744073709551616) : IntKind.u64.wrap n = n := by
  unfold IntKind.wrap
  have e : IntKind.u64.bits = 64 := rfl
  have e2 : IntKind.u64.signed = false := rfl
  simp only [e, e2, Bool.false_and, ge_iff_le]
  simp
  omega
theorem mul64_ok {n : Nat} (hn : n < 4294967296) (h : AHeap) : ACall Tryz.prog 185 [.lit (.int .u64 1), .lit (.int .u64 n)] h fun r h' => r = .tuple [.lit (.int .u64 0), .lit (.int .u64 n)] ∧ h' = h := by
  have b1 : bits .and .u64 1 4294967295 = 1 := by rfl
  have b2 : bits .and .u64 (n : Int) 4294967295 = n := by
    have := bits_and_u64_nat n 4294967295 (by omega) (by omega)
    rw [show (4294967295 : Nat) = 2 ^ 32 - 1 by rfl, Nat.and_two_pow_sub_one_eq_mod, Nat.mod_eq_of_lt (by omega)] at this
    exact this
  have b3 : bits .and .u64 0 4294967295 = 0 := by rfl
  have s1 : Int.fdiv 1 (2 ^ min 32 64) = 0 := by rfl
  have s2 : Int.fdiv (n : Int) (2 ^ min 32 64) = 0 := by
    show Int.fdiv (n : Int) 4294967296 = 0
    rw [Int.fdiv_eq_ediv_of_nonneg _ (by omega)]; omega
  have s3 : Int.fdiv 0 (2 ^ min 32 64) = 0 := by rfl
  have w1 : IntKind.u64.wrap (1 * (n : Int)) = n := by rw [wrapU (by omega) (by omega)]; omega
  have w2 : IntKind.u64.wrap (0 * (n : Int)) = 0 := by rw [wrapU (by omega) (by omega)]; omega
  have w3 : IntKind.u64.wrap (0 + 0) = 0 := by rfl
  have w4 : IntKind.u64.wrap (1 * 0) = 0 := by rfl
  have w5 : IntKind.u64.wrap (0 * 0) = 0 := by rfl
  have w6 : IntKind.u64.wrap 0 = 0 := by rfl
  refine acall_z mixed xf185 rfl ?_
  unfold xc185 xr185 xn185
  simp -dsimp -implicitDefEqProofs only [go_sem, reduceIte, Nat.reduceEqDiff, Nat.reduceAdd, Nat.reduceSub, Nat.reduceLeDiff, Nat.reduceLT, Nat.reduceMul, Int.reduceToNat, Int.reduceLT, Int.reduceLE, Int.reduceEq, Int.reduceNeg, go_sem, b1, b2, b3, s1, s2, s3, w1, w2, w3, w4, w5]
  exact .all ⟨rfl, rfl⟩
theorem mul_ok {n : Nat} (hn : n < 4294967296) (h : AHeap) : ACall Tryz.prog 122 [.lit (.int .u64 1), .lit (.int .u64 n)] h fun r h' => r = .tuple [.lit (.int .u64 0), .lit (.int .u64 n)] ∧ h' = h := by
  refine acall_z mixed xf122 rfl ?_
  unfold xc122 xr122 xn122
  simp -dsimp -implicitDefEqProofs only [go_sem, reduceIte, Nat.reduceEqDiff, Nat.reduceAdd, Nat.reduceSub, Nat.reduceLeDiff, Nat.reduceLT, Nat.reduceMul, Int.reduceToNat, Int.reduceLT, Int.reduceLE, Int.reduceEq, Int.reduceNeg, go_sem]
  refine zcall_eq xf185 (Nat.le_refl _) (mul64_ok hn h) ?_
  simp -dsimp -implicitDefEqProofs only [go_sem, reduceIte, Nat.reduceEqDiff, Nat.reduceAdd, Nat.reduceSub, Nat.reduceLeDiff, Nat.reduceLT, Nat.reduceMul, Int.reduceToNat, Int.reduceLT, Int.reduceLE, Int.reduceEq, Int.reduceNeg, go_sem]
  exact .all ⟨rfl, rfl⟩
theorem ZCopy_slice {h : AHeap} {a e i n esz : Nat} {c : Option Nat} {s : AVal} {K : AVal → AHeap → Prop} {u} : ZCopy h (.slice a e i n c) s esz K u = ZOpt (hget h a) (fun o => ZRows o (fun es => (e = esz ∧ i + n ≤ es.length ∧ ZElems h (ashort s n) esz (fun new => K (.lit (.int .i64 new.length)) (hset h a (.rows (es.take i ++ (new ++ es.drop (i + new.length)))))) .mk)) .mk) .mk := by
  apply propext
  show ACopy _ _ _ _ _ ↔ optK _ _
  unfold ACopy optK
  constructor
  · rintro ⟨es, h1, h2⟩; rw [h1]; exact h2
  · intro hh
    split at hh
    · rename_i o ho
      cases o <;> try exact hh.elim
      exact ⟨_, ho, hh⟩
    · exact hh.elim
theorem ashort_slice {a e i m n : Nat} {c : Option Nat} : ashort (.slice a e i m c) n = .slice a e i (min m n) c := rfl
def half (n k : Nat) (v z : List AVal) : List (List AVal) := List.replicate k v ++ List.replicate (n - k) z
theorem half_len {n k : Nat} {v z : List AVal} (hk : k ≤ n) : (half n k v z).length = n := by simp [half]; omega
theorem half_take {n k m : Nat} {v z : List AVal} (hm : m ≤ k) : (half n k v z).take m = List.replicate m v := by
  unfold half
  rw [List.take_append_of_le_length (by simpa using hm), List.take_replicate, Nat.min_eq_left hm]
theorem half_more {n k m : Nat} {v z : List AVal} (hm : k + m ≤ n) : List.replicate k v ++ (List.replicate m v ++ (half n k v z).drop (k + m)) = half n (k + m) v z := by
  unfold half
  rw [List.drop_append, List.drop_of_length_le (by simp), List.length_replicate, List.drop_replicate, List.nil_append, ← List.append_assoc, List.replicate_append_replicate]
  congr 2; omega
theorem half_zero {n : Nat} {v z : List AVal} : half n 0 v z = List.replicate n z := by simp [half]
theorem half_full {n : Nat} {v z : List AVal} : half n n v z = List.replicate n v := by simp [half]
theorem repeat_ok {a n : Nat} {c : Option Nat} {z : Int} {h : AHeap} (ha : hget h a = some (.rows [[.lit (.int .i64 z)]])) (hn : n < 4294967296) :
    ACall Tryz.prog 55 [.slice a 1 0 1 c, .lit (.int .i64 n)] h fun r h' => r = .slice h.length 1 0 n (some n) ∧ h' = h ++ [some (.rows (List.replicate n [.lit (.int .i64 z)]))] := by
  have la := hget_lt ha
  have c1 : ¬ ((n : Int) < 0) := by omega
  have c2 : IntKind.u64.wrap (n : Int) = n := wrapU (by omega) (by omega)
  have c3 : IntKind.u64.wrap ((1 : Nat) : Int) = 1 := by rfl
  have c4 : ¬ ((0 : Int) < 0) := by omega
  have c5 : ¬ ((9223372036854775807 : Int) < (n : Int)) := by omega
  have c6 : IntKind.i64.wrap (n : Int) = n := wrapI (by omega) (by omega)
  have c7 : (n : Int) ≤ 4294967296 := by omega
  have d1 : ∀ l, hget (h ++ l) a = some (.rows [[.lit (.int .i64 z)]]) := fun l => by rw [hget_append_old la]; exact ha
  have d2 : ([[AVal.lit (.int .i64 z)]].take (min 1 n)) = List.replicate (min 1 n) [.lit (.int .i64 z)] := by
    by_cases e : n = 0
    · subst e; rfl
    · rw [Nat.min_eq_left (by omega)]; rfl
  have d3 := half_more (n := n) (k := 0) (m := min 1 n) (v := [.lit (.int .i64 z)]) (z := [.lit (.int .i64 0)]) (by omega)
  rw [half_zero] at d3
  simp only [List.replicate_zero, List.nil_append, Nat.zero_add] at d3
  refine acall_z mixed xf55 rfl ?_
  unfold xc55 xr55 xn55
  simp -dsimp -implicitDefEqProofs only [go_sem, reduceIte, Nat.reduceEqDiff, Nat.reduceAdd, Nat.reduceSub, Nat.reduceLeDiff, Nat.reduceLT, Nat.reduceMul, Int.reduceToNat, Int.reduceLT, Int.reduceLE, Int.reduceEq, Int.reduceNeg, go_sem, c1, decide_false, c2, c3]
  refine zcall_eq xf122 (Nat.le_refl _) (mul_ok hn h) ?_
  simp -dsimp -implicitDefEqProofs only [go_sem, reduceIte, Nat.reduceEqDiff, Nat.reduceAdd, Nat.reduceSub, Nat.reduceLeDiff, Nat.reduceLT, Nat.reduceMul, Int.reduceToNat, Int.reduceLT, Int.reduceLE, Int.reduceEq, Int.reduceNeg, go_sem, c4, c5, c6, c7, decide_false, ZCopy_slice, ashort_slice, d1, d2, d3, List.length_replicate]
  refine ⟨by omega, ?_⟩
  refine zw_loopD (fun q t h2 => ∃ k : Nat, k ≤ n ∧ (k = 0 → n = 0) ∧ q = n - k ∧ h2 = h ++ [some (.rows (half n k [.lit (.int .i64 z)] [.lit (.int .i64 0)]))] ∧ t.get 7 = .slice h.length 1 0 n (some n) ∧ t.get 8 = .lit (.int .i64 k)) (n - min 1 n)
    ⟨min 1 n, by omega, by omega, rfl, rfl, by simp -dsimp -implicitDefEqProofs only [go_sem, reduceIte, Nat.reduceEqDiff, Nat.reduceAdd, Nat.reduceSub, Nat.reduceLeDiff, Nat.reduceLT, Nat.reduceMul, Int.reduceToNat, Int.reduceLT, Int.reduceLE, Int.reduceEq, Int.reduceNeg, go_sem], by simp -dsimp -implicitDefEqProofs only [go_sem, reduceIte, Nat.reduceEqDiff, Nat.reduceAdd, Nat.reduceSub, Nat.reduceLeDiff, Nat.reduceLT, Nat.reduceMul, Int.reduceToNat, Int.reduceLT, Int.reduceLE, Int.reduceEq, Int.reduceNeg, go_sem]⟩ ?_
  rintro q t h2 ⟨k, hk, hk0, rfl, rfl, t7, t8⟩
  simp -dsimp -implicitDefEqProofs only [go_sem, reduceIte, Nat.reduceEqDiff, Nat.reduceAdd, Nat.reduceSub, Nat.reduceLeDiff, Nat.reduceLT, Nat.reduceMul, Int.reduceToNat, Int.reduceLT, Int.reduceLE, Int.reduceEq, Int.reduceNeg, go_sem, t7, t8]
  by_cases hlt : (k : Int) < (n : Int)
  · have hl2 : k < n := by omega
    have e1 : k < (some n).getD n := hl2
    have e2 : 0 < (some n).getD n := by show 0 < n; omega
    have e3 : (k < n) = True := by simp [hl2]
    have e4 : (0 < n) = True := by simp; omega
    have f1 : (half n k [.lit (.int .i64 z)] [.lit (.int .i64 0)]).length = n := half_len hk
    have f2 := half_take (n := n) (k := k) (m := min k (n - k)) (v := [.lit (.int .i64 z)]) (z := [.lit (.int .i64 0)]) (by omega)
    have f3 := half_take (n := n) (k := k) (m := k) (v := [.lit (.int .i64 z)]) (z := [.lit (.int .i64 0)]) (by omega)
    have f4 := half_more (n := n) (k := k) (m := min k (n - k)) (v := [.lit (.int .i64 z)]) (z := [.lit (.int .i64 0)]) (by omega)
    have g1 : aslcV h.length 1 0 n (some n) n k = .slice h.length 1 k (n - k) (some (n - k)) := by rw [aslcV_t e1]; simp
    have g2 : aslcV h.length 1 0 n (some n) k 0 = .slice h.length 1 0 k (some n) := by rw [aslcV_t e2]; simp
    have hw : IntKind.i64.wrap ((k : Int) + ((min k (n - k) : Nat) : Int)) = ((k + min k (n - k) : Nat) : Int) := by rw [wrapI (by omega) (by omega)]; omega
    simp -dsimp -implicitDefEqProofs only [go_sem, reduceIte, Nat.reduceEqDiff, Nat.reduceAdd, Nat.reduceSub, Nat.reduceLeDiff, Nat.reduceLT, Nat.reduceMul, Int.reduceToNat, Int.reduceLT, Int.reduceLE, Int.reduceEq, Int.reduceNeg, go_sem, hlt, decide_true, t7, t8, e3, e4, true_or, g1, g2, ZCopy_slice, ashort_slice, f1, f2, f3, f4, List.length_replicate, hw]
    refine ⟨by omega, by omega, by omega, by omega, by omega, n - (k + min k (n - k)), ?_, k + min k (n - k), by omega, by omega, rfl, rfl, rfl⟩
    omega
  · have hk2 : k = n := by omega
    subst hk2
    simp -dsimp -implicitDefEqProofs only [go_sem, reduceIte, Nat.reduceEqDiff, Nat.reduceAdd, Nat.reduceSub, Nat.reduceLeDiff, Nat.reduceLT, Nat.reduceMul, Int.reduceToNat, Int.reduceLT, Int.reduceLE, Int.reduceEq, Int.reduceNeg, hlt, decide_false, t7, t8, half_full]
    exact .all ⟨rfl, rfl⟩
end Go.AL
namespace Go.AL
open Go.Proofs
theorem indexFuncI_ok {x F : AVal} {n : Nat} {f : Nat → Int} {pt : Nat → AVal} {h : AHeap} (R : IRow h x n f pt) (hn : n < 4294967296) (p : Int → Bool) (hF : ∀ j, j < n → ACallV Tryz.prog F [.lit (.int .i64 (f j))] h fun r h' => r = .lit (.bool (p (f j))) ∧ h' = h) :
    ACall Tryz.prog 125 [x, F] h fun r h' => (∃ z : Int, r = .lit (.int .i64 z) ∧ (0 ≤ z ↔ ∃ j, j < n ∧ p (f j) = true)) ∧ h' = h := by
  refine acall_z mixed xf125 rfl ?_
  unfold xc125 xr125 xn125
  simp -dsimp -implicitDefEqProofs only [go_sem, reduceIte, Nat.reduceEqDiff, Nat.reduceAdd, Nat.reduceSub, Nat.reduceLeDiff, Nat.reduceLT, Nat.reduceMul, Int.reduceToNat, Int.reduceLT, Int.reduceLE, Int.reduceEq, Int.reduceNeg, go_sem, R.form, R.len]
  refine zw_loopD (fun k t h2 => ∃ j : Nat, j ≤ n ∧ k = n - j ∧ h2 = h ∧ t.get 0 = x ∧ t.get 1 = F ∧ t.get 7 = .lit (.int .i64 n) ∧ t.get 8 = .lit (.int .i64 j) ∧ ∀ i, i < j → p (f i) = false) n ⟨0, by omega, by omega, rfl, rfl, rfl, rfl, rfl, fun i hi => by omega⟩ ?_
  rintro k t h2 ⟨j, hj, rfl, rfl, t0, t1, t7, t8, hno⟩
  simp -dsimp -implicitDefEqProofs only [go_sem, reduceIte, Nat.reduceEqDiff, Nat.reduceAdd, Nat.reduceSub, Nat.reduceLeDiff, Nat.reduceLT, Nat.reduceMul, Int.reduceToNat, Int.reduceLT, Int.reduceLE, Int.reduceEq, Int.reduceNeg, go_sem, t0, t1, t7, t8]
  by_cases hl : (j : Int) < (n : Int)
  · have hl2 : j < n := by omega
    have e1 := R.idx j hl2
    have e2 := R.rd j hl2
    have hw : IntKind.i64.wrap ((j : Int) + 1) = (j : Int) + 1 := wrapI (by omega) (by omega)
    simp -dsimp -implicitDefEqProofs only [go_sem, reduceIte, Nat.reduceEqDiff, Nat.reduceAdd, Nat.reduceSub, Nat.reduceLeDiff, Nat.reduceLT, Nat.reduceMul, Int.reduceToNat, Int.reduceLT, Int.reduceLE, Int.reduceEq, Int.reduceNeg, hl, decide_true, t0, t1, t7, t8, e1, e2]
    refine zcallV_eq (Nat.le_refl _) (hF j hl2) ?_
    simp -dsimp -implicitDefEqProofs only [go_sem, reduceIte, Nat.reduceEqDiff, Nat.reduceAdd, Nat.reduceSub, Nat.reduceLeDiff, Nat.reduceLT, Nat.reduceMul, Int.reduceToNat, Int.reduceLT, Int.reduceLE, Int.reduceEq, Int.reduceNeg, go_sem, t0, t1, t7, t8]
    cases hv : p (f j) with
    | true =>
      simp -dsimp -implicitDefEqProofs only [go_sem, reduceIte, Nat.reduceEqDiff, Nat.reduceAdd, Nat.reduceSub, Nat.reduceLeDiff, Nat.reduceLT, Nat.reduceMul, Int.reduceToNat, Int.reduceLT, Int.reduceLE, Int.reduceEq, Int.reduceNeg, go_sem, t0, t1, t7, t8]
      exact .all ⟨⟨j, rfl, by simp; exact ⟨j, hl2, hv⟩⟩, rfl⟩
    | false =>
      simp -dsimp -implicitDefEqProofs only [go_sem, reduceIte, Nat.reduceEqDiff, Nat.reduceAdd, Nat.reduceSub, Nat.reduceLeDiff, Nat.reduceLT, Nat.reduceMul, Int.reduceToNat, Int.reduceLT, Int.reduceLE, Int.reduceEq, Int.reduceNeg, go_sem, t0, t1, t7, t8, hw]
      refine ⟨n - (j + 1), by omega, j + 1, by omega, rfl, rfl, fun i hi => ?_⟩
      by_cases e : i = j
      · subst e; exact hv
      · exact hno i (by omega)
  · simp -dsimp -implicitDefEqProofs only [go_sem, reduceIte, Nat.reduceEqDiff, Nat.reduceAdd, Nat.reduceSub, Nat.reduceLeDiff, Nat.reduceLT, Nat.reduceMul, Int.reduceToNat, Int.reduceLT, Int.reduceLE, Int.reduceEq, Int.reduceNeg, hl, decide_false, t0, t1, t7, t8]
    refine .all ⟨⟨-1, rfl, ?_⟩, rfl⟩
    constructor
    · intro h; omega
    · rintro ⟨i, hi, hp⟩; rw [hno i (by omega)] at hp; cases hp
theorem containsFunc_ok {x F : AVal} {n : Nat} {f : Nat → Int} {pt : Nat → AVal} {h : AHeap} (R : IRow h x n f pt) (hn : n < 4294967296) (p : Int → Bool) (hF : ∀ j, j < n → ACallV Tryz.prog F [.lit (.int .i64 (f j))] h fun r h' => r = .lit (.bool (p (f j))) ∧ h' = h) :
    ACall Tryz.prog 59 [x, F] h fun r h' => (∃ b, r = .lit (.bool b)) ∧ h' = h := by
  refine acall_z mixed xf59 rfl ?_
  unfold xc59 xr59 xn59
  simp -dsimp -implicitDefEqProofs only [go_sem, reduceIte, Nat.reduceEqDiff, Nat.reduceAdd, Nat.reduceSub, Nat.reduceLeDiff, Nat.reduceLT, Nat.reduceMul, Int.reduceToNat, Int.reduceLT, Int.reduceLE, Int.reduceEq, Int.reduceNeg, go_sem]
  refine zcall_any xf125 (indexFuncI_ok R hn p hF) ?_
  rintro v h' ⟨⟨z, rfl, _⟩, rfl⟩
  refine ⟨Nat.le_refl _, ?_⟩
  simp -dsimp -implicitDefEqProofs only [go_sem, reduceIte, Nat.reduceEqDiff, Nat.reduceAdd, Nat.reduceSub, Nat.reduceLeDiff, Nat.reduceLT, Nat.reduceMul, Int.reduceToNat, Int.reduceLT, Int.reduceLE, Int.reduceEq, Int.reduceNeg, go_sem]
  exact .all ⟨⟨_, rfl⟩, rfl⟩
theorem idx_place {ord : List Nat} (hnd : ord.Nodup) (q v : Nat) : ord[q]? = some v ↔ v ∈ ord ∧ ord.idxOf v = q := by
  constructor
  · intro h
    obtain ⟨hq, e⟩ := List.getElem?_eq_some_iff.1 h
    exact ⟨List.mem_of_getElem? h, by rw [← e]; exact hnd.idxOf_getElem q hq⟩
  · rintro ⟨hm, e⟩
    have := List.idxOf_lt_length_of_mem hm
    rw [← e, List.getElem?_eq_getElem this, List.getElem_idxOf]
def treeH (h : AHeap) (n : Nat) (lf pf : Nat → Int) (lp : AVal) (l : AHeap) : AHeap :=
  h ++ (some (.rows [[.lit (.int .i64 (-1))]]) :: some (.rows (icells n lf)) :: some (.rows [[.lit (.int .i64 (-1))]]) :: some (.rows (icells n pf)) ::
    some (.rows [[.slice (h.length + 1) 1 0 n (some n), .slice (h.length + 3) 1 0 n (some n), lp]]) :: some (.rows [[.ptr (h.length + 4) 0 0]]) :: l)
theorem rep_icells {n : Nat} {z : Int} : List.replicate n [AVal.lit (.int .i64 z)] = icells n fun _ => z := by
  apply List.ext_getElem (by simp [icells])
  intro i h1 h2
  simp [icells]
theorem treeH_app {h l l' : AHeap} {n : Nat} {lf pf : Nat → Int} {lp : AVal} : treeH h n lf pf lp l ++ l' = treeH h n lf pf lp (l ++ l') := by
  unfold treeH; simp
theorem treeH_on {h l : AHeap} {n : Nat} {ord : List Nat} {pl : Nat → Nat} {L : Nat → Option Nat} {lp : AVal} : TreeOn n ord pl L (.ptr (h.length + 4) 0 0) (treeH h n (fun v => enc (L v)) (plz ord pl) lp l) := by
  refine ⟨_, _, _, _, _, _, TreeAt.live (lv := .slice (h.length + 1) 1 0 n (some n)) (pv := .slice (h.length + 3) 1 0 n (some n)) (x := lp) ?_, IRow.live ?_, IRow.live ?_⟩
  · unfold treeH; rw [hget_append_new]; rfl
  · unfold treeH; rw [hget_append_new]; rfl
  · unfold treeH; rw [hget_append_new]; rfl
end Go.AL
