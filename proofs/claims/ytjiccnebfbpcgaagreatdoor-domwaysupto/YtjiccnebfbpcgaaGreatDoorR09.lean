/- Texts of numbers, and rows for whoever looks. -/
import Derived.Test.YtjiccnebfbpcgaaGreatDoorR08
set_option linter.unusedSimpArgs false
set_option linter.unusedVariables false
set_option linter.unusedSectionVars false
namespace Go.AL
open Go.Proofs
@[go_sem] theorem true_imp' (p : Prop) : (True → p) = p := by simp
structure Row (h : AHeap) (x : AVal) (esz : Nat) (es : List (List AVal)) (q : Nat → Nat → AVal) : Prop where
  form : x.lenForm = some .slice
  len : ∀ (K : AVal → Prop) u, ZLen x h K u = K (.lit (.int .i64 es.length))
  idx : ∀ (j : Nat), j < es.length → ∀ k (K : AVal → Prop) u, ZIdx x (.lit (.int k (j : Int))) esz K u = K (q j 0)
  fld : ∀ (j : Nat), j < es.length → ∀ o off (K : AVal → Prop) u, ZField (q j o) off K u = K (q j (o + off))
  rd : ∀ (j : Nat) e, es[j]? = some e → ∀ o n, o + n ≤ e.length → ∀ agg (K : AVal → Prop) u, ZLoad h (q j o) n agg K u = K (mkv agg n (e.drop o))
theorem Row.frozen {h : AHeap} {esz : Nat} {es : List (List AVal)} (hs : ∀ e ∈ es, e.length = esz) : Row h (.fslice es) esz es fun j o => .fptr (es.getD j []) o where
  form := rfl
  len K u := ZLen_fslice
  idx j hj k K u := by
    rw [ZIdx_fslice]
    have e : es[j]? = some es[j] := List.getElem?_eq_getElem hj
    simp only [Int.toNat_natCast, e, ZOpt_some, hs _ (List.getElem_mem hj), List.getD_eq_getElem?_getD, Option.getD_some]
    simp
  fld j hj o off K u := ZField_fptr
  rd j e he o n hn agg K u := by
    rw [ZLoad_fptr]
    simp only [List.getD_eq_getElem?_getD, he, Option.getD_some, hn, true_and]
theorem Row.live {h : AHeap} {a esz : Nat} {c : Option Nat} {es : List (List AVal)} (ha : hget h a = some (.rows es)) : Row h (.slice a esz 0 es.length c) esz es fun j o => .ptr a j o where
  form := rfl
  len K u := ZLen_slice
  idx j hj k K u := by rw [ZIdx_slice]; simp [hj]
  fld j hj o off K u := ZField_ptr
  rd j e he o n hn agg K u := by rw [ZLoad_ptr, ha]; simp only [ZOpt_some, ZRows_rows, he, hn, true_and]
def dig (n : Nat) : List UInt8 := if _h : n < 10 then [(48 + n).toUInt8] else dig (n / 10) ++ [(48 + n % 10).toUInt8]
termination_by n
theorem dig_len : ∀ (k n : Nat), n < 10 ^ (k + 1) → (dig n).length ≤ k + 1 := by
  intro k
  induction k with
  | zero => intro n hn; unfold dig; rw [dif_pos (by simpa using hn)]; simp
  | succ k ih =>
    intro n hn
    unfold dig
    split
    · simp
    · rw [List.length_append]
      have := ih (n / 10) (by rw [Nat.div_lt_iff_lt_mul (by omega)]; rwa [Nat.pow_succ] at hn)
      simp; omega
theorem dig_len64 {n : Nat} (hn : n < 18446744073709551616) : (dig n).length ≤ 20 := dig_len 19 n (by omega)
def U (z : Int) : Nat := (IntKind.u64.wrap z).toNat
theorem U_wrap (z : Int) : IntKind.u64.wrap z = (U z : Int) := by
  unfold U
  have : 0 ≤ IntKind.u64.wrap z := by
    unfold IntKind.wrap
    have e2 : IntKind.u64.signed = false := rfl
    simp only [e2, Bool.false_and]
    have e : IntKind.u64.bits = 64 := rfl
    rw [e]; simp; omega
  omega
theorem U_lt (z : Int) : U z < 18446744073709551616 := by
  unfold U IntKind.wrap
  have e2 : IntKind.u64.signed = false := rfl
  have e : IntKind.u64.bits = 64 := rfl
  simp only [e2, e, Bool.false_and]
  simp; omega
theorem ten_chars {r : Nat} (hr : r < 10) : ((48 : UInt8) :: ([49, 50, 51, 52, 53, 54, 55, 56, 57] : List UInt8).take r).drop r = [(48 + r).toUInt8] := by
  match r, hr with
  | 0, _ => rfl
  | 1, _ => rfl
  | 2, _ => rfl
  | 3, _ => rfl
  | 4, _ => rfl
  | 5, _ => rfl
  | 6, _ => rfl
  | 7, _ => rfl
  | 8, _ => rfl
  | 9, _ => rfl
theorem digits_ok {n : Nat} (hn : n < 18446744073709551616) (h : AHeap) : ACall Tryz.prog 140 [.lit (.int .u64 n)] h fun r h' => r = .str (dig n) ∧ h' = h := by
  refine acall_z mixed xf140 rfl ?_
  unfold xc140 xr140 xn140
  simp -dsimp -implicitDefEqProofs only [go_sem, reduceIte, Nat.reduceEqDiff, Nat.reduceAdd, Nat.reduceSub, Nat.reduceLeDiff, Nat.reduceLT, Nat.reduceMul, Int.reduceToNat, Int.reduceLT, Int.reduceLE, Int.reduceEq, Int.reduceNeg, go_sem]
  refine zw_loopD (fun k t h2 => ∃ (m : Nat) (out : List UInt8), h2 = h ∧ m ≤ n ∧ k = m ∧ dig n = dig m ++ out ∧ t.get 0 = .lit (.int .u64 m) ∧ t.get 3 = .str out) n ⟨n, [], rfl, Nat.le_refl _, rfl, by simp, by simp -dsimp -implicitDefEqProofs only [go_sem, reduceIte, Nat.reduceEqDiff, Nat.reduceAdd, Nat.reduceSub, Nat.reduceLeDiff, Nat.reduceLT, Nat.reduceMul, Int.reduceToNat, Int.reduceLT, Int.reduceLE, Int.reduceEq, Int.reduceNeg, go_sem], by simp -dsimp -implicitDefEqProofs only [go_sem, reduceIte, Nat.reduceEqDiff, Nat.reduceAdd, Nat.reduceSub, Nat.reduceLeDiff, Nat.reduceLT, Nat.reduceMul, Int.reduceToNat, Int.reduceLT, Int.reduceLE, Int.reduceEq, Int.reduceNeg, go_sem]⟩ ?_
  rintro k t h2 ⟨m, out, rfl, hm, rfl, hd, t0, t3⟩
  have e1 : (k : Int).tmod 10 = ((k % 10 : Nat) : Int) := by rw [Int.tmod_eq_emod_of_nonneg (by omega)]; omega
  have e2 : IntKind.u64.wrap (((k % 10 : Nat) : Int) + 1) = ((k % 10 + 1 : Nat) : Int) := by rw [wrapU (by omega) (by omega)]; omega
  have e3 : IntKind.u64.wrap ((k : Int).tdiv 10) = ((k / 10 : Nat) : Int) := by rw [Int.tdiv_eq_ediv_of_nonneg (by omega), wrapU (by omega) (by omega)]; omega
  have hr : k % 10 < 10 := by omega
  have e5 := ten_chars hr
  have hl := dig_len64 hn
  rw [hd, List.length_append] at hl
  simp -dsimp -implicitDefEqProofs only [go_sem, reduceIte, Nat.reduceEqDiff, Nat.reduceAdd, Nat.reduceSub, Nat.reduceLeDiff, Nat.reduceLT, Nat.reduceMul, Int.reduceToNat, Int.reduceLT, Int.reduceLE, Int.reduceEq, Int.reduceNeg, go_sem, t0, t3, e1, e2, e3, e5]
  refine ⟨by decide, by decide, by omega, by omega, by decide, ?_⟩
  by_cases hz : ((k / 10 : Nat) : Int) = 0
  · simp -dsimp -implicitDefEqProofs only [go_sem, reduceIte, Nat.reduceEqDiff, Nat.reduceAdd, Nat.reduceSub, Nat.reduceLeDiff, Nat.reduceLT, Nat.reduceMul, Int.reduceToNat, Int.reduceLT, Int.reduceLE, Int.reduceEq, Int.reduceNeg, hz, decide_true]
    refine .all ⟨?_, rfl⟩
    have hk : dig k = [(48 + k % 10).toUInt8] := by unfold dig; rw [dif_pos (by omega), Nat.mod_eq_of_lt (by omega)]
    rw [hd, hk]; rfl
  · simp -dsimp -implicitDefEqProofs only [go_sem, reduceIte, Nat.reduceEqDiff, Nat.reduceAdd, Nat.reduceSub, Nat.reduceLeDiff, Nat.reduceLT, Nat.reduceMul, Int.reduceToNat, Int.reduceLT, Int.reduceLE, Int.reduceEq, Int.reduceNeg, hz, decide_false]
    refine ⟨k / 10, by omega, k / 10, _, by omega, rfl, ?_, rfl, rfl⟩
    rw [hd]
    conv => lhs; unfold dig
    rw [dif_neg (by omega), List.append_assoc]
    rfl
theorem digitsU_ok (z : Int) (h : AHeap) : ACall Tryz.prog 140 [.lit (.int .u64 (IntKind.u64.wrap z))] h fun r h' => r = .str (dig (U z)) ∧ h' = h := by
  rw [U_wrap]; exact digits_ok (U_lt z) h
theorem digU_len (z : Int) : (dig (U z)).length ≤ 20 := dig_len64 (U_lt z)
def keyB (s : List UInt8) : List UInt8 := dig (U (s.length : Int)) ++ ([58] ++ s)
theorem keyB_len (s : List UInt8) : (keyB s).length ≤ s.length + 21 := by
  unfold keyB
  have := digU_len (s.length : Int)
  simp; omega
theorem key_ok {s : List UInt8} (hs : s.length ≤ 4611686018427387904) (h : AHeap) : ACall Tryz.prog 141 [.str s] h fun r h' => r = .str (keyB s) ∧ h' = h := by
  have hl := digU_len (s.length : Int)
  refine acall_z mixed xf141 rfl ?_
  unfold xc141 xr141 xn141
  simp -dsimp -implicitDefEqProofs only [go_sem, reduceIte, Nat.reduceEqDiff, Nat.reduceAdd, Nat.reduceSub, Nat.reduceLeDiff, Nat.reduceLT, Nat.reduceMul, Int.reduceToNat, Int.reduceLT, Int.reduceLE, Int.reduceEq, Int.reduceNeg, go_sem]
  refine zcall_eq xf140 (Nat.le_refl _) (digitsU_ok _ h) ?_
  simp -dsimp -implicitDefEqProofs only [go_sem, reduceIte, Nat.reduceEqDiff, Nat.reduceAdd, Nat.reduceSub, Nat.reduceLeDiff, Nat.reduceLT, Nat.reduceMul, Int.reduceToNat, Int.reduceLT, Int.reduceLE, Int.reduceEq, Int.reduceNeg, go_sem]
  refine ⟨by omega, by omega, .all ⟨?_, rfl⟩⟩
  unfold keyB; simp
theorem flag_ok (b : Bool) (h : AHeap) : ACall Tryz.prog 142 [.lit (.bool b)] h fun r h' => r = .str [if b then 49 else 48] ∧ h' = h := by
  refine acall_z mixed xf142 rfl ?_
  unfold xc142 xr142 xn142
  cases b with
  | true => simp -dsimp -implicitDefEqProofs only [go_sem, reduceIte, Nat.reduceEqDiff, Nat.reduceAdd, Nat.reduceSub, Nat.reduceLeDiff, Nat.reduceLT, Nat.reduceMul, Int.reduceToNat, Int.reduceLT, Int.reduceLE, Int.reduceEq, Int.reduceNeg, go_sem]; exact .all ⟨rfl, rfl⟩
  | false => simp -dsimp -implicitDefEqProofs only [go_sem, reduceIte, Nat.reduceEqDiff, Nat.reduceAdd, Nat.reduceSub, Nat.reduceLeDiff, Nat.reduceLT, Nat.reduceMul, Int.reduceToNat, Int.reduceLT, Int.reduceLE, Int.reduceEq, Int.reduceNeg, go_sem]; exact .all ⟨rfl, rfl⟩
def numB (z : Int) : List UInt8 := if z < 0 then 45 :: dig (U (IntKind.u64.wrap (IntKind.i64.wrap (0 - IntKind.i64.wrap (z + 1))) + 1)) else dig (U z)
theorem numB_len (z : Int) : (numB z).length ≤ 21 := by
  unfold numB
  split
  · have := digU_len (IntKind.u64.wrap (IntKind.i64.wrap (0 - IntKind.i64.wrap (z + 1))) + 1); rw [List.length_cons]; omega
  · have := digU_len z; omega
theorem number_ok (z : Int) (h : AHeap) : ACall Tryz.prog 113 [.lit (.int .i64 z)] h fun r h' => r = .str (numB z) ∧ h' = h := by
  refine acall_z mixed xf113 rfl ?_
  unfold xc113 xr113 xn113
  simp -dsimp -implicitDefEqProofs only [go_sem, reduceIte, Nat.reduceEqDiff, Nat.reduceAdd, Nat.reduceSub, Nat.reduceLeDiff, Nat.reduceLT, Nat.reduceMul, Int.reduceToNat, Int.reduceLT, Int.reduceLE, Int.reduceEq, Int.reduceNeg, go_sem]
  by_cases hz : z < 0
  · simp -dsimp -implicitDefEqProofs only [go_sem, reduceIte, Nat.reduceEqDiff, Nat.reduceAdd, Nat.reduceSub, Nat.reduceLeDiff, Nat.reduceLT, Nat.reduceMul, Int.reduceToNat, Int.reduceLT, Int.reduceLE, Int.reduceEq, Int.reduceNeg, hz, decide_true]
    refine zcall_eq xf140 (Nat.le_refl _) (digitsU_ok _ h) ?_
    have := digU_len (IntKind.u64.wrap (IntKind.i64.wrap (0 - IntKind.i64.wrap (z + 1))) + 1)
    simp -dsimp -implicitDefEqProofs only [go_sem, reduceIte, Nat.reduceEqDiff, Nat.reduceAdd, Nat.reduceSub, Nat.reduceLeDiff, Nat.reduceLT, Nat.reduceMul, Int.reduceToNat, Int.reduceLT, Int.reduceLE, Int.reduceEq, Int.reduceNeg, go_sem]
    refine ⟨by omega, .all ⟨?_, rfl⟩⟩
    unfold numB; rw [if_pos hz]
  · simp -dsimp -implicitDefEqProofs only [go_sem, reduceIte, Nat.reduceEqDiff, Nat.reduceAdd, Nat.reduceSub, Nat.reduceLeDiff, Nat.reduceLT, Nat.reduceMul, Int.reduceToNat, Int.reduceLT, Int.reduceLE, Int.reduceEq, Int.reduceNeg, hz, decide_false]
    refine zcall_eq xf140 (Nat.le_refl _) (digitsU_ok _ h) ?_
    simp -dsimp -implicitDefEqProofs only [go_sem, reduceIte, Nat.reduceEqDiff, Nat.reduceAdd, Nat.reduceSub, Nat.reduceLeDiff, Nat.reduceLT, Nat.reduceMul, Int.reduceToNat, Int.reduceLT, Int.reduceLE, Int.reduceEq, Int.reduceNeg, go_sem]
    refine .all ⟨?_, rfl⟩
    unfold numB; rw [if_neg hz]
end Go.AL
namespace Go.AL
open Go.Proofs
theorem flat_step {α : Type} {l : List α} {f : α → List UInt8} {j : Nat} (hj : j < l.length) : ((l.take (j + 1)).map f).flatten = ((l.take j).map f).flatten ++ f (l[j]'hj) := by
  rw [List.take_add_one, List.getElem?_eq_getElem hj]; simp only [Option.toList_some, List.map_append, List.map_cons, List.map_nil, List.flatten_append, List.flatten_cons, List.flatten_nil, List.append_nil]
theorem flat_le {α : Type} {f : α → List UInt8} : ∀ (l : List α) (j : Nat), ((l.take j).map f).flatten.length ≤ (l.map f).flatten.length
  | [], j => by simp
  | x :: l, 0 => by simp
  | x :: l, j + 1 => by
    have := flat_le (f := f) l j
    simp only [List.take_succ_cons, List.map_cons, List.flatten_cons, List.length_append]; omega
theorem flat_one {α : Type} {f : α → List UInt8} {l : List α} {j : Nat} (hj : j < l.length) : ((l.take j).map f).flatten.length + (f (l[j]'hj)).length ≤ (l.map f).flatten.length := by
  have := flat_le (f := f) l (j + 1)
  rw [flat_step hj, List.length_append] at this; exact this
theorem keyB_ge (s : List UInt8) : s.length ≤ (keyB s).length := by unfold keyB; simp; omega
def keysB (l : List (List UInt8)) : List UInt8 := dig (U (l.length : Int)) ++ ([91] ++ (l.map keyB).flatten)
def placeB (p : List UInt8 × List (List UInt8)) : List UInt8 := keyB p.1 ++ keysB p.2
def placesB (l : List (List UInt8 × List (List UInt8))) : List UInt8 := dig (U (l.length : Int)) ++ ([40] ++ (l.map placeB).flatten)
def varB (v : List UInt8 × List UInt8) : List UInt8 := keyB v.1 ++ keyB v.2
def varsB (l : List (List UInt8 × List UInt8)) : List UInt8 := dig (U (l.length : Int)) ++ ([123] ++ (l.map varB).flatten)
def placesV (l : List (List UInt8 × List (List UInt8))) : List (List AVal) := l.map fun p => [.str p.1, .fslice (strs p.2)]
def varsV (l : List (List UInt8 × List UInt8)) : List (List AVal) := l.map fun v => [.str v.1, .str v.2]
theorem strs_len {l : List (List UInt8)} : (strs l).length = l.length := by simp [strs]
theorem placesV_len {l : List (List UInt8 × List (List UInt8))} : (placesV l).length = l.length := by simp [placesV]
theorem varsV_len {l : List (List UInt8 × List UInt8)} : (varsV l).length = l.length := by simp [varsV]
theorem strs_one {l : List (List UInt8)} : ∀ e ∈ strs l, e.length = 1 := by intro e he; obtain ⟨k, _, rfl⟩ := List.mem_map.1 he; rfl
theorem placesV_two {l : List (List UInt8 × List (List UInt8))} : ∀ e ∈ placesV l, e.length = 2 := by intro e he; obtain ⟨k, _, rfl⟩ := List.mem_map.1 he; rfl
theorem varsV_two {l : List (List UInt8 × List UInt8)} : ∀ e ∈ varsV l, e.length = 2 := by intro e he; obtain ⟨k, _, rfl⟩ := List.mem_map.1 he; rfl
theorem keys_ok {l : List (List UInt8)} {x : AVal} {q : Nat → Nat → AVal} {h : AHeap} (R : Row h x 1 (strs l) q) (hn : l.length < 4294967296) (hB : (keysB l).length ≤ 4611686018427387904) :
    ACall Tryz.prog 145 [x] h fun r h' => r = .str (keysB l) ∧ h' = h := by
  have hd := digU_len (l.length : Int)
  have hB' : (dig (U (l.length : Int))).length + (1 + (l.map keyB).flatten.length) ≤ 4611686018427387904 := by unfold keysB at hB; rw [List.length_append, List.length_append] at hB; exact hB
  refine acall_z mixed xf145 rfl ?_
  unfold xc145 xr145 xn145
  simp -dsimp -implicitDefEqProofs only [go_sem, reduceIte, Nat.reduceEqDiff, Nat.reduceAdd, Nat.reduceSub, Nat.reduceLeDiff, Nat.reduceLT, Nat.reduceMul, Int.reduceToNat, Int.reduceLT, Int.reduceLE, Int.reduceEq, Int.reduceNeg, go_sem, R.form, R.len, strs_len]
  refine zcall_eq xf140 (Nat.le_refl _) (digitsU_ok _ h) ?_
  simp -dsimp -implicitDefEqProofs only [go_sem, reduceIte, Nat.reduceEqDiff, Nat.reduceAdd, Nat.reduceSub, Nat.reduceLeDiff, Nat.reduceLT, Nat.reduceMul, Int.reduceToNat, Int.reduceLT, Int.reduceLE, Int.reduceEq, Int.reduceNeg, go_sem]
  refine ⟨by omega, ?_⟩
  refine zw_loopD (fun k t h2 => ∃ j : Nat, j ≤ l.length ∧ k = l.length - j ∧ h2 = h ∧ t.get 0 = x ∧ t.get 4 = .lit (.int .i64 j) ∧ t.get 3 = .str (dig (U (l.length : Int)) ++ ([91] ++ ((l.take j).map keyB).flatten))) l.length
    ⟨0, Nat.zero_le _, rfl, rfl, by simp -dsimp -implicitDefEqProofs only [go_sem, reduceIte, Nat.reduceEqDiff, Nat.reduceAdd, Nat.reduceSub, Nat.reduceLeDiff, Nat.reduceLT, Nat.reduceMul, Int.reduceToNat, Int.reduceLT, Int.reduceLE, Int.reduceEq, Int.reduceNeg, go_sem], by simp -dsimp -implicitDefEqProofs only [go_sem, reduceIte, Nat.reduceEqDiff, Nat.reduceAdd, Nat.reduceSub, Nat.reduceLeDiff, Nat.reduceLT, Nat.reduceMul, Int.reduceToNat, Int.reduceLT, Int.reduceLE, Int.reduceEq, Int.reduceNeg, go_sem]; rfl, by simp -dsimp -implicitDefEqProofs only [go_sem, reduceIte, Nat.reduceEqDiff, Nat.reduceAdd, Nat.reduceSub, Nat.reduceLeDiff, Nat.reduceLT, Nat.reduceMul, Int.reduceToNat, Int.reduceLT, Int.reduceLE, Int.reduceEq, Int.reduceNeg, go_sem]; simp⟩ ?_
  rintro k t h2 ⟨j, hj, rfl, rfl, t0, t4, t3⟩
  simp -dsimp -implicitDefEqProofs only [go_sem, reduceIte, Nat.reduceEqDiff, Nat.reduceAdd, Nat.reduceSub, Nat.reduceLeDiff, Nat.reduceLT, Nat.reduceMul, Int.reduceToNat, Int.reduceLT, Int.reduceLE, Int.reduceEq, Int.reduceNeg, go_sem, t0, t4, R.form, R.len, strs_len]
  by_cases hl : (j : Int) < (l.length : Int)
  · have hl2 : j < l.length := by omega
    have e1 := R.idx j (by rw [strs_len]; exact hl2)
    have e2 := R.rd j [.str (l[j]'hl2)] (by simp [strs, hl2]) 0 1 (Nat.le_refl _)
    have hw : IntKind.i64.wrap ((j : Int) + 1) = (j : Int) + 1 := wrapI (by omega) (by omega)
    have hf := flat_one (f := keyB) hl2
    have hg := keyB_ge (l[j]'hl2)
    simp -dsimp -implicitDefEqProofs only [go_sem, reduceIte, Nat.reduceEqDiff, Nat.reduceAdd, Nat.reduceSub, Nat.reduceLeDiff, Nat.reduceLT, Nat.reduceMul, Int.reduceToNat, Int.reduceLT, Int.reduceLE, Int.reduceEq, Int.reduceNeg, go_sem, hl, decide_true, t0, t3, t4, e1, e2]
    refine zcall_eq xf141 (Nat.le_refl _) (key_ok (by omega) _) ?_
    simp -dsimp -implicitDefEqProofs only [go_sem, reduceIte, Nat.reduceEqDiff, Nat.reduceAdd, Nat.reduceSub, Nat.reduceLeDiff, Nat.reduceLT, Nat.reduceMul, Int.reduceToNat, Int.reduceLT, Int.reduceLE, Int.reduceEq, Int.reduceNeg, go_sem, t3, t4, hw]
    refine ⟨by omega, l.length - (j + 1), by omega, j + 1, by omega, rfl, t0, rfl, ?_⟩
    rw [flat_step hl2]
  · have hj2 : j = l.length := by omega
    subst hj2
    simp -dsimp -implicitDefEqProofs only [go_sem, reduceIte, Nat.reduceEqDiff, Nat.reduceAdd, Nat.reduceSub, Nat.reduceLeDiff, Nat.reduceLT, Nat.reduceMul, Int.reduceToNat, Int.reduceLT, Int.reduceLE, Int.reduceEq, Int.reduceNeg, hl, decide_false, t3]
    rw [List.take_length]
    exact .all ⟨rfl, rfl⟩
theorem placesB_parts {l : List (List UInt8 × List (List UInt8))} {j : Nat} (hj : j < l.length) : (keyB (l[j]'hj).1).length + (keysB (l[j]'hj).2).length + ((l.take j).map placeB).flatten.length ≤ (l.map placeB).flatten.length := by
  have := flat_one (f := placeB) hj
  unfold placeB at this ⊢
  rw [List.length_append] at this; omega
theorem placeKeys_ok {l : List (List UInt8 × List (List UInt8))} {x : AVal} {q : Nat → Nat → AVal} {h : AHeap} (R : Row h x 2 (placesV l) q) (hn : l.length < 4294967296) (hs : ∀ p ∈ l, p.2.length < 4294967296) (hB : (placesB l).length ≤ 4611686018427387904) :
    ACall Tryz.prog 144 [x] h fun r h' => r = .str (placesB l) ∧ h' = h := by
  have hd := digU_len (l.length : Int)
  have hB' : (dig (U (l.length : Int))).length + (1 + (l.map placeB).flatten.length) ≤ 4611686018427387904 := by unfold placesB at hB; rw [List.length_append, List.length_append] at hB; exact hB
  refine acall_z mixed xf144 rfl ?_
  unfold xc144 xr144 xn144
  simp -dsimp -implicitDefEqProofs only [go_sem, reduceIte, Nat.reduceEqDiff, Nat.reduceAdd, Nat.reduceSub, Nat.reduceLeDiff, Nat.reduceLT, Nat.reduceMul, Int.reduceToNat, Int.reduceLT, Int.reduceLE, Int.reduceEq, Int.reduceNeg, go_sem, R.form, R.len, placesV_len]
  refine zcall_eq xf140 (Nat.le_refl _) (digitsU_ok _ h) ?_
  simp -dsimp -implicitDefEqProofs only [go_sem, reduceIte, Nat.reduceEqDiff, Nat.reduceAdd, Nat.reduceSub, Nat.reduceLeDiff, Nat.reduceLT, Nat.reduceMul, Int.reduceToNat, Int.reduceLT, Int.reduceLE, Int.reduceEq, Int.reduceNeg, go_sem]
  refine ⟨by omega, ?_⟩
  refine zw_loopD (fun k t h2 => ∃ j : Nat, j ≤ l.length ∧ k = l.length - j ∧ h2 = h ∧ t.get 0 = x ∧ t.get 4 = .lit (.int .i64 j) ∧ t.get 3 = .str (dig (U (l.length : Int)) ++ ([40] ++ ((l.take j).map placeB).flatten))) l.length
    ⟨0, Nat.zero_le _, rfl, rfl, by simp -dsimp -implicitDefEqProofs only [go_sem, reduceIte, Nat.reduceEqDiff, Nat.reduceAdd, Nat.reduceSub, Nat.reduceLeDiff, Nat.reduceLT, Nat.reduceMul, Int.reduceToNat, Int.reduceLT, Int.reduceLE, Int.reduceEq, Int.reduceNeg, go_sem], by simp -dsimp -implicitDefEqProofs only [go_sem, reduceIte, Nat.reduceEqDiff, Nat.reduceAdd, Nat.reduceSub, Nat.reduceLeDiff, Nat.reduceLT, Nat.reduceMul, Int.reduceToNat, Int.reduceLT, Int.reduceLE, Int.reduceEq, Int.reduceNeg, go_sem]; rfl, by simp -dsimp -implicitDefEqProofs only [go_sem, reduceIte, Nat.reduceEqDiff, Nat.reduceAdd, Nat.reduceSub, Nat.reduceLeDiff, Nat.reduceLT, Nat.reduceMul, Int.reduceToNat, Int.reduceLT, Int.reduceLE, Int.reduceEq, Int.reduceNeg, go_sem]; simp⟩ ?_
  rintro k t h2 ⟨j, hj, rfl, rfl, t0, t4, t3⟩
  simp -dsimp -implicitDefEqProofs only [go_sem, reduceIte, Nat.reduceEqDiff, Nat.reduceAdd, Nat.reduceSub, Nat.reduceLeDiff, Nat.reduceLT, Nat.reduceMul, Int.reduceToNat, Int.reduceLT, Int.reduceLE, Int.reduceEq, Int.reduceNeg, go_sem, t0, t4, R.form, R.len, placesV_len]
  by_cases hl : (j : Int) < (l.length : Int)
  · have hl2 : j < l.length := by omega
    have e1 := R.idx j (by rw [placesV_len]; exact hl2)
    have e0 := R.fld j (by rw [placesV_len]; exact hl2)
    have e2 := R.rd j [.str (l[j]'hl2).1, .fslice (strs (l[j]'hl2).2)] (by simp [placesV, hl2]) 0 1 (by simp)
    have e3 := R.rd j [.str (l[j]'hl2).1, .fslice (strs (l[j]'hl2).2)] (by simp [placesV, hl2]) 1 1 (by simp)
    have hw : IntKind.i64.wrap ((j : Int) + 1) = (j : Int) + 1 := wrapI (by omega) (by omega)
    have hf := placesB_parts hl2
    have hg := keyB_ge (l[j]'hl2).1
    simp -dsimp -implicitDefEqProofs only [go_sem, reduceIte, Nat.reduceEqDiff, Nat.reduceAdd, Nat.reduceSub, Nat.reduceLeDiff, Nat.reduceLT, Nat.reduceMul, Int.reduceToNat, Int.reduceLT, Int.reduceLE, Int.reduceEq, Int.reduceNeg, go_sem, hl, decide_true, t4]
    refine zw_draw0 rfl ?_
    simp -dsimp -implicitDefEqProofs only [go_sem, reduceIte, Nat.reduceEqDiff, Nat.reduceAdd, Nat.reduceSub, Nat.reduceLeDiff, Nat.reduceLT, Nat.reduceMul, Int.reduceToNat, Int.reduceLT, Int.reduceLE, Int.reduceEq, Int.reduceNeg, go_sem, t0, t3, t4, e0, e1, e2, e3]
    refine ⟨_, _, .inl ⟨(xfunc_ok xf141).1, key_ok (by omega) _⟩, ?_⟩
    simp -dsimp -implicitDefEqProofs only [go_sem, reduceIte, Nat.reduceEqDiff, Nat.reduceAdd, Nat.reduceSub, Nat.reduceLeDiff, Nat.reduceLT, Nat.reduceMul, Int.reduceToNat, Int.reduceLT, Int.reduceLE, Int.reduceEq, Int.reduceNeg, go_sem, t0, t3, t4, e0, e1, e2, e3]
    refine ⟨_, _, .inl ⟨(xfunc_ok xf145).1, keys_ok (Row.frozen strs_one) (hs _ (List.getElem_mem _)) (by omega)⟩, ?_⟩
    simp -dsimp -implicitDefEqProofs only [go_sem, reduceIte, Nat.reduceEqDiff, Nat.reduceAdd, Nat.reduceSub, Nat.reduceLeDiff, Nat.reduceLT, Nat.reduceMul, Int.reduceToNat, Int.reduceLT, Int.reduceLE, Int.reduceEq, Int.reduceNeg, go_sem, t0, t3, t4, e0, e1, e2, e3, hw]
    refine ⟨by omega, by omega, l.length - (j + 1), by omega, j + 1, by omega, rfl, rfl, ?_⟩
    rw [flat_step hl2]; rfl
  · have hj2 : j = l.length := by omega
    subst hj2
    simp -dsimp -implicitDefEqProofs only [go_sem, reduceIte, Nat.reduceEqDiff, Nat.reduceAdd, Nat.reduceSub, Nat.reduceLeDiff, Nat.reduceLT, Nat.reduceMul, Int.reduceToNat, Int.reduceLT, Int.reduceLE, Int.reduceEq, Int.reduceNeg, hl, decide_false, t3]
    rw [List.take_length]
    exact .all ⟨rfl, rfl⟩
theorem varsB_parts {l : List (List UInt8 × List UInt8)} {j : Nat} (hj : j < l.length) : (keyB (l[j]'hj).1).length + (keyB (l[j]'hj).2).length + ((l.take j).map varB).flatten.length ≤ (l.map varB).flatten.length := by
  have := flat_one (f := varB) hj
  unfold varB at this ⊢
  rw [List.length_append] at this; omega
theorem varKeys_ok {l : List (List UInt8 × List UInt8)} {x : AVal} {q : Nat → Nat → AVal} {h : AHeap} (R : Row h x 2 (varsV l) q) (hn : l.length < 4294967296) (hB : (varsB l).length ≤ 4611686018427387904) :
    ACall Tryz.prog 143 [x] h fun r h' => r = .str (varsB l) ∧ h' = h := by
  have hd := digU_len (l.length : Int)
  have hB' : (dig (U (l.length : Int))).length + (1 + (l.map varB).flatten.length) ≤ 4611686018427387904 := by unfold varsB at hB; rw [List.length_append, List.length_append] at hB; exact hB
  refine acall_z mixed xf143 rfl ?_
  unfold xc143 xr143 xn143
  simp -dsimp -implicitDefEqProofs only [go_sem, reduceIte, Nat.reduceEqDiff, Nat.reduceAdd, Nat.reduceSub, Nat.reduceLeDiff, Nat.reduceLT, Nat.reduceMul, Int.reduceToNat, Int.reduceLT, Int.reduceLE, Int.reduceEq, Int.reduceNeg, go_sem, R.form, R.len, varsV_len]
  refine zcall_eq xf140 (Nat.le_refl _) (digitsU_ok _ h) ?_
  simp -dsimp -implicitDefEqProofs only [go_sem, reduceIte, Nat.reduceEqDiff, Nat.reduceAdd, Nat.reduceSub, Nat.reduceLeDiff, Nat.reduceLT, Nat.reduceMul, Int.reduceToNat, Int.reduceLT, Int.reduceLE, Int.reduceEq, Int.reduceNeg, go_sem]
  refine ⟨by omega, ?_⟩
  refine zw_loopD (fun k t h2 => ∃ j : Nat, j ≤ l.length ∧ k = l.length - j ∧ h2 = h ∧ t.get 0 = x ∧ t.get 4 = .lit (.int .i64 j) ∧ t.get 3 = .str (dig (U (l.length : Int)) ++ ([123] ++ ((l.take j).map varB).flatten))) l.length
    ⟨0, Nat.zero_le _, rfl, rfl, by simp -dsimp -implicitDefEqProofs only [go_sem, reduceIte, Nat.reduceEqDiff, Nat.reduceAdd, Nat.reduceSub, Nat.reduceLeDiff, Nat.reduceLT, Nat.reduceMul, Int.reduceToNat, Int.reduceLT, Int.reduceLE, Int.reduceEq, Int.reduceNeg, go_sem], by simp -dsimp -implicitDefEqProofs only [go_sem, reduceIte, Nat.reduceEqDiff, Nat.reduceAdd, Nat.reduceSub, Nat.reduceLeDiff, Nat.reduceLT, Nat.reduceMul, Int.reduceToNat, Int.reduceLT, Int.reduceLE, Int.reduceEq, Int.reduceNeg, go_sem]; rfl, by simp -dsimp -implicitDefEqProofs only [go_sem, reduceIte, Nat.reduceEqDiff, Nat.reduceAdd, Nat.reduceSub, Nat.reduceLeDiff, Nat.reduceLT, Nat.reduceMul, Int.reduceToNat, Int.reduceLT, Int.reduceLE, Int.reduceEq, Int.reduceNeg, go_sem]; simp⟩ ?_
  rintro k t h2 ⟨j, hj, rfl, rfl, t0, t4, t3⟩
  simp -dsimp -implicitDefEqProofs only [go_sem, reduceIte, Nat.reduceEqDiff, Nat.reduceAdd, Nat.reduceSub, Nat.reduceLeDiff, Nat.reduceLT, Nat.reduceMul, Int.reduceToNat, Int.reduceLT, Int.reduceLE, Int.reduceEq, Int.reduceNeg, go_sem, t0, t4, R.form, R.len, varsV_len]
  by_cases hl : (j : Int) < (l.length : Int)
  · have hl2 : j < l.length := by omega
    have e1 := R.idx j (by rw [varsV_len]; exact hl2)
    have e0 := R.fld j (by rw [varsV_len]; exact hl2)
    have e2 := R.rd j [.str (l[j]'hl2).1, .str (l[j]'hl2).2] (by simp [varsV, hl2]) 0 1 (by simp)
    have e3 := R.rd j [.str (l[j]'hl2).1, .str (l[j]'hl2).2] (by simp [varsV, hl2]) 1 1 (by simp)
    have hw : IntKind.i64.wrap ((j : Int) + 1) = (j : Int) + 1 := wrapI (by omega) (by omega)
    have hf := varsB_parts hl2
    have hg := keyB_ge (l[j]'hl2).1
    have hg2 := keyB_ge (l[j]'hl2).2
    simp -dsimp -implicitDefEqProofs only [go_sem, reduceIte, Nat.reduceEqDiff, Nat.reduceAdd, Nat.reduceSub, Nat.reduceLeDiff, Nat.reduceLT, Nat.reduceMul, Int.reduceToNat, Int.reduceLT, Int.reduceLE, Int.reduceEq, Int.reduceNeg, go_sem, hl, decide_true, t4]
    refine zw_draw0 rfl ?_
    simp -dsimp -implicitDefEqProofs only [go_sem, reduceIte, Nat.reduceEqDiff, Nat.reduceAdd, Nat.reduceSub, Nat.reduceLeDiff, Nat.reduceLT, Nat.reduceMul, Int.reduceToNat, Int.reduceLT, Int.reduceLE, Int.reduceEq, Int.reduceNeg, go_sem, t0, t3, t4, e0, e1, e2, e3]
    refine ⟨_, _, .inl ⟨(xfunc_ok xf141).1, key_ok (by omega) _⟩, ?_⟩
    simp -dsimp -implicitDefEqProofs only [go_sem, reduceIte, Nat.reduceEqDiff, Nat.reduceAdd, Nat.reduceSub, Nat.reduceLeDiff, Nat.reduceLT, Nat.reduceMul, Int.reduceToNat, Int.reduceLT, Int.reduceLE, Int.reduceEq, Int.reduceNeg, go_sem, t0, t3, t4, e0, e1, e2, e3]
    refine ⟨_, _, .inl ⟨(xfunc_ok xf141).1, key_ok (by omega) _⟩, ?_⟩
    simp -dsimp -implicitDefEqProofs only [go_sem, reduceIte, Nat.reduceEqDiff, Nat.reduceAdd, Nat.reduceSub, Nat.reduceLeDiff, Nat.reduceLT, Nat.reduceMul, Int.reduceToNat, Int.reduceLT, Int.reduceLE, Int.reduceEq, Int.reduceNeg, go_sem, t0, t3, t4, e0, e1, e2, e3, hw]
    refine ⟨by omega, by omega, l.length - (j + 1), by omega, j + 1, by omega, rfl, rfl, ?_⟩
    rw [flat_step hl2]; rfl
  · have hj2 : j = l.length := by omega
    subst hj2
    simp -dsimp -implicitDefEqProofs only [go_sem, reduceIte, Nat.reduceEqDiff, Nat.reduceAdd, Nat.reduceSub, Nat.reduceLeDiff, Nat.reduceLT, Nat.reduceMul, Int.reduceToNat, Int.reduceLT, Int.reduceLE, Int.reduceEq, Int.reduceNeg, hl, decide_false, t3]
    rw [List.take_length]
    exact .all ⟨rfl, rfl⟩
end Go.AL
