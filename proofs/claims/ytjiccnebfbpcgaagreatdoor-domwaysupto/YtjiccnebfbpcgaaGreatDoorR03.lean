/- Rows of numbers, and the tree's readers. -/
import Derived.Test.YtjiccnebfbpcgaaGreatDoorR02
set_option linter.unusedSimpArgs false
set_option linter.unusedVariables false
set_option linter.unusedSectionVars false
namespace Go.AL
open Go.Proofs
structure IRow (h : AHeap) (x : AVal) (n : Nat) (f : Nat → Int) (pt : Nat → AVal) : Prop where
  form : x.lenForm = some .slice
  len : ∀ (K : AVal → Prop) u, ZLen x h K u = K (.lit (.int .i64 n))
  idx : ∀ (j : Nat), j < n → ∀ k (K : AVal → Prop) u, ZIdx x (.lit (.int k (j : Int))) 1 K u = K (pt j)
  rd : ∀ (j : Nat), j < n → ∀ (K : AVal → Prop) u, ZLoad h (pt j) 1 false K u = K (.lit (.int .i64 (f j)))
def icells (n : Nat) (f : Nat → Int) : List (List AVal) := (List.range n).map fun i => [.lit (.int .i64 (f i))]
theorem icells_get {n j : Nat} {f : Nat → Int} (hj : j < n) : (icells n f)[j]? = some [.lit (.int .i64 (f j))] := by simp [icells, hj]
theorem icells_len {n : Nat} {f : Nat → Int} : (icells n f).length = n := by simp [icells]
theorem icells_one {n : Nat} {f : Nat → Int} : ∀ e ∈ icells n f, e.length = 1 := by
  intro e he
  obtain ⟨k, _, rfl⟩ := List.mem_map.1 he
  rfl
theorem icells_set {n j : Nat} {f : Nat → Int} {z : Int} : (icells n f).set j [.lit (.int .i64 z)] = icells n fun i => if i = j then z else f i := by
  apply List.ext_getElem (by simp [icells])
  intro i h1 h2
  rw [List.getElem_set]
  simp only [icells, List.getElem_map, List.getElem_range]
  by_cases e : j = i
  · subst e; simp
  · rw [if_neg e, if_neg (fun e' => e e'.symm)]
theorem ints_icells (l : List Nat) : ints l = icells l.length fun i => ((l.getD i 0 : Nat) : Int) := by
  apply List.ext_getElem (by simp [ints, icells])
  intro i h1 h2
  simp only [ints, List.length_map] at h1
  simp [ints, icells, h1]
theorem slV_ne {es : List (List AVal)} (h : es ≠ []) : slV es = .fslice es := by
  cases es with
  | nil => exact absurd rfl h
  | cons e es => rfl
theorem IRow.frozen {h : AHeap} {n : Nat} {f : Nat → Int} : IRow h (.fslice (icells n f)) n f (fun j => .fptr [.lit (.int .i64 (f j))] 0) where
  form := rfl
  len K u := by rw [ZLen_fslice, icells_len]
  idx j hj k K u := by rw [ZIdx_fslice]; simp only [Int.toNat_natCast, icells_get hj, ZOpt_some]; simp
  rd j hj K u := by rw [ZLoad_fptr]; simp [mkv_f]
theorem IRow.slV {h : AHeap} {n : Nat} {f : Nat → Int} : IRow h (slV (icells n f)) n f (fun j => .fptr [.lit (.int .i64 (f j))] 0) := by
  by_cases hn : n = 0
  · subst hn
    exact ⟨rfl, fun K u => ZLen_ns, fun j hj => by omega, fun j hj => by omega⟩
  · rw [slV_ne (fun e => hn (by have := congrArg List.length e; rw [icells_len] at this; simpa using this))]
    exact .frozen
theorem IRow.live {h : AHeap} {a n : Nat} {c : Option Nat} {f : Nat → Int} (ha : hget h a = some (.rows (icells n f))) : IRow h (.slice a 1 0 n c) n f (fun j => .ptr a j 0) where
  form := rfl
  len K u := ZLen_slice
  idx j hj k K u := by rw [ZIdx_slice]; simp [hj]
  rd j hj K u := by rw [ZLoad_ptr, ha]; simp only [ZOpt_some, ZRows_rows, icells_get hj]; simp [mkv_f]
structure TreeAt (h : AHeap) (tv q0 q1 lv pv : AVal) : Prop where
  nilc : ∀ A u, ZNilc tv A u = A
  f0 : ∀ (K : AVal → Prop) u, ZField tv 0 K u = K q0
  f1 : ∀ (K : AVal → Prop) u, ZField tv 1 K u = K q1
  l0 : ∀ (K : AVal → Prop) u, ZLoad h q0 1 false K u = K lv
  l1 : ∀ (K : AVal → Prop) u, ZLoad h q1 1 false K u = K pv
theorem TreeAt.live {h : AHeap} {G : Nat} {lv pv x : AVal} (hg : hget h G = some (.rows [[lv, pv, x]])) : TreeAt h (.ptr G 0 0) (.ptr G 0 0) (.ptr G 0 1) lv pv where
  nilc A u := ZNilc_ptr
  f0 K u := ZField_ptr
  f1 K u := ZField_ptr
  l0 K u := by rw [ZLoad_ptr, hg]; simp [ZOpt_some, ZRows_rows, mkv_f]
  l1 K u := by rw [ZLoad_ptr, hg]; simp [ZOpt_some, ZRows_rows, mkv_f]
theorem TreeAt.frozen {h : AHeap} {lv pv x : AVal} : TreeAt h (.fptr [lv, pv, x] 0) (.fptr [lv, pv, x] 0) (.fptr [lv, pv, x] 1) lv pv where
  nilc A u := ZNilc_fptr
  f0 K u := ZField_fptr
  f1 K u := ZField_fptr
  l0 K u := by rw [ZLoad_fptr]; simp [mkv_f]
  l1 K u := by rw [ZLoad_fptr]; simp [mkv_f]
def enc : Option Nat → Int
  | none => -1
  | some k => k
theorem enc_eq {o : Option Nat} : enc o = -1 ↔ o = none := by
  cases o with
  | none => simp [enc]
  | some k => simp [enc]
theorem enc_inj {o o' : Option Nat} (h : enc o = enc o') : o = o' := by
  cases o <;> cases o' <;> simp [enc] at h ⊢ <;> omega
def plz (ord : List Nat) (pl : Nat → Nat) (v : Nat) : Int := if v ∈ ord then (pl v : Int) else -1
def TreeOn (n : Nat) (ord : List Nat) (pl : Nat → Nat) (L : Nat → Option Nat) (tv : AVal) (h : AHeap) : Prop :=
  ∃ q0 q1 lv pv ptl ptp, TreeAt h tv q0 q1 lv pv ∧ IRow h lv n (fun v => enc (L v)) ptl ∧ IRow h pv n (plz ord pl) ptp
section
variable {n : Nat} {ord : List Nat} {pl : Nat → Nat} {pr : Nat → List Nat} {dom : Nat → Nat → Prop} {q : Nat} {L : Nat → Option Nat} {tv : AVal} {h : AHeap}
theorem known_ok (T : TreeOn n ord pl L tv h) (b : Nat) (hb : b < n) :
    ACall Tryz.prog 123 [tv, .lit (.int .i64 b)] h fun r h' => r = .lit (.bool (decide (plz ord pl b = 0) || !decide (enc (L b) = -1))) ∧ h' = h := by
  obtain ⟨q0, q1, lv, pv, ptl, ptp, T, RL, RP⟩ := T
  refine acall_z mixed xf123 rfl ?_
  unfold xc123 xr123 xn123
  have e1 := RL.idx b hb
  have e2 := RL.rd b hb
  have e3 := RP.idx b hb
  have e4 := RP.rd b hb
  simp -dsimp -implicitDefEqProofs only [go_sem, reduceIte, Nat.reduceEqDiff, Nat.reduceAdd, Nat.reduceSub, Nat.reduceLeDiff, Nat.reduceLT, Nat.reduceMul, Int.reduceToNat, Int.reduceLT, Int.reduceLE, Int.reduceEq, Int.reduceNeg, go_sem, T.nilc, T.f0, T.f1, T.l0, T.l1, e1, e2, e3, e4]
  by_cases hz : plz ord pl b = 0
  · simp -dsimp -implicitDefEqProofs only [go_sem, reduceIte, Nat.reduceEqDiff, Nat.reduceAdd, Nat.reduceSub, Nat.reduceLeDiff, Nat.reduceLT, Nat.reduceMul, Int.reduceToNat, Int.reduceLT, Int.reduceLE, Int.reduceEq, Int.reduceNeg, hz, decide_true]
    exact .all ⟨by simp, rfl⟩
  · simp -dsimp -implicitDefEqProofs only [go_sem, reduceIte, Nat.reduceEqDiff, Nat.reduceAdd, Nat.reduceSub, Nat.reduceLeDiff, Nat.reduceLT, Nat.reduceMul, Int.reduceToNat, Int.reduceLT, Int.reduceLE, Int.reduceEq, Int.reduceNeg, hz, decide_false, T.nilc, T.f0, T.f1, T.l0, T.l1, e1, e2, e3, e4]
    exact .all ⟨by simp, rfl⟩
theorem common_ok (g : Ahead ord pl pr dom) (hi : LdInv ord pl pr dom q L) (hn : ∀ v ∈ ord, v < n) (T : TreeOn n ord pl L tv h) {a b c : Nat} (ha : Kn L a) (hb : Kn L b) (hc : ∀ x, Anc L c x ↔ Anc L a x ∧ Anc L b x) :
    ACall Tryz.prog 124 [tv, .lit (.int .i64 a), .lit (.int .i64 b)] h fun r h' => r = .lit (.int .i64 c) ∧ h' = h := by
  obtain ⟨q0, q1, lv, pv, ptl, ptp, T, RL, RP⟩ := T
  refine acall_z mixed xf124 rfl ?_
  unfold xc124 xr124 xn124
  simp -dsimp -implicitDefEqProofs only [go_sem, reduceIte, Nat.reduceEqDiff, Nat.reduceAdd, Nat.reduceSub, Nat.reduceLeDiff, Nat.reduceLT, Nat.reduceMul, Int.reduceToNat, Int.reduceLT, Int.reduceLE, Int.reduceEq, Int.reduceNeg, go_sem]
  refine zw_loopD (fun k t h2 => h2 = h ∧ t.get 0 = tv ∧ ∃ a' b' : Nat, t.get 1 = .lit (.int .i64 a') ∧ t.get 2 = .lit (.int .i64 b') ∧ k = pl a' + pl b' ∧ Kn L a' ∧ Kn L b' ∧ ∀ x, Anc L c x ↔ Anc L a' x ∧ Anc L b' x) (pl a + pl b)
    ⟨rfl, rfl, a, b, rfl, rfl, rfl, ha, hb, hc⟩ ?_
  rintro k t h2 ⟨rfl, t0, a', b', t1, t2, rfl, ka, kb, hx⟩
  simp -dsimp -implicitDefEqProofs only [go_sem, reduceIte, Nat.reduceEqDiff, Nat.reduceAdd, Nat.reduceSub, Nat.reduceLeDiff, Nat.reduceLT, Nat.reduceMul, Int.reduceToNat, Int.reduceLT, Int.reduceLE, Int.reduceEq, Int.reduceNeg, go_sem, t0, t1, t2]
  by_cases e : (a' : Int) = (b' : Int)
  · have e' : a' = b' := by omega
    subst e'
    simp -dsimp -implicitDefEqProofs only [go_sem, reduceIte, Nat.reduceEqDiff, Nat.reduceAdd, Nat.reduceSub, Nat.reduceLeDiff, Nat.reduceLT, Nat.reduceMul, Int.reduceToNat, Int.reduceLT, Int.reduceLE, Int.reduceEq, Int.reduceNeg, decide_true, t0, t1, t2]
    have ec : c = a' := same_anc hi.down fun x => by rw [hx x, and_self]
    exact .all ⟨by rw [ec], rfl⟩
  · have oa := hi.kin g ka
    have ob := hi.kin g kb
    have na := hn _ oa
    have nb := hn _ ob
    have p1 := RP.idx a' na
    have p2 : ∀ (K : AVal → Prop) u, ZLoad h2 (ptp a') 1 false K u = K (.lit (.int .i64 (pl a'))) := fun K u => by rw [RP.rd a' na]; unfold plz; rw [if_pos oa]
    have p3 := RP.idx b' nb
    have p4 : ∀ (K : AVal → Prop) u, ZLoad h2 (ptp b') 1 false K u = K (.lit (.int .i64 (pl b'))) := fun K u => by rw [RP.rd b' nb]; unfold plz; rw [if_pos ob]
    have p5 := RL.idx a' na
    have p6 := RL.idx b' nb
    simp -dsimp -implicitDefEqProofs only [go_sem, reduceIte, Nat.reduceEqDiff, Nat.reduceAdd, Nat.reduceSub, Nat.reduceLeDiff, Nat.reduceLT, Nat.reduceMul, Int.reduceToNat, Int.reduceLT, Int.reduceLE, Int.reduceEq, Int.reduceNeg, e, decide_false, t0, t1, t2, T.nilc, T.f0, T.f1, T.l0, T.l1, p1, p2, p3, p4]
    by_cases hlt : (pl b' : Int) < (pl a' : Int)
    · obtain ⟨l, el, kl, hl⟩ := hi.lord g ka (by omega)
      have p7 : ∀ (K : AVal → Prop) u, ZLoad h2 (ptl a') 1 false K u = K (.lit (.int .i64 l)) := fun K u => by rw [RL.rd a' na, el]; rfl
      simp -dsimp -implicitDefEqProofs only [go_sem, reduceIte, Nat.reduceEqDiff, Nat.reduceAdd, Nat.reduceSub, Nat.reduceLeDiff, Nat.reduceLT, Nat.reduceMul, Int.reduceToNat, Int.reduceLT, Int.reduceLE, Int.reduceEq, Int.reduceNeg, hlt, decide_true, t0, t1, t2, T.nilc, T.f0, T.f1, T.l0, T.l1, p5, p7]
      exact ⟨pl l + pl b', by omega, l, b', rfl, rfl, rfl, kl, kb, fun x => by rw [hx x, common_step hi.down (by omega) el]⟩
    · have hne : pl a' ≠ pl b' := fun e' => e (by rw [g.inj oa ob e'])
      obtain ⟨l, el, kl, hl⟩ := hi.lord g kb (by omega)
      have p7 : ∀ (K : AVal → Prop) u, ZLoad h2 (ptl b') 1 false K u = K (.lit (.int .i64 l)) := fun K u => by rw [RL.rd b' nb, el]; rfl
      simp -dsimp -implicitDefEqProofs only [go_sem, reduceIte, Nat.reduceEqDiff, Nat.reduceAdd, Nat.reduceSub, Nat.reduceLeDiff, Nat.reduceLT, Nat.reduceMul, Int.reduceToNat, Int.reduceLT, Int.reduceLE, Int.reduceEq, Int.reduceNeg, hlt, decide_false, t0, t1, t2, T.nilc, T.f0, T.f1, T.l0, T.l1, p6, p7]
      exact ⟨pl a' + pl l, by omega, a', l, rfl, rfl, rfl, ka, kl, fun x => by rw [hx x, and_comm, common_step hi.down (by omega) el, and_comm]⟩
theorem known_iff (g : Ahead ord pl pr dom) {b : Nat} : (decide (plz ord pl b = 0) || !decide (enc (L b) = -1)) = true ↔ Kn L b := by
  unfold Kn plz
  simp only [Bool.or_eq_true, decide_eq_true_eq, Bool.not_eq_true', decide_eq_false_iff_not, enc_eq]
  constructor
  · rintro (h1 | h1)
    · split at h1
      · rename_i hm; exact .inl (g.zero hm (by omega))
      · omega
    · exact .inr h1
  · rintro (rfl | h1)
    · rw [if_pos g.root.1, g.root.2]; exact .inl rfl
    · exact .inr h1
theorem meet_ok (g : Ahead ord pl pr dom) (hi : LdInv ord pl pr dom q L) (hn : ∀ v ∈ ord, v < n) (T : TreeOn n ord pl L tv h) {l : List Nat} (hl : ∀ p ∈ l, p < n) (hlen : l.length < 4294967296) {o : Option Nat} (ho : IsMeet L l o) :
    ACall Tryz.prog 58 [tv, slV (ints l)] h fun r h' => r = .lit (.int .i64 (enc o)) ∧ h' = h := by
  have R : IRow h (slV (ints l)) l.length (fun i => ((l.getD i 0 : Nat) : Int)) (fun j => .fptr [.lit (.int .i64 ((l.getD j 0 : Nat) : Int))] 0) := by rw [ints_icells]; exact .slV
  refine acall_z mixed xf58 rfl ?_
  unfold xc58 xr58 xn58
  simp -dsimp -implicitDefEqProofs only [go_sem, reduceIte, Nat.reduceEqDiff, Nat.reduceAdd, Nat.reduceSub, Nat.reduceLeDiff, Nat.reduceLT, Nat.reduceMul, Int.reduceToNat, Int.reduceLT, Int.reduceLE, Int.reduceEq, Int.reduceNeg, go_sem, R.form, R.len]
  refine zw_loopD (fun k t h2 => ∃ j : Nat, j ≤ l.length ∧ k = l.length - j ∧ h2 = h ∧ t.get 0 = tv ∧ t.get 8 = slV (ints l) ∧ t.get 9 = .lit (.int .i64 l.length) ∧ t.get 10 = .lit (.int .i64 j) ∧ ∃ o', t.get 5 = .lit (.int .i64 (enc o')) ∧ IsMeet L (l.take j) o') l.length
    ⟨0, by omega, by omega, rfl, rfl, rfl, rfl, rfl, none, rfl, by rw [List.take_zero]; exact .nil⟩ ?_
  rintro k t h2 ⟨j, hj, rfl, rfl, t0, t8, t9, t10, o', t5, hm⟩
  simp -dsimp -implicitDefEqProofs only [go_sem, reduceIte, Nat.reduceEqDiff, Nat.reduceAdd, Nat.reduceSub, Nat.reduceLeDiff, Nat.reduceLT, Nat.reduceMul, Int.reduceToNat, Int.reduceLT, Int.reduceLE, Int.reduceEq, Int.reduceNeg, go_sem, t0, t8, t9, t10]
  by_cases hlt : (j : Int) < (l.length : Int)
  · have hl2 : j < l.length := by omega
    have hw : IntKind.i64.wrap ((j : Int) + 1) = (j : Int) + 1 := wrap64_small (by omega) (by omega)
    have hp := hl _ (List.getElem_mem hl2)
    have et : l.take (j + 1) = l.take j ++ [l[j]'hl2] := by rw [List.take_add_one, List.getElem?_eq_getElem hl2]; rfl
    have r1 := R.idx j hl2
    have r2 : ∀ (K : AVal → Prop) u, ZLoad h2 (AVal.fptr [.lit (.int .i64 ((l.getD j 0 : Nat) : Int))] 0) 1 false K u = K (.lit (.int .i64 (l[j]'hl2 : Nat))) := fun K u => by rw [R.rd j hl2]; simp [hl2]
    simp -dsimp -implicitDefEqProofs only [go_sem, reduceIte, Nat.reduceEqDiff, Nat.reduceAdd, Nat.reduceSub, Nat.reduceLeDiff, Nat.reduceLT, Nat.reduceMul, Int.reduceToNat, Int.reduceLT, Int.reduceLE, Int.reduceEq, Int.reduceNeg, hlt, decide_true, t0, t5, t8, t9, t10, r1, r2]
    refine zcall_eq xf123 (Nat.le_refl _) (known_ok T _ hp) ?_
    simp -dsimp -implicitDefEqProofs only [go_sem, reduceIte, Nat.reduceEqDiff, Nat.reduceAdd, Nat.reduceSub, Nat.reduceLeDiff, Nat.reduceLT, Nat.reduceMul, Int.reduceToNat, Int.reduceLT, Int.reduceLE, Int.reduceEq, Int.reduceNeg, go_sem, t0, t5, t8, t9, t10]
    by_cases hk : Kn L (l[j]'hl2)
    · have e1 := (known_iff (L := L) g).2 hk
      simp -dsimp -implicitDefEqProofs only [go_sem, reduceIte, Nat.reduceEqDiff, Nat.reduceAdd, Nat.reduceSub, Nat.reduceLeDiff, Nat.reduceLT, Nat.reduceMul, Int.reduceToNat, Int.reduceLT, Int.reduceLE, Int.reduceEq, Int.reduceNeg, e1, t0, t5, t8, t9, t10]
      cases o' with
      | none =>
        simp -dsimp -implicitDefEqProofs only [go_sem, reduceIte, Nat.reduceEqDiff, Nat.reduceAdd, Nat.reduceSub, Nat.reduceLeDiff, Nat.reduceLT, Nat.reduceMul, Int.reduceToNat, Int.reduceLT, Int.reduceLE, Int.reduceEq, Int.reduceNeg, enc, decide_true, t0, t5, t8, t9, t10, hw]
        exact ⟨l.length - (j + 1), by omega, j + 1, by omega, rfl, rfl, some (l[j]'hl2), rfl, by rw [et]; exact hm.first hk⟩
      | some c =>
        have hc : ¬ ((c : Int) = -1) := by omega
        obtain ⟨c', k1, k2⟩ := common_ex g hi _ c (l[j]'hl2) (Nat.le_refl _) hm.kn hk
        simp -dsimp -implicitDefEqProofs only [go_sem, reduceIte, Nat.reduceEqDiff, Nat.reduceAdd, Nat.reduceSub, Nat.reduceLeDiff, Nat.reduceLT, Nat.reduceMul, Int.reduceToNat, Int.reduceLT, Int.reduceLE, Int.reduceEq, Int.reduceNeg, enc, hc, decide_false, t0, t5, t8, t9, t10]
        refine zcall_eq xf124 (Nat.le_refl _) (common_ok g hi hn T hm.kn hk k2) ?_
        simp -dsimp -implicitDefEqProofs only [go_sem, reduceIte, Nat.reduceEqDiff, Nat.reduceAdd, Nat.reduceSub, Nat.reduceLeDiff, Nat.reduceLT, Nat.reduceMul, Int.reduceToNat, Int.reduceLT, Int.reduceLE, Int.reduceEq, Int.reduceNeg, go_sem, t0, t5, t8, t9, t10, hw]
        exact ⟨l.length - (j + 1), by omega, j + 1, by omega, rfl, rfl, some c', rfl, by rw [et]; exact hm.more hk k1 k2⟩
    · have e1 : (decide (plz ord pl (l[j]'hl2) = 0) || !decide (enc (L (l[j]'hl2)) = -1)) = false := by
        cases e : (decide (plz ord pl (l[j]'hl2) = 0) || !decide (enc (L (l[j]'hl2)) = -1)) with
        | false => rfl
        | true => exact absurd ((known_iff g).1 e) hk
      simp -dsimp -implicitDefEqProofs only [go_sem, reduceIte, Nat.reduceEqDiff, Nat.reduceAdd, Nat.reduceSub, Nat.reduceLeDiff, Nat.reduceLT, Nat.reduceMul, Int.reduceToNat, Int.reduceLT, Int.reduceLE, Int.reduceEq, Int.reduceNeg, e1, t0, t5, t8, t9, t10, hw]
      exact ⟨l.length - (j + 1), by omega, j + 1, by omega, rfl, rfl, o', rfl, by rw [et]; exact hm.skip hk⟩
  · have hj2 : j = l.length := by omega
    subst hj2
    rw [List.take_length] at hm
    simp -dsimp -implicitDefEqProofs only [go_sem, reduceIte, Nat.reduceEqDiff, Nat.reduceAdd, Nat.reduceSub, Nat.reduceLeDiff, Nat.reduceLT, Nat.reduceMul, Int.reduceToNat, Int.reduceLT, Int.reduceLE, Int.reduceEq, Int.reduceNeg, hlt, decide_false, t0, t5, t8, t9, t10]
    exact .all ⟨by rw [IsMeet.unique hi.down hm ho], rfl⟩
theorem there_ok (hn : ∀ v ∈ ord, v < n) (T : TreeOn n ord pl L tv h) (b : Int) {p : Bool} (hp : p = true ↔ 0 ≤ b ∧ b.toNat ∈ ord) :
    ACall Tryz.prog 62 [tv, .lit (.int .i64 b)] h fun r h' => r = .lit (.bool p) ∧ h' = h := by
  obtain ⟨q0, q1, lv, pv, ptl, ptp, T, RL, RP⟩ := T
  refine acall_z mixed xf62 rfl ?_
  unfold xc62 xr62 xn62
  simp -dsimp -implicitDefEqProofs only [go_sem, reduceIte, Nat.reduceEqDiff, Nat.reduceAdd, Nat.reduceSub, Nat.reduceLeDiff, Nat.reduceLT, Nat.reduceMul, Int.reduceToNat, Int.reduceLT, Int.reduceLE, Int.reduceEq, Int.reduceNeg, go_sem, T.nilc, T.f0, T.f1, T.l0, T.l1, RP.form, RP.len]
  by_cases hb : 0 ≤ b
  · obtain ⟨k, rfl⟩ := Int.eq_ofNat_of_zero_le hb
    by_cases hl : (k : Int) < (n : Int)
    · have hk : k < n := by omega
      have e1 := RP.idx k hk
      have e2 := RP.rd k hk
      simp -dsimp -implicitDefEqProofs only [go_sem, reduceIte, Nat.reduceEqDiff, Nat.reduceAdd, Nat.reduceSub, Nat.reduceLeDiff, Nat.reduceLT, Nat.reduceMul, Int.reduceToNat, Int.reduceLT, Int.reduceLE, Int.reduceEq, Int.reduceNeg, go_sem, decide_true, hl, T.nilc, T.f0, T.f1, T.l0, T.l1, RP.form, RP.len, e1, e2]
      refine .all ⟨?_, rfl⟩
      congr 2
      rw [Bool.eq_iff_iff, hp]
      unfold plz
      by_cases hm : k ∈ ord
      · simp [hm]
      · simp [hm]
    · simp -dsimp -implicitDefEqProofs only [go_sem, reduceIte, Nat.reduceEqDiff, Nat.reduceAdd, Nat.reduceSub, Nat.reduceLeDiff, Nat.reduceLT, Nat.reduceMul, Int.reduceToNat, Int.reduceLT, Int.reduceLE, Int.reduceEq, Int.reduceNeg, go_sem, decide_true, hl, decide_false, T.nilc, T.f0, T.f1, T.l0, T.l1, RP.form, RP.len]
      refine .all ⟨?_, rfl⟩
      congr 2
      rw [Bool.eq_iff_iff, hp]
      simp only [Bool.false_eq_true, false_iff, Int.toNat_natCast, not_and]
      intro _ hm
      have := hn _ hm; omega
  · simp -dsimp -implicitDefEqProofs only [go_sem, reduceIte, Nat.reduceEqDiff, Nat.reduceAdd, Nat.reduceSub, Nat.reduceLeDiff, Nat.reduceLT, Nat.reduceMul, Int.reduceToNat, Int.reduceLT, Int.reduceLE, Int.reduceEq, Int.reduceNeg, hb, decide_false]
    refine .all ⟨?_, rfl⟩
    congr 2
    rw [Bool.eq_iff_iff, hp]
    simp [hb]
end
end Go.AL
namespace Go.AL
open Go.Proofs
section
variable {n : Nat} {ord : List Nat} {pl : Nat → Nat} {L : Nat → Option Nat} {tv : AVal} {h : AHeap}
theorem lords_ok (htv : acells tv = some [tv]) (b : Int) : ACall Tryz.prog 18 [tv, .lit (.int .i64 b)] h fun r h' => r = .func (.func 61) [] [.ptr h.length 0 0, .ptr (h.length + 1) 0 0] ∧ h' = h ++ [some (.rows [[tv]]), some (.rows [[.lit (.int .i64 b)]])] := by
  refine acall_z mixed xf18 rfl ?_
  unfold xc18 xr18 xn18
  simp -dsimp -implicitDefEqProofs only [go_sem, reduceIte, Nat.reduceEqDiff, Nat.reduceAdd, Nat.reduceSub, Nat.reduceLeDiff, Nat.reduceLT, Nat.reduceMul, Int.reduceToNat, Int.reduceLT, Int.reduceLE, Int.reduceEq, Int.reduceNeg, go_sem, htv]
  exact .all ⟨rfl, rfl⟩
theorem lords1_ok (hi : ∀ v l, L v = some l → v ∈ ord ∧ l ∈ ord ∧ pl l < pl v) (hn : ∀ v ∈ ord, v < n) {Y : AVal} {A B : Nat} (I J : Nat → AHeap → Prop) (D : AHeap → Prop)
    (hT : ∀ v h, v ∈ ord → I v h ∨ J v h → hget h A = some (.rows [[tv]]) ∧ hget h B = some (.rows [[.lit (.int .i64 v)]]) ∧ TreeOn n ord pl L tv h)
    (hy : ∀ (v : Nat) h, v ∈ ord → I v h → ∃ b h1, ACallV Tryz.prog Y [.lit (.int .i64 v)] h (fun r h' => r = .lit (.bool b) ∧ h' = h1) ∧ h.length ≤ h1.length ∧ (b = true → J v h1) ∧ (b = false → D h1))
    (hnone : ∀ v h, v ∈ ord → J v h → L v = none → D h) (hstep : ∀ v l h, v ∈ ord → J v h → L v = some l → I l (hset h B (.rows [[.lit (.int .i64 l)]])))
    (b : Int) (hA : hget h A = some (.rows [[tv]])) (hB : hget h B = some (.rows [[.lit (.int .i64 b)]])) (hT0 : TreeOn n ord pl L tv h) (hin : 0 ≤ b → b.toNat ∈ ord → I b.toNat h) (hout : ¬ (0 ≤ b ∧ b.toNat ∈ ord) → D h) :
    ACall Tryz.prog 61 [Y, .ptr A 0 0, .ptr B 0 0] h fun _ h' => h.length ≤ h'.length ∧ D h' := by
  refine acall_z mixed xf61 rfl ?_
  unfold xc61 xr61 xn61
  simp -dsimp -implicitDefEqProofs only [go_sem, reduceIte, Nat.reduceEqDiff, Nat.reduceAdd, Nat.reduceSub, Nat.reduceLeDiff, Nat.reduceLT, Nat.reduceMul, Int.reduceToNat, Int.reduceLT, Int.reduceLE, Int.reduceEq, Int.reduceNeg, go_sem]
  refine zw_loopD (fun k t h2 => t.get 0 = Y ∧ t.get 1 = .ptr A 0 0 ∧ t.get 2 = .ptr B 0 0 ∧ h.length ≤ h2.length ∧ ((∃ v, v ∈ ord ∧ I v h2 ∧ k = pl v + 1) ∨ (¬ (0 ≤ b ∧ b.toNat ∈ ord) ∧ h2 = h ∧ k = 0))) (if 0 ≤ b ∧ b.toNat ∈ ord then pl b.toNat + 1 else 0)
    ⟨rfl, rfl, rfl, Nat.le_refl _, ?_⟩ ?_
  · by_cases hb : 0 ≤ b ∧ b.toNat ∈ ord
    · rw [if_pos hb]; exact .inl ⟨_, hb.2, hin hb.1 hb.2, rfl⟩
    · rw [if_neg hb]; exact .inr ⟨hb, rfl, rfl⟩
  rintro k t h2 ⟨t0, t1, t2, hle, hc⟩
  simp -dsimp -implicitDefEqProofs only [go_sem, reduceIte, Nat.reduceEqDiff, Nat.reduceAdd, Nat.reduceSub, Nat.reduceLeDiff, Nat.reduceLT, Nat.reduceMul, Int.reduceToNat, Int.reduceLT, Int.reduceLE, Int.reduceEq, Int.reduceNeg, go_sem]
  refine zw_draw0 rfl ?_
  rcases hc with ⟨v, hv, hI, rfl⟩ | ⟨hb, rfl, rfl⟩
  · obtain ⟨a1, a2, a3⟩ := hT v h2 hv (.inl hI)
    have hvn := hn v hv
    simp -dsimp -implicitDefEqProofs only [go_sem, reduceIte, Nat.reduceEqDiff, Nat.reduceAdd, Nat.reduceSub, Nat.reduceLeDiff, Nat.reduceLT, Nat.reduceMul, Int.reduceToNat, Int.reduceLT, Int.reduceLE, Int.reduceEq, Int.reduceNeg, go_sem, t0, t1, t2, a1, a2]
    refine ⟨_, _, .inl ⟨(xfunc_ok xf62).1, there_ok hn a3 v (p := true) (by simp [hv])⟩, ?_⟩
    obtain ⟨q, h3, c1, c2, c3, c4⟩ := hy v h2 hv hI
    simp -dsimp -implicitDefEqProofs only [go_sem, reduceIte, Nat.reduceEqDiff, Nat.reduceAdd, Nat.reduceSub, Nat.reduceLeDiff, Nat.reduceLT, Nat.reduceMul, Int.reduceToNat, Int.reduceLT, Int.reduceLE, Int.reduceEq, Int.reduceNeg, go_sem, t0, t1, t2, a1, a2]
    refine ⟨_, _, c1, ?_⟩
    cases q with
    | true =>
      have hJ := c3 rfl
      obtain ⟨b1, b2, q0, q1, lv, pv, ptl, ptp, T, RL, RP⟩ := hT v h3 hv (.inr hJ)
      have e1 := RL.idx v hvn
      have e2 := RL.rd v hvn
      simp -dsimp -implicitDefEqProofs only [go_sem, reduceIte, Nat.reduceEqDiff, Nat.reduceAdd, Nat.reduceSub, Nat.reduceLeDiff, Nat.reduceLT, Nat.reduceMul, Int.reduceToNat, Int.reduceLT, Int.reduceLE, Int.reduceEq, Int.reduceNeg, go_sem, t0, t1, t2, b1, b2, c2, T.nilc, T.f0, T.l0, e1, e2]
      cases el : L v with
      | none =>
        simp -dsimp -implicitDefEqProofs only [go_sem, reduceIte, Nat.reduceEqDiff, Nat.reduceAdd, Nat.reduceSub, Nat.reduceLeDiff, Nat.reduceLT, Nat.reduceMul, Int.reduceToNat, Int.reduceLT, Int.reduceLE, Int.reduceEq, Int.reduceNeg, enc, decide_true, go_sem]
        exact .all ⟨by omega, hnone v h3 hv hJ el⟩
      | some l =>
        have hl : ¬ ((l : Int) = -1) := by omega
        simp -dsimp -implicitDefEqProofs only [go_sem, reduceIte, Nat.reduceEqDiff, Nat.reduceAdd, Nat.reduceSub, Nat.reduceLeDiff, Nat.reduceLT, Nat.reduceMul, Int.reduceToNat, Int.reduceLT, Int.reduceLE, Int.reduceEq, Int.reduceNeg, enc, hl, decide_false, go_sem, t0, t1, t2, b1, b2, T.nilc, T.f0, T.l0, e1, e2, el]
        have := hi v l el
        exact ⟨pl l + 1, by omega, by simp only [hset, List.length_set]; omega, .inl ⟨l, this.2.1, hstep v l h3 hv hJ el, rfl⟩⟩
    | false =>
      simp -dsimp -implicitDefEqProofs only [go_sem, reduceIte, Nat.reduceEqDiff, Nat.reduceAdd, Nat.reduceSub, Nat.reduceLeDiff, Nat.reduceLT, Nat.reduceMul, Int.reduceToNat, Int.reduceLT, Int.reduceLE, Int.reduceEq, Int.reduceNeg, go_sem, c2, t0, t1, t2]
      exact .all ⟨by omega, c4 rfl⟩
  · simp -dsimp -implicitDefEqProofs only [go_sem, reduceIte, Nat.reduceEqDiff, Nat.reduceAdd, Nat.reduceSub, Nat.reduceLeDiff, Nat.reduceLT, Nat.reduceMul, Int.reduceToNat, Int.reduceLT, Int.reduceLE, Int.reduceEq, Int.reduceNeg, go_sem, t0, t1, t2, hA, hB]
    refine ⟨_, _, .inl ⟨(xfunc_ok xf62).1, there_ok hn hT0 b (p := false) (by simp only [Bool.false_eq_true, false_iff]; exact hb)⟩, ?_⟩
    simp -dsimp -implicitDefEqProofs only [go_sem, reduceIte, Nat.reduceEqDiff, Nat.reduceAdd, Nat.reduceSub, Nat.reduceLeDiff, Nat.reduceLT, Nat.reduceMul, Int.reduceToNat, Int.reduceLT, Int.reduceLE, Int.reduceEq, Int.reduceNeg, go_sem, t0, t1, t2, hA, hB]
    exact .all ⟨hle, hout hb⟩
theorem lord_ok (hn : ∀ v ∈ ord, v < n) (T : TreeOn n ord pl L tv h) (b : Int) : ACall Tryz.prog 21 [tv, .lit (.int .i64 b)] h fun r h' => (r = .lit (.int .i64 (if 0 ≤ b ∧ b.toNat ∈ ord then enc (L b.toNat) else -1))) ∧ h' = h := by
  have T' := T
  obtain ⟨q0, q1, lv, pv, ptl, ptp, T, RL, RP⟩ := T
  refine acall_z mixed xf21 rfl ?_
  unfold xc21 xr21 xn21
  simp -dsimp -implicitDefEqProofs only [go_sem, reduceIte, Nat.reduceEqDiff, Nat.reduceAdd, Nat.reduceSub, Nat.reduceLeDiff, Nat.reduceLT, Nat.reduceMul, Int.reduceToNat, Int.reduceLT, Int.reduceLE, Int.reduceEq, Int.reduceNeg, go_sem]
  by_cases hb : 0 ≤ b ∧ b.toNat ∈ ord
  · refine zcall_eq xf62 (Nat.le_refl _) (there_ok hn T' b (p := true) (by simp [hb])) ?_
    obtain ⟨k, rfl⟩ := Int.eq_ofNat_of_zero_le hb.1
    have hk : k < n := hn k (by simpa using hb.2)
    have e1 := RL.idx k hk
    have e2 := RL.rd k hk
    simp -dsimp -implicitDefEqProofs only [go_sem, reduceIte, Nat.reduceEqDiff, Nat.reduceAdd, Nat.reduceSub, Nat.reduceLeDiff, Nat.reduceLT, Nat.reduceMul, Int.reduceToNat, Int.reduceLT, Int.reduceLE, Int.reduceEq, Int.reduceNeg, go_sem, T.nilc, T.f0, T.l0, e1, e2]
    exact .all ⟨by rw [if_pos (by simpa using hb.2)], rfl⟩
  · refine zcall_eq xf62 (Nat.le_refl _) (there_ok hn T' b (p := false) (by simp only [Bool.false_eq_true, false_iff]; exact hb)) ?_
    simp -dsimp -implicitDefEqProofs only [go_sem, reduceIte, Nat.reduceEqDiff, Nat.reduceAdd, Nat.reduceSub, Nat.reduceLeDiff, Nat.reduceLT, Nat.reduceMul, Int.reduceToNat, Int.reduceLT, Int.reduceLE, Int.reduceEq, Int.reduceNeg, go_sem]
    exact .all ⟨by rw [if_neg hb], rfl⟩
theorem rules_ok (hi : ∀ v l, L v = some l → v ∈ ord ∧ l ∈ ord ∧ pl l < pl v) (hn : ∀ v ∈ ord, v < n) (htv : acells tv = some [tv]) (hTr : ∀ l, TreeOn n ord pl L tv (h ++ l)) (a b : Int) {p : Bool}
    (hp : p = true ↔ 0 ≤ b ∧ b.toNat ∈ ord ∧ 0 ≤ a ∧ Anc L b.toNat a.toNat) : ACall Tryz.prog 19 [tv, .lit (.int .i64 a), .lit (.int .i64 b)] h fun r h' => r = .lit (.bool p) ∧ h' = h := by
  refine acall_z mixed xf19 rfl ?_
  unfold xc19 xr19 xn19
  simp -dsimp -implicitDefEqProofs only [go_sem, reduceIte, Nat.reduceEqDiff, Nat.reduceAdd, Nat.reduceSub, Nat.reduceLeDiff, Nat.reduceLT, Nat.reduceMul, Int.reduceToNat, Int.reduceLT, Int.reduceLE, Int.reduceEq, Int.reduceNeg, go_sem]
  refine zcall_eq xf18 (by simp) (lords_ok htv b) ?_
  simp -dsimp -implicitDefEqProofs only [go_sem, reduceIte, Nat.reduceEqDiff, Nat.reduceAdd, Nat.reduceSub, Nat.reduceLeDiff, Nat.reduceLT, Nat.reduceMul, Int.reduceToNat, Int.reduceLT, Int.reduceLE, Int.reduceEq, Int.reduceNeg, go_sem]
  refine zw_rangeT rfl rfl (xfunc_ok xf61).1 ?_
  intro T hT
  simp -dsimp -implicitDefEqProofs only [go_sem, reduceIte, Nat.reduceEqDiff, Nat.reduceAdd, Nat.reduceSub, Nat.reduceLeDiff, Nat.reduceLT, Nat.reduceMul, Int.reduceToNat, Int.reduceLT, Int.reduceLE, Int.reduceEq, Int.reduceNeg, go_sem]
  have t4 : T.get 4 = .ptr h.length 0 0 := by rw [hT]; simp -dsimp -implicitDefEqProofs only [go_sem, reduceIte, Nat.reduceEqDiff, Nat.reduceAdd, Nat.reduceSub, Nat.reduceLeDiff, Nat.reduceLT, Nat.reduceMul, Int.reduceToNat, Int.reduceLT, Int.reduceLE, Int.reduceEq, Int.reduceNeg, go_sem]
  have t6 : T.get 6 = .ptr (h.length + 1) 0 0 := by rw [hT]; simp -dsimp -implicitDefEqProofs only [go_sem, reduceIte, Nat.reduceEqDiff, Nat.reduceAdd, Nat.reduceSub, Nat.reduceLeDiff, Nat.reduceLT, Nat.reduceMul, Int.reduceToNat, Int.reduceLT, Int.reduceLE, Int.reduceEq, Int.reduceNeg, go_sem]
  clear hT
  let Lp (st : LoopState) (pe : Option Code) : AObj := .loop 15 T #[11] (bodyAt Tryz.prog 19 [1, 0, 1, 0, 0]) (bodyAt Tryz.prog 19 [1, 0, 1, 0, 1]) st pe (h.length + 4)
  let HH (res : Bool) (cur : Int) (lp : AObj) : AHeap := h ++ [some (.rows [[.lit (.int .i64 a)]]), some (.rows [[.lit (.bool res)]]), some (.rows [[tv]]), some (.rows [[.lit (.int .i64 cur)]]), some .defd, some lp]
  have key := lords1_ok (n := n) (ord := ord) (pl := pl) (L := L) (tv := tv) (h := HH false b (Lp .ready none)) hi hn (Y := .yieldf (h.length + 5)) (A := h.length + 2) (B := h.length + 3)
    (fun v h' => h' = HH false v (Lp .ready none) ∧ (p = true ↔ 0 ≤ a ∧ Anc L v a.toNat))
    (fun v h' => h' = HH false v (Lp .ready none) ∧ ¬ (v : Int) = a ∧ (p = true ↔ 0 ≤ a ∧ Anc L v a.toNat))
    (fun h' => (∃ cur, h' = HH false cur (Lp .ready none) ∧ p = false) ∨ ∃ cur, h' = HH true cur (Lp .done (some .ret)) ∧ p = true)
    ?_ ?_ ?_ ?_ b ?_ ?_ ?_ ?_ ?_
  · refine key.mono fun v h' ⟨_, hD⟩ => ?_
    rcases hD with ⟨cur, rfl, rfl⟩ | ⟨cur, rfl, rfl⟩
    · refine ⟨.ready, none, ?_, (fun e => by cases e), ?_, ?_⟩
      · simp -dsimp -implicitDefEqProofs only [go_sem, reduceIte, Nat.reduceEqDiff, Nat.reduceAdd, Nat.reduceSub, Nat.reduceLeDiff, Nat.reduceLT, Nat.reduceMul, Int.reduceToNat, Int.reduceLT, Int.reduceLE, Int.reduceEq, Int.reduceNeg, go_sem, HH]; rfl
      · simp [HH]
      · simp -dsimp -implicitDefEqProofs only [go_sem, reduceIte, Nat.reduceEqDiff, Nat.reduceAdd, Nat.reduceSub, Nat.reduceLeDiff, Nat.reduceLT, Nat.reduceMul, Int.reduceToNat, Int.reduceLT, Int.reduceLE, Int.reduceEq, Int.reduceNeg, go_sem, HH, set_new, t6]
        exact fend_cut (.lit _) ⟨rfl, rfl⟩
    · refine ⟨.done, some .ret, ?_, (fun e => by cases e), ?_, ?_⟩
      · simp -dsimp -implicitDefEqProofs only [go_sem, reduceIte, Nat.reduceEqDiff, Nat.reduceAdd, Nat.reduceSub, Nat.reduceLeDiff, Nat.reduceLT, Nat.reduceMul, Int.reduceToNat, Int.reduceLT, Int.reduceLE, Int.reduceEq, Int.reduceNeg, go_sem, HH]; rfl
      · simp [HH]
      · simp -dsimp -implicitDefEqProofs only [go_sem, reduceIte, Nat.reduceEqDiff, Nat.reduceAdd, Nat.reduceSub, Nat.reduceLeDiff, Nat.reduceLT, Nat.reduceMul, Int.reduceToNat, Int.reduceLT, Int.reduceLE, Int.reduceEq, Int.reduceNeg, go_sem, HH, set_new, t6]
        exact fend_cut (.lit _) ⟨rfl, rfl⟩
  · rintro v h' hv (⟨rfl, _⟩ | ⟨rfl, _⟩)
    · exact ⟨by simp -dsimp -implicitDefEqProofs only [go_sem, reduceIte, Nat.reduceEqDiff, Nat.reduceAdd, Nat.reduceSub, Nat.reduceLeDiff, Nat.reduceLT, Nat.reduceMul, Int.reduceToNat, Int.reduceLT, Int.reduceLE, Int.reduceEq, Int.reduceNeg, go_sem, HH], by simp -dsimp -implicitDefEqProofs only [go_sem, reduceIte, Nat.reduceEqDiff, Nat.reduceAdd, Nat.reduceSub, Nat.reduceLeDiff, Nat.reduceLT, Nat.reduceMul, Int.reduceToNat, Int.reduceLT, Int.reduceLE, Int.reduceEq, Int.reduceNeg, go_sem, HH], hTr _⟩
    · exact ⟨by simp -dsimp -implicitDefEqProofs only [go_sem, reduceIte, Nat.reduceEqDiff, Nat.reduceAdd, Nat.reduceSub, Nat.reduceLeDiff, Nat.reduceLT, Nat.reduceMul, Int.reduceToNat, Int.reduceLT, Int.reduceLE, Int.reduceEq, Int.reduceNeg, go_sem, HH], by simp -dsimp -implicitDefEqProofs only [go_sem, reduceIte, Nat.reduceEqDiff, Nat.reduceAdd, Nat.reduceSub, Nat.reduceLeDiff, Nat.reduceLT, Nat.reduceMul, Int.reduceToNat, Int.reduceLT, Int.reduceLE, Int.reduceEq, Int.reduceNeg, go_sem, HH], hTr _⟩
  · rintro v h' hv ⟨rfl, hpv⟩
    by_cases e : (v : Int) = a
    · refine ⟨false, HH true v (Lp .done (some .ret)), ?_, by simp [HH], (fun e => by cases e), fun _ => .inr ⟨v, rfl, hpv.2 ⟨by omega, by rw [← e]; exact .refl v⟩⟩⟩
      refine ayield_z mixed (by simp -dsimp -implicitDefEqProofs only [go_sem, reduceIte, Nat.reduceEqDiff, Nat.reduceAdd, Nat.reduceSub, Nat.reduceLeDiff, Nat.reduceLT, Nat.reduceMul, Int.reduceToNat, Int.reduceLT, Int.reduceLE, Int.reduceEq, Int.reduceNeg, go_sem, HH]; rfl) rfl (by rfl) xaf19_0 xbf19_0 ?_
      unfold xa19_0 xb19_0
      simp -dsimp -implicitDefEqProofs only [go_sem, reduceIte, Nat.reduceEqDiff, Nat.reduceAdd, Nat.reduceSub, Nat.reduceLeDiff, Nat.reduceLT, Nat.reduceMul, Int.reduceToNat, Int.reduceLT, Int.reduceLE, Int.reduceEq, Int.reduceNeg, go_sem, HH, Lp, putParams, t4, t6, e, decide_true]
      refine ⟨none, by simp -dsimp -implicitDefEqProofs only [go_sem, reduceIte, Nat.reduceEqDiff, Nat.reduceAdd, Nat.reduceSub, Nat.reduceLeDiff, Nat.reduceLT, Nat.reduceMul, Int.reduceToNat, Int.reduceLT, Int.reduceLE, Int.reduceEq, Int.reduceNeg, go_sem], .all ⟨rfl, ?_⟩⟩
      simp -dsimp -implicitDefEqProofs only [go_sem, reduceIte, Nat.reduceEqDiff, Nat.reduceAdd, Nat.reduceSub, Nat.reduceLeDiff, Nat.reduceLT, Nat.reduceMul, Int.reduceToNat, Int.reduceLT, Int.reduceLE, Int.reduceEq, Int.reduceNeg, go_sem]
      rfl
    · refine ⟨true, HH false v (Lp .ready none), ?_, Nat.le_refl _, fun _ => ⟨rfl, e, hpv⟩, fun e => by cases e⟩
      refine ayield_z mixed (by simp -dsimp -implicitDefEqProofs only [go_sem, reduceIte, Nat.reduceEqDiff, Nat.reduceAdd, Nat.reduceSub, Nat.reduceLeDiff, Nat.reduceLT, Nat.reduceMul, Int.reduceToNat, Int.reduceLT, Int.reduceLE, Int.reduceEq, Int.reduceNeg, go_sem, HH]; rfl) rfl (by rfl) xaf19_0 xbf19_0 ?_
      unfold xa19_0 xb19_0
      simp -dsimp -implicitDefEqProofs only [go_sem, reduceIte, Nat.reduceEqDiff, Nat.reduceAdd, Nat.reduceSub, Nat.reduceLeDiff, Nat.reduceLT, Nat.reduceMul, Int.reduceToNat, Int.reduceLT, Int.reduceLE, Int.reduceEq, Int.reduceNeg, go_sem, HH, Lp, putParams, t4, t6, e, decide_false]
      refine ⟨none, by simp -dsimp -implicitDefEqProofs only [go_sem, reduceIte, Nat.reduceEqDiff, Nat.reduceAdd, Nat.reduceSub, Nat.reduceLeDiff, Nat.reduceLT, Nat.reduceMul, Int.reduceToNat, Int.reduceLT, Int.reduceLE, Int.reduceEq, Int.reduceNeg, go_sem], .all ⟨rfl, ?_⟩⟩
      simp -dsimp -implicitDefEqProofs only [go_sem, reduceIte, Nat.reduceEqDiff, Nat.reduceAdd, Nat.reduceSub, Nat.reduceLeDiff, Nat.reduceLT, Nat.reduceMul, Int.reduceToNat, Int.reduceLT, Int.reduceLE, Int.reduceEq, Int.reduceNeg, go_sem]
      rfl
  · rintro v h' hv ⟨rfl, hne, hpv⟩ hl
    refine .inl ⟨v, rfl, ?_⟩
    cases hp' : p with
    | false => rfl
    | true =>
      rcases (hpv.1 hp').2.cases' with e | ⟨l, e, _⟩
      · exact absurd (by have := (hpv.1 hp').1; omega) hne
      · rw [hl] at e; cases e
  · rintro v l h' hv ⟨rfl, hne, hpv⟩ hl
    refine ⟨by simp -dsimp -implicitDefEqProofs only [go_sem, reduceIte, Nat.reduceEqDiff, Nat.reduceAdd, Nat.reduceSub, Nat.reduceLeDiff, Nat.reduceLT, Nat.reduceMul, Int.reduceToNat, Int.reduceLT, Int.reduceLE, Int.reduceEq, Int.reduceNeg, go_sem, HH], hpv.trans ⟨fun ⟨h1, h2⟩ => ⟨h1, ?_⟩, fun ⟨h1, h2⟩ => ⟨h1, .step hl h2⟩⟩⟩
    rcases h2.cases' with e | ⟨l', e, h2⟩
    · exact absurd (by omega) hne
    · rw [hl] at e; cases e; exact h2
  · simp -dsimp -implicitDefEqProofs only [go_sem, reduceIte, Nat.reduceEqDiff, Nat.reduceAdd, Nat.reduceSub, Nat.reduceLeDiff, Nat.reduceLT, Nat.reduceMul, Int.reduceToNat, Int.reduceLT, Int.reduceLE, Int.reduceEq, Int.reduceNeg, go_sem, HH]
  · simp -dsimp -implicitDefEqProofs only [go_sem, reduceIte, Nat.reduceEqDiff, Nat.reduceAdd, Nat.reduceSub, Nat.reduceLeDiff, Nat.reduceLT, Nat.reduceMul, Int.reduceToNat, Int.reduceLT, Int.reduceLE, Int.reduceEq, Int.reduceNeg, go_sem, HH]
  · exact hTr _
  · intro hb0 hbo
    exact ⟨by simp only [HH, Int.toNat_of_nonneg hb0], hp.trans ⟨fun ⟨_, _, h1, h2⟩ => ⟨h1, h2⟩, fun ⟨h1, h2⟩ => ⟨hb0, hbo, h1, h2⟩⟩⟩
  · intro hb
    refine .inl ⟨b, rfl, ?_⟩
    cases hp' : p with
    | false => rfl
    | true => exact absurd ⟨(hp.1 hp').1, (hp.1 hp').2.1⟩ hb
end
end Go.AL
