/- Is a block reached, not through another one? -/
import Derived.Test.YtjiccnebfbpcgaaGreatDoorPk2
set_option linter.unusedSimpArgs false
set_option linter.unusedVariables false
set_option linter.unusedSectionVars false
namespace Go.AL
open Go.Proofs
def ents (S : List Nat) : List (AVal × AVal) := S.map fun (k : Nat) => (.lit (.int .i64 (k : Int)), .lit (.bool true))
theorem mfind_ents {k : Nat} : ∀ (S : List Nat) (i : Nat), k ∉ S → mfind (.lit (.int .i64 k)) (ents S) i = some none
  | [], _, _ => rfl
  | x :: S, i, h => by
    have hx : ¬ (k : Int) = (x : Int) := by
      intro e
      have e' : k = x := by omega
      subst e'
      exact h List.mem_cons_self
    have := mfind_ents S (i + 1) (fun hm : k ∈ S => h (List.mem_cons_of_mem _ hm))
    simp only [ents, List.map_cons, mfind, keyEq, if_true, decide_eq_false hx]
    exact this
theorem mfind_ents' {k : Nat} : ∀ (S : List Nat) (i : Nat), k ∈ S → ∃ j, mfind (.lit (.int .i64 k)) (ents S) i = some (some (j, .lit (.bool true)))
  | [], _, h => by cases h
  | x :: S, i, h => by
    by_cases hx : (k : Int) = (x : Int)
    · exact ⟨i, by simp only [ents, List.map_cons, mfind, keyEq, if_true, decide_eq_true hx]⟩
    · have hm : k ∈ S := by
        rcases List.mem_cons.1 h with rfl | h
        · exact absurd rfl hx
        · exact h
      obtain ⟨j, hj⟩ := mfind_ents' S (i + 1) hm
      exact ⟨j, by simp only [ents, List.map_cons, mfind, keyEq, if_true, decide_eq_false hx]; exact hj⟩
theorem seen_get {h : AHeap} {a k : Nat} {S : List Nat} (ha : hget h a = some (.map (ents S))) {K : AVal → Prop} {u} (hk : K (.lit (.bool (decide (k ∈ S))))) : ZMapGet h true (.lit (.bool false)) (.map a) (.lit (.int .i64 k)) false K u := by
  by_cases hm : k ∈ S
  · obtain ⟨j, hj⟩ := mfind_ents' S 0 hm
    refine ⟨_, _, ha, rfl, hj, ?_⟩
    rw [decide_eq_true hm] at hk; exact hk
  · refine ⟨_, _, ha, rfl, mfind_ents S 0 hm, ?_⟩
    rw [decide_eq_false hm] at hk; exact hk
theorem seen_put {h : AHeap} {a k : Nat} {S : List Nat} (ha : hget h a = some (.map (ents S))) (hm : k ∉ S) {K : AHeap → Prop} {u} (hk : K (hset h a (.map (ents (S ++ [k]))))) : ZMapPut h true (.map a) (.lit (.int .i64 k)) (.lit (.bool true)) K u := by
  refine ⟨_, _, ha, rfl, mfind_ents S 0 hm, ?_⟩
  have : ents (S ++ [k]) = ents S ++ [(.lit (.int .i64 k), .lit (.bool true))] := by simp [ents]
  rw [this] at hk; exact hk
theorem ZElems_slV {h : AHeap} {l : List Nat} {K : List (List AVal) → Prop} {u} : ZElems h (slV (ints l)) 1 K u = K (ints l) := by
  cases l with
  | nil => rfl
  | cons x l =>
    show ZElems h (.fslice (ints (x :: l))) 1 K u = _
    rw [ZElems_fslice]
    exact propext ⟨fun h => h.2, fun h => ⟨ints_one, h⟩⟩
theorem nextN_ok (g : Gr) (hg : ∀ l ∈ g.next, l.length < 4294967296) (b : Nat) (h : AHeap) : ACall Tryz.prog 64 [g.val, .lit (.int .i64 b)] h fun v h' => v = slV (ints (g.next.getD b [])) ∧ h' = h := by
  refine acall_z mixed xf64 rfl ?_
  unfold xc64 xr64 xn64 Gr.val Gr.cells
  simp -dsimp -implicitDefEqProofs only [go_sem, reduceIte, Nat.reduceEqDiff, Nat.reduceAdd, Nat.reduceSub, Nat.reduceLeDiff, Nat.reduceLT, Nat.reduceMul, Int.reduceToNat, Int.reduceLT, Int.reduceLE, Int.reduceEq, Int.reduceNeg, go_sem]
  refine zcall_eq xf63 (Nat.le_refl _) (row_ok g.next hg b h) ?_
  simp -dsimp -implicitDefEqProofs only [go_sem, reduceIte, Nat.reduceEqDiff, Nat.reduceAdd, Nat.reduceSub, Nat.reduceLeDiff, Nat.reduceLT, Nat.reduceMul, Int.reduceToNat, Int.reduceLT, Int.reduceLE, Int.reduceEq, Int.reduceNeg, go_sem]
  refine .all ⟨?_, rfl⟩
  rw [List.getD_eq_getElem?_getD]
structure AvInv (nx : Nat → List Nat) (n block to : Nat) (S T : List Nat) : Prop where
  bS : block ∈ S
  past : ∀ s ∈ S, s ≠ block → Past nx block s
  cand : ∀ k ∈ T, k ≠ block → Past nx block k
  no : ∀ s ∈ S, s ≠ block → s ≠ to
  cl : ∀ s ∈ S, s ≠ block → ∀ k ∈ nx s, k ∈ S ∨ k ∈ T
  z : 0 ∈ S ∨ 0 ∈ T
  lt : ∀ k ∈ T, k < n
  few : T.length + unr (List.range n) (fun i => decide (i ∈ S)) * n ≤ n * n + 1
theorem AvInv.start {nx : Nat → List Nat} {n block to : Nat} (hn : 0 < n) : AvInv nx n block to [block] [0] where
  bS := by simp
  past s hs hne := by simp at hs; exact absurd hs hne
  cand k hk hne := by simp at hk; subst hk; exact .start hne
  no s hs hne := by simp at hs; exact absurd hs hne
  cl s hs hne := by simp at hs; exact absurd hs hne
  z := .inr (by simp)
  lt k hk := by simp at hk; omega
  few := by
    have : unr (List.range n) (fun i => decide (i ∈ [block])) ≤ n := by
      have := List.countP_le_length (p := fun i => !decide (i ∈ [block])) (l := List.range n)
      rw [List.length_range] at this; exact this
    have := Nat.mul_le_mul_right n this
    simp only [List.length_cons, List.length_nil]; omega
theorem AvInv.skip {nx : Nat → List Nat} {n block to : Nat} {S T : List Nat} {k : Nat} (i : AvInv nx n block to S (T ++ [k])) (hk : k ∈ S) : AvInv nx n block to S T where
  bS := i.bS
  past := i.past
  cand x hx := i.cand x (by simp [hx])
  no := i.no
  cl s hs hne x hx := by
    rcases i.cl s hs hne x hx with h | h
    · exact .inl h
    · rcases List.mem_append.1 h with h | h
      · exact .inr h
      · simp at h; subst h; exact .inl hk
  z := by
    rcases i.z with h | h
    · exact .inl h
    · rcases List.mem_append.1 h with h | h
      · exact .inr h
      · simp at h; subst h; exact .inl hk
  lt x hx := i.lt x (by simp [hx])
  few := by have := i.few; simp only [List.length_append, List.length_cons, List.length_nil] at this; omega
theorem unr_add {n k : Nat} {S : List Nat} (hk : k < n) (hs : k ∉ S) : unr (List.range n) (fun i => decide (i ∈ S ++ [k])) + 1 = unr (List.range n) (fun i => decide (i ∈ S)) := by
  rw [← unr_one (R := fun i => decide (i ∈ S)) (List.range n) List.nodup_range (List.mem_range.2 hk) (decide_eq_false hs)]
  congr 2
  funext j
  by_cases e : j = k
  · subst e; simp
  · simp [e]
theorem AvInv.more {nx : Nat → List Nat} {n block to : Nat} {S T : List Nat} {k : Nat} (i : AvInv nx n block to S (T ++ [k])) (hk : k ∉ S) (hto : k ≠ to) (hnl : ∀ j, (nx j).length ≤ n) (hnx : ∀ j x, x ∈ nx j → x < n) : AvInv nx n block to (S ++ [k]) (T ++ nx k) where
  bS := List.mem_append_left _ i.bS
  past s hs hne := by
    rcases List.mem_append.1 hs with hs | hs
    · exact i.past s hs hne
    · simp at hs; subst hs; exact i.cand s (by simp) hne
  cand x hx hne := by
    rcases List.mem_append.1 hx with hx | hx
    · exact i.cand x (by simp [hx]) hne
    · exact .step (i.cand k (by simp) fun e => hk (by rw [e]; exact i.bS)) hx hne
  no s hs hne := by
    rcases List.mem_append.1 hs with hs | hs
    · exact i.no s hs hne
    · simp at hs; subst hs; exact hto
  cl s hs hne x hx := by
    rcases List.mem_append.1 hs with hs | hs
    · rcases i.cl s hs hne x hx with h | h
      · exact .inl (List.mem_append_left _ h)
      · rcases List.mem_append.1 h with h | h
        · exact .inr (List.mem_append_left _ h)
        · simp at h; subst h; exact .inl (by simp)
    · simp at hs; subst hs; exact .inr (List.mem_append_right _ hx)
  z := by
    rcases i.z with h | h
    · exact .inl (List.mem_append_left _ h)
    · rcases List.mem_append.1 h with h | h
      · exact .inr (List.mem_append_left _ h)
      · simp at h; subst h; exact .inl (by simp)
  lt x hx := by
    rcases List.mem_append.1 hx with hx | hx
    · exact i.lt x (by simp [hx])
    · exact hnx _ _ hx
  few := by
    have h1 := i.few
    have h2 := unr_add (n := n) (i.lt k (by simp)) hk
    rw [← h2, Nat.add_mul, Nat.one_mul] at h1
    simp only [List.length_append, List.length_cons, List.length_nil] at h1 ⊢
    have := hnl k
    omega
theorem AvInv.done {nx : Nat → List Nat} {n block to : Nat} {S : List Nat} (i : AvInv nx n block to S []) : ¬ Past nx block to := by
  intro hp
  have : ∀ v, Past nx block v → v ∈ S := by
    intro v hv
    induction hv with
    | start _ => rcases i.z with h | h; exact h; cases h
    | step hu hk hne ih => rcases i.cl _ ih hu.ne _ hk with h | h; exact h; cases h
  exact i.no to (this to hp) hp.ne rfl
theorem avoids_ok {g : Gr} {n : Nat} (hn : 0 < n) (hn20 : n ≤ 20) (hnl : ∀ j, (g.next.getD j []).length ≤ n) (hnx : ∀ j x, x ∈ g.next.getD j [] → x < n) (hg : ∀ l ∈ g.next, l.length < 4294967296) (block to : Nat) (h : AHeap) {p : Bool} (hp : p = true ↔ Past (fun i => g.next.getD i []) block to) :
    ACall Tryz.prog 23 [g.val, .lit (.int .i64 block), .lit (.int .i64 to)] h fun r h' => r = .lit (.bool p) ∧ h' = h := by
  refine acall_z mixed xf23 rfl ?_
  unfold xc23 xr23 xn23
  simp -dsimp -implicitDefEqProofs only [go_sem, reduceIte, Nat.reduceEqDiff, Nat.reduceAdd, Nat.reduceSub, Nat.reduceLeDiff, Nat.reduceLT, Nat.reduceMul, Int.reduceToNat, Int.reduceLT, Int.reduceLE, Int.reduceEq, Int.reduceNeg, go_sem]
  refine seen_put (S := []) ?_ (by simp) ?_
  · simp -dsimp -implicitDefEqProofs only [go_sem, reduceIte, Nat.reduceEqDiff, Nat.reduceAdd, Nat.reduceSub, Nat.reduceLeDiff, Nat.reduceLT, Nat.reduceMul, Int.reduceToNat, Int.reduceLT, Int.reduceLE, Int.reduceEq, Int.reduceNeg, go_sem]; rfl
  simp -dsimp -implicitDefEqProofs only [go_sem, reduceIte, Nat.reduceEqDiff, Nat.reduceAdd, Nat.reduceSub, Nat.reduceLeDiff, Nat.reduceLT, Nat.reduceMul, Int.reduceToNat, Int.reduceLT, Int.reduceLE, Int.reduceEq, Int.reduceNeg, go_sem]
  have hgn : ∀ j, (g.next.getD j []).length < 4294967296 := fun j => by have := hnl j; omega
  refine zw_loopDU (j := 8) (a := h.length + 1) (e := 1) (i := 0) (m := 1) (cp := some 1) (by simp -dsimp -implicitDefEqProofs only [go_sem, reduceIte, Nat.reduceEqDiff, Nat.reduceAdd, Nat.reduceSub, Nat.reduceLeDiff, Nat.reduceLT, Nat.reduceMul, Int.reduceToNat, Int.reduceLT, Int.reduceLE, Int.reduceEq, Int.reduceNeg, go_sem])
    (fun k t h2 => ∃ A S T, AvInv (fun i => g.next.getD i []) n block to S T ∧ Over h h2 ∧ hget h2 h.length = some (.map (ents S)) ∧ h.length + 1 ≤ A ∧ (∃ es, hget h2 A = some (.rows es) ∧ es.take T.length = ints T) ∧
      t.get 0 = g.val ∧ t.get 1 = .lit (.int .i64 block) ∧ t.get 2 = .lit (.int .i64 to) ∧ t.get 7 = .map h.length ∧ t.get 8 = .slice A 1 0 T.length none ∧ k = unr (List.range n) (fun i => decide (i ∈ S)) * (n + 1) + T.length) _
    ⟨h.length + 1, [block], [0], .start hn, ?_, ?_, Nat.le_refl _, ⟨[[.lit (.int .i64 0)]], ?_, ?_⟩, ?_, ?_, ?_, ?_, ?_, rfl⟩ ?_
  · exact (Over.refl _).snoc
  · simp -dsimp -implicitDefEqProofs only [go_sem, reduceIte, Nat.reduceEqDiff, Nat.reduceAdd, Nat.reduceSub, Nat.reduceLeDiff, Nat.reduceLT, Nat.reduceMul, Int.reduceToNat, Int.reduceLT, Int.reduceLE, Int.reduceEq, Int.reduceNeg, go_sem]
  · simp -dsimp -implicitDefEqProofs only [go_sem, reduceIte, Nat.reduceEqDiff, Nat.reduceAdd, Nat.reduceSub, Nat.reduceLeDiff, Nat.reduceLT, Nat.reduceMul, Int.reduceToNat, Int.reduceLT, Int.reduceLE, Int.reduceEq, Int.reduceNeg, go_sem]
  · rfl
  · rfl
  · rfl
  · rfl
  · rfl
  · rfl
  rintro k t h2 ⟨A, S, T, hv, ov, m0, hA, ⟨es, m1, m2⟩, t0, t1, t2, t7, t8, rfl⟩
  simp -dsimp -implicitDefEqProofs only [go_sem, reduceIte, Nat.reduceEqDiff, Nat.reduceAdd, Nat.reduceSub, Nat.reduceLeDiff, Nat.reduceLT, Nat.reduceMul, Int.reduceToNat, Int.reduceLT, Int.reduceLE, Int.reduceEq, Int.reduceNeg, go_sem, t0, t1, t2, t7, t8]
  rcases List.eq_nil_or_concat T with rfl | ⟨T, x, rfl⟩
  · have c0 : ¬ ((0 : Int) < ((0 : Nat) : Int)) := by simp
    simp -dsimp -implicitDefEqProofs only [go_sem, reduceIte, Nat.reduceEqDiff, Nat.reduceAdd, Nat.reduceSub, Nat.reduceLeDiff, Nat.reduceLT, Nat.reduceMul, Int.reduceToNat, Int.reduceLT, Int.reduceLE, Int.reduceEq, Int.reduceNeg, c0, List.length_nil, decide_false]
    have hpf : p = false := by
      rw [← Bool.not_eq_true, hp]
      exact hv.done
    rw [hpf]
    exact fend_over ov (.lit _) ⟨rfl, rfl⟩
  · rw [List.concat_eq_append] at hv m2 t8 ⊢
    have e1 : (T ++ [x]).length = T.length + 1 := by simp
    rw [e1] at m2 t8 ⊢
    have c0 : (0 : Int) < ((T.length + 1 : Nat) : Int) := by omega
    have hfew := hv.few
    have hT : T.length + 1 ≤ 4000 := by
      rw [e1] at hfew
      have : n * n ≤ 20 * 20 := Nat.mul_le_mul hn20 hn20
      omega
    have c1 : IntKind.i64.wrap (((T.length + 1 : Nat) : Int) - 1) = (T.length : Int) := by rw [wrapI (by omega) (by omega)]; omega
    have c2 : (T.length : Int) < ((T.length + 1 : Nat) : Int) := by omega
    have m3 : es[T.length]? = some [.lit (.int .i64 x)] := by
      have := congrArg (fun l : List (List AVal) => l[T.length]?) m2
      simp only [List.getElem?_take, show T.length < T.length + 1 by omega, if_true] at this
      rw [this]; simp [ints]
    have m4 : es.take T.length = ints T := by
      have := congrArg (fun l : List (List AVal) => l.take T.length) m2
      simp only [List.take_take] at this
      rw [Nat.min_eq_left (by omega)] at this
      rw [this]; simp [ints]
    have v5 : 0 < (none : Option Nat).getD (T.length + 1) := by simp
    have av : aslcV A 1 0 (T.length + 1) none T.length 0 = .slice A 1 0 T.length none := by rw [aslcV_t v5]; simp
    have hA2 : h.length ≤ A := by omega
    simp -dsimp -implicitDefEqProofs only [go_sem, reduceIte, Nat.reduceEqDiff, Nat.reduceAdd, Nat.reduceSub, Nat.reduceLeDiff, Nat.reduceLT, Nat.reduceMul, Int.reduceToNat, Int.reduceLT, Int.reduceLE, Int.reduceEq, Int.reduceNeg, go_sem, t0, t1, t2, t7, t8, c0, c1, c2, decide_true, m1, m3, av]
    refine ⟨by omega, by omega, seen_get m0 ?_⟩
    by_cases hxS : x ∈ S
    · simp -dsimp -implicitDefEqProofs only [go_sem, reduceIte, Nat.reduceEqDiff, Nat.reduceAdd, Nat.reduceSub, Nat.reduceLeDiff, Nat.reduceLT, Nat.reduceMul, Int.reduceToNat, Int.reduceLT, Int.reduceLE, Int.reduceEq, Int.reduceNeg, go_sem, decide_eq_true hxS, t0, t1, t2, t7]
      exact ⟨_, by omega, A, S, T, hv.skip hxS, ov, m0, hA, ⟨es, m1, m4⟩, rfl, rfl⟩
    · simp -dsimp -implicitDefEqProofs only [go_sem, reduceIte, Nat.reduceEqDiff, Nat.reduceAdd, Nat.reduceSub, Nat.reduceLeDiff, Nat.reduceLT, Nat.reduceMul, Int.reduceToNat, Int.reduceLT, Int.reduceLE, Int.reduceEq, Int.reduceNeg, go_sem, decide_eq_false hxS, t0, t1, t2, t7]
      by_cases hxt : (x : Int) = (to : Int)
      · simp -dsimp -implicitDefEqProofs only [go_sem, reduceIte, Nat.reduceEqDiff, Nat.reduceAdd, Nat.reduceSub, Nat.reduceLeDiff, Nat.reduceLT, Nat.reduceMul, Int.reduceToNat, Int.reduceLT, Int.reduceLE, Int.reduceEq, Int.reduceNeg, hxt, decide_true]
        have hpt : p = true := by
          have hxt' : x = to := by omega
          subst hxt'
          exact hp.2 (hv.cand x (by simp) fun e => hxS (by rw [e]; exact hv.bS))
        rw [hpt]
        exact fend_over ov (.lit _) ⟨rfl, rfl⟩
      · simp -dsimp -implicitDefEqProofs only [go_sem, reduceIte, Nat.reduceEqDiff, Nat.reduceAdd, Nat.reduceSub, Nat.reduceLeDiff, Nat.reduceLT, Nat.reduceMul, Int.reduceToNat, Int.reduceLT, Int.reduceLE, Int.reduceEq, Int.reduceNeg, go_sem, hxt, decide_false, t0, t1, t2, t7]
        refine seen_put m0 hxS ?_
        simp -dsimp -implicitDefEqProofs only [go_sem, reduceIte, Nat.reduceEqDiff, Nat.reduceAdd, Nat.reduceSub, Nat.reduceLeDiff, Nat.reduceLT, Nat.reduceMul, Int.reduceToNat, Int.reduceLT, Int.reduceLE, Int.reduceEq, Int.reduceNeg, go_sem, t0, t1, t2, t7]
        refine zcall_eq xf64 (Nat.le_refl _) (nextN_ok g hg x _) ?_
        have hAn : A ≠ h.length := by omega
        have m5 : ∀ o, hget (hset h2 h.length o) A = some (.rows es) := fun o => by rw [hget_hset_ne (fun e => hAn e.symm)]; exact m1
        simp -dsimp -implicitDefEqProofs only [go_sem, reduceIte, Nat.reduceEqDiff, Nat.reduceAdd, Nat.reduceSub, Nat.reduceLeDiff, Nat.reduceLT, Nat.reduceMul, Int.reduceToNat, Int.reduceLT, Int.reduceLE, Int.reduceEq, Int.reduceNeg, go_sem, t0, t1, t2, t7, ZElems_slV, m5, ints_len]
        have hun := unr_add (n := n) (hv.lt x (by simp)) hxS
        have hle := (List.getElem?_eq_some_iff.1 m3).1
        have hnx2 := hnl x
        have hsz : (List.set (hset h2 h.length (.map (ents (S ++ [x])))) A none).length = h2.length := by rw [List.length_set, hset_length]
        have hl0 := hget_lt m0
        refine ⟨by omega, by omega, unr (List.range n) (fun i => decide (i ∈ S ++ [x])) * (n + 1) + (T ++ g.next.getD x []).length, ?_, h2.length, S ++ [x], T ++ g.next.getD x [], hv.more hxS (fun e => hxt (by rw [e])) hnl hnx, ?_, ?_, ?_, ⟨ints T ++ ints (g.next.getD x []), ?_, ?_⟩, ?_, rfl⟩
        · rw [← hun, Nat.add_mul, Nat.one_mul, List.length_append]; omega
        · exact (Over.set (ov.hset (Nat.le_refl _)) hA2).snoc
        · rw [hget_append_old (by rw [hsz]; exact hl0), hget_set_ne hAn, hget_hset_same hl0]
        · have := ov.len; omega
        · rw [m4, ← hsz, hget_new0]; rfl
        · rw [List.length_append]
          have : ints T ++ ints (g.next.getD x []) = ints (T ++ g.next.getD x []) := by simp [ints]
          rw [this]
          exact List.take_of_length_le (by rw [ints_len, List.length_append]; exact Nat.le_refl _)
        · rw [hset_length, List.length_append]
end Go.AL
namespace Go.AL
open Go.Proofs
theorem DomOk.mem2 {ord : List Nat} {pl : Nat → Nat} {pr : Nat → List Nat} {dom : Nat → Nat → Prop} {L : Nat → Option Nat} (D : DomOk ord pl pr dom L) {v x : Nat} (h : Anc L v x) : v ∈ ord → x ∈ ord := by
  induction h with
  | refl => exact id
  | step h _ ih => exact fun _ => ih (D.i1 _ _ h).2.1
set_option maxRecDepth 8000 in
set_option maxHeartbeats 4000000 in
theorem domways_ok {f : GFunc} (ok : FuncOk f) (b o : Int) (h : AHeap) : ACall Tryz.prog 4 [.agg f.cells, .lit (.int .i64 b), .lit (.int .i64 o)] h fun r h' => r = .lit (.bool true) ∧ h' = h := by
  have hfl : f.cells.length = 6 := rfl
  have hfc1 : f.cells.all AVal.cell1 = true := rfl
  have hftk : f.cells.take 6 = f.cells := rfl
  refine acall_z mixed xf4 rfl ?_
  unfold xc4 xr4 xn4
  simp -dsimp -implicitDefEqProofs only [go_sem, reduceIte, Nat.reduceEqDiff, Nat.reduceAdd, Nat.reduceSub, Nat.reduceLeDiff, Nat.reduceLT, Nat.reduceMul, Int.reduceToNat, Int.reduceLT, Int.reduceLE, Int.reduceEq, Int.reduceNeg, go_sem, hfc1, hfl, hftk]
  refine zcall_eq xf14 (Nat.le_refl _) (alive14_ok _) ?_
  simp -dsimp -implicitDefEqProofs only [go_sem, reduceIte, Nat.reduceEqDiff, Nat.reduceAdd, Nat.reduceSub, Nat.reduceLeDiff, Nat.reduceLT, Nat.reduceMul, Int.reduceToNat, Int.reduceLT, Int.reduceLE, Int.reduceEq, Int.reduceNeg, go_sem, hfc1, hfl, hftk]
  refine zcall_any xf15 (greatF_ok ok _) ?_
  rintro v h' ⟨⟨big, rfl, hbig⟩, rfl⟩
  refine ⟨Nat.le_refl _, ?_⟩
  cases big with
  | true =>
    simp -dsimp -implicitDefEqProofs only [go_sem, reduceIte, Nat.reduceEqDiff, Nat.reduceAdd, Nat.reduceSub, Nat.reduceLeDiff, Nat.reduceLT, Nat.reduceMul, Int.reduceToNat, Int.reduceLT, Int.reduceLE, Int.reduceEq, Int.reduceNeg, go_sem]
    exact fend_cut (.lit _) ⟨rfl, rfl⟩
  | false =>
  have h20 := hbig rfl
  clear hbig
  have hlb : (fbs f).length = f.blocks.length := by simp [fbs]
  simp -dsimp -implicitDefEqProofs only [go_sem, reduceIte, Nat.reduceEqDiff, Nat.reduceAdd, Nat.reduceSub, Nat.reduceLeDiff, Nat.reduceLT, Nat.reduceMul, Int.reduceToNat, Int.reduceLT, Int.reduceLE, Int.reduceEq, Int.reduceNeg, go_sem, hfc1, hfl, hftk]
  refine zcall_any xf16 (new_ok (bs := fbs f) rfl rfl rfl (fun h => Elts.fslice (by intro e he; obtain ⟨k, _, rfl⟩ := List.mem_map.1 he; rfl)) (by simp [fbs]) (by omega) (blk_ok ok.fit) _) ?_
  rintro v h' ⟨g, rfl, rfl, G⟩
  refine ⟨Nat.le_refl _, ?_⟩
  have gfit := G.fit (by omega)
  simp -dsimp -implicitDefEqProofs only [go_sem, reduceIte, Nat.reduceEqDiff, Nat.reduceAdd, Nat.reduceSub, Nat.reduceLeDiff, Nat.reduceLT, Nat.reduceMul, Int.reduceToNat, Int.reduceLT, Int.reduceLE, Int.reduceEq, Int.reduceNeg, go_sem]
  refine zcall_any xf17 (domnew_ok gfit _) ?_
  rintro v h' ⟨L, lp, rfl, rfl, h0, D⟩
  refine ⟨Nat.le_refl _, ?_⟩
  have hnlt := G.nlt
  rw [hlb] at gfit hnlt ⊢
  generalize f.blocks.length = n at h20 gfit hnlt
  have hnd : g.order.Nodup ∧ (∀ v ∈ g.order, v < n) ∧ g.order.length ≤ n := by
    rcases gfit.ord with ⟨e, _⟩ | o
    · rw [e]; exact ⟨List.nodup_nil, fun v hv => (by cases hv), Nat.zero_le _⟩
    · exact ⟨o.nd, o.lt, nd_le o.nd o.lt⟩
  obtain ⟨hnd, hlt, hlen⟩ := hnd
  obtain ⟨tcs, ht⟩ : ∃ tcs, treeV n g.order (fun v => g.order.idxOf v) L lp = .fptr tcs 0 := ⟨_, rfl⟩
  rw [ht]
  have hT1 : ∀ h, TreeOn n g.order (fun v => g.order.idxOf v) L (.fptr tcs 0) h := fun h => by rw [← ht]; exact treeV_on
  have hT2 : acells (.fptr tcs 0) = some [.fptr tcs 0] := rfl
  clear ht
  obtain ⟨R, hR⟩ : ∃ R : Int → Int → Bool, ∀ x y, R x y = true ↔ 0 ≤ y ∧ y.toNat ∈ g.order ∧ 0 ≤ x ∧ Anc L y.toNat x.toNat := by
    classical
    exact ⟨fun x y => decide (0 ≤ y ∧ y.toNat ∈ g.order ∧ 0 ≤ x ∧ Anc L y.toNat x.toNat), fun x y => by simp⟩
  have K : ∀ x y h, ACall Tryz.prog 19 [.fptr tcs 0, .lit (.int .i64 x), .lit (.int .i64 y)] h fun r h' => r = .lit (.bool (R x y)) ∧ h' = h := fun x y h => rules_ok D.i1 hlt hT2 (fun l => hT1 _) x y (hR x y)
  have Kr : ∀ y h, ACall Tryz.prog 20 [g.val, .lit (.int .i64 y)] h fun r h' => r = .lit (.bool (R y y)) ∧ h' = h := fun y h => (reached_ok g y h).mono fun r h' ⟨e, e'⟩ => ⟨by
    rw [e]
    show AVal.lit (.bool _) = _
    congr 2
    rw [Bool.eq_iff_iff, hR]
    have := G.reached y.toNat
    simp only [Bool.and_eq_true, decide_eq_true_eq]
    constructor
    · rintro ⟨h1, h2⟩
      have h3 : y.toNat ∈ g.order := this.1 (by cases hq : g.reached[y.toNat]? with
        | none => rw [hq] at h2; cases h2
        | some b => rw [hq] at h2; simp at h2; rw [h2])
      exact ⟨h1, h3, h1, .refl _⟩
    · rintro ⟨h1, h3, _, _⟩
      exact ⟨h1, by rw [this.2 h3]; rfl⟩, e'⟩
  have Kl : ∀ y h, ACall Tryz.prog 21 [.fptr tcs 0, .lit (.int .i64 y)] h fun r h' => r = .lit (.int .i64 (if 0 ≤ y ∧ y.toNat ∈ g.order then enc (L y.toNat) else -1)) ∧ h' = h := fun y h => lord_ok hlt (hT1 h) y
  have Kp : ∀ y h, ACall Tryz.prog 22 [g.val, .lit (.int .i64 (y : Nat))] h fun v h' => v = slV (ints (g.prev.getD y [])) ∧ h' = h := fun y h => prevN_ok g gfit.small y h
  have T4 : R o b = true → R o o = true ∧ R b b = true := by
    simp only [hR]
    rintro ⟨y0, y1, x0, h1⟩
    exact ⟨⟨x0, D.mem2 h1 y1, x0, .refl _⟩, y0, y1, y0, .refl _⟩
  have Ka : ∀ (bn on : Nat), bn ∈ g.order → on ∈ g.order → ∀ h, ACall Tryz.prog 23 [g.val, .lit (.int .i64 on), .lit (.int .i64 bn)] h fun r h' => r = .lit (.bool !(R on bn)) ∧ h' = h := by
    intro bn on hbn hon h
    have ho : OrdOk (fun i => g.next.getD i []) n g.order := by
      rcases gfit.ord with ⟨e, _⟩ | o
      · rw [e] at hbn; cases hbn
      · exact o
    refine avoids_ok (n := n) (by have := hlt _ hbn; omega) h20 hnlt.1 hnlt.2 gfit.small.next on bn h ?_
    rw [Bool.not_eq_true', ← Bool.not_eq_true, hR]
    have := D.past ho (fun u k _ => gfit.tr u k) h0 (o := on) hbn
    simp only [Int.toNat_natCast]
    constructor
    · intro h1
      exact Classical.byContradiction fun h2 => h1 ⟨by omega, hbn, by omega, this.2 h2⟩
    · rintro h1 ⟨_, _, _, h2⟩
      exact this.1 h2 h1
  obtain ⟨gcs, hg⟩ : ∃ gcs, g.val = .fptr gcs 0 := ⟨_, rfl⟩
  rw [hg] at Kr Kp Ka ⊢
  clear hg
  have b1 : (true == true) = true := rfl
  have b2 : (true == false) = false := rfl
  have b3 : (false == true) = false := rfl
  have b4 : (false == false) = true := rfl
  simp -dsimp -implicitDefEqProofs only [go_sem, reduceIte, Nat.reduceEqDiff, Nat.reduceAdd, Nat.reduceSub, Nat.reduceLeDiff, Nat.reduceLT, Nat.reduceMul, Int.reduceToNat, Int.reduceLT, Int.reduceLE, Int.reduceEq, Int.reduceNeg, go_sem]
  refine zcall_eq xf20 (Nat.le_refl _) (Kr _ _) ?_
  have out : R b b = false ∨ R o o = false → R o b = false := by
    intro h1
    cases hob : R o b with
    | false => rfl
    | true => rcases h1 with h1 | h1 <;> simp [T4 hob] at h1
  cases hbb : R b b with
  | false =>
    have hob := out (.inl hbb)
    simp -dsimp -implicitDefEqProofs only [go_sem, reduceIte, Nat.reduceEqDiff, Nat.reduceAdd, Nat.reduceSub, Nat.reduceLeDiff, Nat.reduceLT, Nat.reduceMul, Int.reduceToNat, Int.reduceLT, Int.reduceLE, Int.reduceEq, Int.reduceNeg, go_sem, Bool.not_false]
    refine zcall_eq xf19 (Nat.le_refl _) (K _ _ _) ?_
    simp -dsimp -implicitDefEqProofs only [go_sem, reduceIte, Nat.reduceEqDiff, Nat.reduceAdd, Nat.reduceSub, Nat.reduceLeDiff, Nat.reduceLT, Nat.reduceMul, Int.reduceToNat, Int.reduceLT, Int.reduceLE, Int.reduceEq, Int.reduceNeg, go_sem, hob, b4]
    exact fend_cut (.lit _) ⟨rfl, rfl⟩
  | true =>
  simp -dsimp -implicitDefEqProofs only [go_sem, reduceIte, Nat.reduceEqDiff, Nat.reduceAdd, Nat.reduceSub, Nat.reduceLeDiff, Nat.reduceLT, Nat.reduceMul, Int.reduceToNat, Int.reduceLT, Int.reduceLE, Int.reduceEq, Int.reduceNeg, go_sem, Bool.not_true]
  refine zcall_eq xf20 (Nat.le_refl _) (Kr _ _) ?_
  cases hoo : R o o with
  | false =>
    have hob := out (.inr hoo)
    simp -dsimp -implicitDefEqProofs only [go_sem, reduceIte, Nat.reduceEqDiff, Nat.reduceAdd, Nat.reduceSub, Nat.reduceLeDiff, Nat.reduceLT, Nat.reduceMul, Int.reduceToNat, Int.reduceLT, Int.reduceLE, Int.reduceEq, Int.reduceNeg, go_sem, Bool.not_false]
    refine zcall_eq xf19 (Nat.le_refl _) (K _ _ _) ?_
    simp -dsimp -implicitDefEqProofs only [go_sem, reduceIte, Nat.reduceEqDiff, Nat.reduceAdd, Nat.reduceSub, Nat.reduceLeDiff, Nat.reduceLT, Nat.reduceMul, Int.reduceToNat, Int.reduceLT, Int.reduceLE, Int.reduceEq, Int.reduceNeg, go_sem, hob, b4]
    exact fend_cut (.lit _) ⟨rfl, rfl⟩
  | true =>
  obtain ⟨hb0, hbo, _, _⟩ := (hR _ _).1 hbb
  obtain ⟨ho0, hoo', _, _⟩ := (hR _ _).1 hoo
  obtain ⟨bn, rfl⟩ := Int.eq_ofNat_of_zero_le hb0
  obtain ⟨on, rfl⟩ := Int.eq_ofNat_of_zero_le ho0
  simp only [Int.toNat_natCast] at hbo hoo'
  have Ka' := Ka bn on hbo hoo'
  have Kl' : ∀ h, ACall Tryz.prog 21 [.fptr tcs 0, .lit (.int .i64 (bn : Nat))] h fun r h' => r = .lit (.int .i64 (enc (L bn))) ∧ h' = h := fun h => (Kl bn h).mono fun r h' ⟨e, e'⟩ => ⟨by rw [e, if_pos ⟨hb0, by simpa using hbo⟩]; simp, e'⟩
  clear Ka Kl T4 out
  have hpl : (g.prev.getD bn []).length < 4294967296 := by
    rw [List.getD_eq_getElem?_getD]
    cases hq : g.prev[bn]? with
    | none => simp
    | some l => exact gfit.small.prev l (List.mem_of_getElem? hq)
  have hfix : ∀ c, L bn = some c → ∀ x ∈ g.prev.getD bn [], R x x = true → R c x = true := by
    intro c hc x hx hxx
    obtain ⟨x0, x1, _, _⟩ := (hR _ _).1 hxx
    simp only [Int.toNat_natCast] at x1
    exact (hR _ _).2 ⟨x0, by simpa using x1, by omega, by simpa using D.fix bn c hc x hx x1⟩
  have Kp' := Kp bn
  clear Kp
  generalize g.prev.getD bn [] = P at Kp' hpl hfix
  have RP : ∀ h, IRow h (slV (ints P)) P.length (fun i => ((P.getD i 0 : Nat) : Int)) (fun j => .fptr [.lit (.int .i64 ((P.getD j 0 : Nat) : Int))] 0) := fun h => by rw [ints_icells]; exact .slV
  have Rl : ∀ h (K : AVal → Prop) u, ZLen (slV (ints P)) h K u = K (.lit (.int .i64 P.length)) := fun h => (RP h).len
  have Rf := (RP []).form
  simp -dsimp -implicitDefEqProofs only [go_sem, reduceIte, Nat.reduceEqDiff, Nat.reduceAdd, Nat.reduceSub, Nat.reduceLeDiff, Nat.reduceLT, Nat.reduceMul, Int.reduceToNat, Int.reduceLT, Int.reduceLE, Int.reduceEq, Int.reduceNeg, go_sem, Bool.not_true]
  refine zcall_eq xf21 (Nat.le_refl _) (Kl' _) ?_
  simp -dsimp -implicitDefEqProofs only [go_sem, reduceIte, Nat.reduceEqDiff, Nat.reduceAdd, Nat.reduceSub, Nat.reduceLeDiff, Nat.reduceLT, Nat.reduceMul, Int.reduceToNat, Int.reduceLT, Int.reduceLE, Int.reduceEq, Int.reduceNeg, go_sem]
  refine zcall_eq xf22 (Nat.le_refl _) (Kp' _) ?_
  simp -dsimp -implicitDefEqProofs only [go_sem, reduceIte, Nat.reduceEqDiff, Nat.reduceAdd, Nat.reduceSub, Nat.reduceLeDiff, Nat.reduceLT, Nat.reduceMul, Int.reduceToNat, Int.reduceLT, Int.reduceLE, Int.reduceEq, Int.reduceNeg, go_sem]
  refine zw_loopD (fun k t h2 => ∃ i : Nat, i ≤ P.length ∧ k = P.length - i ∧ h2 = h ++ [some (.rows [f.cells])] ∧ t.get 1 = .lit (.int .i64 (bn : Nat)) ∧ t.get 2 = .lit (.int .i64 (on : Nat)) ∧ t.get 7 = .fptr gcs 0 ∧ t.get 8 = .fptr tcs 0 ∧
      t.get 9 = .lit (.int .i64 (enc (L bn))) ∧ t.get 10 = slV (ints P) ∧ t.get 11 = .lit (.int .i64 i)) P.length
    ⟨0, Nat.zero_le _, rfl, rfl, rfl, rfl, rfl, rfl, rfl, rfl, rfl⟩ ?_
  rintro k t h2 ⟨i, hi, rfl, rfl, t1, t2, t7, t8, t9, t10, t11⟩
  by_cases hl : (i : Int) < (P.length : Int)
  · cases hL : L bn with
    | none =>
      have hk : ¬ (0 : Int) ≤ enc none := by simp [enc]
      rw [hL] at t9
      simp -dsimp -implicitDefEqProofs only [go_sem, reduceIte, Nat.reduceEqDiff, Nat.reduceAdd, Nat.reduceSub, Nat.reduceLeDiff, Nat.reduceLT, Nat.reduceMul, Int.reduceToNat, Int.reduceLT, Int.reduceLE, Int.reduceEq, Int.reduceNeg, go_sem, t1, t2, t7, t8, t9, t10, t11, Rf, Rl, hl, hk, decide_true, decide_false]
      refine zcall_eq xf19 (Nat.le_refl _) (K _ _ _) ?_
      simp -dsimp -implicitDefEqProofs only [go_sem, reduceIte, Nat.reduceEqDiff, Nat.reduceAdd, Nat.reduceSub, Nat.reduceLeDiff, Nat.reduceLT, Nat.reduceMul, Int.reduceToNat, Int.reduceLT, Int.reduceLE, Int.reduceEq, Int.reduceNeg, go_sem, t1, t2, t7, t8]
      refine zcall_eq xf23 (Nat.le_refl _) (Ka' _) ?_
      cases R (on : Int) (bn : Int) <;> (simp -dsimp -implicitDefEqProofs only [go_sem, reduceIte, Nat.reduceEqDiff, Nat.reduceAdd, Nat.reduceSub, Nat.reduceLeDiff, Nat.reduceLT, Nat.reduceMul, Int.reduceToNat, Int.reduceLT, Int.reduceLE, Int.reduceEq, Int.reduceNeg, go_sem, Bool.not_true, Bool.not_false, b1, b2, b3, b4]; exact fend_cut (.lit _) ⟨rfl, rfl⟩)
    | some c =>
      have hk : (0 : Int) ≤ enc (some c) := by simp [enc]
      have hl2 : i < P.length := by omega
      rw [hL] at t9
      have e1 := (RP (h ++ [some (.rows [f.cells])])).idx i hl2
      have e2 := (RP (h ++ [some (.rows [f.cells])])).rd i hl2
      have hw : IntKind.i64.wrap ((i : Int) + 1) = (i : Int) + 1 := wrapI (by omega) (by omega)
      simp -dsimp -implicitDefEqProofs only [go_sem, reduceIte, Nat.reduceEqDiff, Nat.reduceAdd, Nat.reduceSub, Nat.reduceLeDiff, Nat.reduceLT, Nat.reduceMul, Int.reduceToNat, Int.reduceLT, Int.reduceLE, Int.reduceEq, Int.reduceNeg, go_sem, t1, t2, t7, t8, t9, t10, t11, Rf, Rl, hl, hk, decide_true, e1, e2]
      refine zcall_eq xf20 (Nat.le_refl _) (Kr _ _) ?_
      have hmem : P.getD i 0 ∈ P := by
        rw [List.getD_eq_getElem?_getD, List.getElem?_eq_getElem hl2]; exact List.getElem_mem hl2
      cases hxx : R ((P.getD i 0 : Nat) : Int) ((P.getD i 0 : Nat) : Int) with
      | false =>
        simp -dsimp -implicitDefEqProofs only [go_sem, reduceIte, Nat.reduceEqDiff, Nat.reduceAdd, Nat.reduceSub, Nat.reduceLeDiff, Nat.reduceLT, Nat.reduceMul, Int.reduceToNat, Int.reduceLT, Int.reduceLE, Int.reduceEq, Int.reduceNeg, go_sem, t1, t2, t7, t8, t9, t10, t11, Rf, Rl, hw, hL]
        exact ⟨P.length - (i + 1), by omega, i + 1, by omega, rfl, rfl⟩
      | true =>
        have hcx : R (enc (some c)) ((P.getD i 0 : Nat) : Int) = true := hfix c hL _ hmem hxx
        simp -dsimp -implicitDefEqProofs only [go_sem, reduceIte, Nat.reduceEqDiff, Nat.reduceAdd, Nat.reduceSub, Nat.reduceLeDiff, Nat.reduceLT, Nat.reduceMul, Int.reduceToNat, Int.reduceLT, Int.reduceLE, Int.reduceEq, Int.reduceNeg, go_sem, t1, t2, t7, t8, t9, t10, t11, Rf, Rl, e1, e2]
        refine zcall_eq xf19 (Nat.le_refl _) (K _ _ _) ?_
        simp -dsimp -implicitDefEqProofs only [go_sem, reduceIte, Nat.reduceEqDiff, Nat.reduceAdd, Nat.reduceSub, Nat.reduceLeDiff, Nat.reduceLT, Nat.reduceMul, Int.reduceToNat, Int.reduceLT, Int.reduceLE, Int.reduceEq, Int.reduceNeg, go_sem, t1, t2, t7, t8, t9, t10, t11, Rf, Rl, hcx, Bool.not_true, hw, hL]
        exact ⟨P.length - (i + 1), by omega, i + 1, by omega, rfl, rfl⟩
  · simp -dsimp -implicitDefEqProofs only [go_sem, reduceIte, Nat.reduceEqDiff, Nat.reduceAdd, Nat.reduceSub, Nat.reduceLeDiff, Nat.reduceLT, Nat.reduceMul, Int.reduceToNat, Int.reduceLT, Int.reduceLE, Int.reduceEq, Int.reduceNeg, go_sem, t1, t2, t7, t8, t9, t10, t11, Rf, Rl, hl, decide_false]
    refine zcall_eq xf19 (Nat.le_refl _) (K _ _ _) ?_
    simp -dsimp -implicitDefEqProofs only [go_sem, reduceIte, Nat.reduceEqDiff, Nat.reduceAdd, Nat.reduceSub, Nat.reduceLeDiff, Nat.reduceLT, Nat.reduceMul, Int.reduceToNat, Int.reduceLT, Int.reduceLE, Int.reduceEq, Int.reduceNeg, go_sem, t1, t2, t7, t8]
    refine zcall_eq xf23 (Nat.le_refl _) (Ka' _) ?_
    cases R (on : Int) (bn : Int) <;> (simp -dsimp -implicitDefEqProofs only [go_sem, reduceIte, Nat.reduceEqDiff, Nat.reduceAdd, Nat.reduceSub, Nat.reduceLeDiff, Nat.reduceLT, Nat.reduceMul, Int.reduceToNat, Int.reduceLT, Int.reduceLE, Int.reduceEq, Int.reduceNeg, go_sem, Bool.not_true, Bool.not_false, b1, b2, b3, b4]; exact fend_cut (.lit _) ⟨rfl, rfl⟩)
end Go.AL
