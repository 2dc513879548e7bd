/- The graph of a function: New. -/
import Derived.Test.YtjiccnebfbpcgaaGreatDoorR05
set_option linter.unusedSimpArgs false
set_option linter.unusedVariables false
set_option linter.unusedSectionVars false
namespace Go.AL
open Go.Proofs
theorem ALeave.mono {K K' : AHeap → Prop} (hk : ∀ h, K h → K' h) : ∀ {d : List ADef} {h : AHeap}, ALeave d h K → ALeave d h K'
  | [], _, h => hk _ h
  | .mark _ :: _, _, h => ⟨h.1, ALeave.mono hk h.2⟩
  | .call .. :: _, _, h => h.elim
theorem new_ok {fc : List AVal} {x : AVal} {es : List (List AVal)} {bs : List FB} (hf : fc[5]? = some x) (hl : fc.length = 6) (hflat : fc.all AVal.cell1 = true) (hE : ∀ h, Elts h x 11 es) (hlen : es.length = bs.length) (hn32 : bs.length < 4294967296)
    (hes : ∀ (i : Nat) e q, es[i]? = some e → bs[i]? = some q → BlkC e q.1 q.2.1 q.2.2) (h : AHeap) :
    ACall Tryz.prog 16 [.agg fc] h fun r h' => ∃ g : Gr, r = g.val ∧ h' = h ∧ GrOk bs g := by
  obtain ⟨n, hn⟩ : ∃ n, bs.length = n := ⟨_, rfl⟩
  rw [hn] at hn32 hlen
  obtain ⟨r, hd⟩ := drop_cons hf
  refine acall_z mixed xf16 rfl ?_
  unfold xc16 xr16 xn16
  simp -dsimp -implicitDefEqProofs only [go_sem, reduceIte, Nat.reduceEqDiff, Nat.reduceAdd, Nat.reduceSub, Nat.reduceLeDiff, Nat.reduceLT, Nat.reduceMul, Int.reduceToNat, Int.reduceLT, Int.reduceLE, Int.reduceEq, Int.reduceNeg, go_sem, hd, hflat, hl]
  refine ⟨(hE []).form, (hE (h ++ [some (AObj.rows [fc])])).len _ ?_⟩
  simp -dsimp -implicitDefEqProofs only [go_sem, reduceIte, Nat.reduceEqDiff, Nat.reduceAdd, Nat.reduceSub, Nat.reduceLeDiff, Nat.reduceLT, Nat.reduceMul, Int.reduceToNat, Int.reduceLT, Int.reduceLE, Int.reduceEq, Int.reduceNeg, go_sem, hlen]
  refine zw_draw [.rows (List.replicate n [.lit (.slice none 0 0)]), .rows (List.replicate n [.lit (.slice none 0 0)]), .rows (List.replicate n [.lit (.bool false)]),
    .rows [[.slice (h.length + 1) 1 0 n (some n), .slice (h.length + 2) 1 0 n (some n), .lit (.slice none 0 0), .slice (h.length + 3) 1 0 n (some n)]], .rows [[.lit (.pointer none)]]] rfl ?_
  have hle : (n : Int) ≤ 4294967296 := by omega
  simp -dsimp -implicitDefEqProofs only [go_sem, reduceIte, Nat.reduceEqDiff, Nat.reduceAdd, Nat.reduceSub, Nat.reduceLeDiff, Nat.reduceLT, Nat.reduceMul, Int.reduceToNat, Int.reduceLT, Int.reduceLE, Int.reduceEq, Int.reduceNeg, go_sem, hle, hd, hl]
  refine ⟨(hE []).form, Elts.len (hE _) _ ?_⟩
  simp -dsimp -implicitDefEqProofs only [go_sem, reduceIte, Nat.reduceEqDiff, Nat.reduceAdd, Nat.reduceSub, Nat.reduceLeDiff, Nat.reduceLT, Nat.reduceMul, Int.reduceToNat, Int.reduceLT, Int.reduceLE, Int.reduceEq, Int.reduceNeg, go_sem, hlen]
  refine zw_loopW (fun k s => s.n = 86 ∧ ∃ i : Nat, i ≤ n ∧ k = n - i ∧ NewSt h.length h fc n (stN bs i) s.h ∧ Marks (h.length + (6 + (n + n))) s.d s.h ∧ s.t.get 1 = .ptr h.length 0 0 ∧ s.t.get 3 = .lit (.int .i64 n) ∧ s.t.get 4 = .ptr (h.length + 5) 0 0 ∧
      s.t.get 21 = x ∧ s.t.get 22 = .lit (.int .i64 n) ∧ s.t.get 23 = .lit (.int .i64 i)) n ⟨86, _, [], newH h fc n⟩ rfl newH_weak
    ⟨rfl, 0, Nat.zero_le _, rfl, by rw [stN_zero, hn]; exact newSt_start, .nil, by simp -dsimp -implicitDefEqProofs only [go_sem, reduceIte, Nat.reduceEqDiff, Nat.reduceAdd, Nat.reduceSub, Nat.reduceLeDiff, Nat.reduceLT, Nat.reduceMul, Int.reduceToNat, Int.reduceLT, Int.reduceLE, Int.reduceEq, Int.reduceNeg, go_sem], by simp -dsimp -implicitDefEqProofs only [go_sem, reduceIte, Nat.reduceEqDiff, Nat.reduceAdd, Nat.reduceSub, Nat.reduceLeDiff, Nat.reduceLT, Nat.reduceMul, Int.reduceToNat, Int.reduceLT, Int.reduceLE, Int.reduceEq, Int.reduceNeg, go_sem], by simp -dsimp -implicitDefEqProofs only [go_sem, reduceIte, Nat.reduceEqDiff, Nat.reduceAdd, Nat.reduceSub, Nat.reduceLeDiff, Nat.reduceLT, Nat.reduceMul, Int.reduceToNat, Int.reduceLT, Int.reduceLE, Int.reduceEq, Int.reduceNeg, go_sem], by simp -dsimp -implicitDefEqProofs only [go_sem, reduceIte, Nat.reduceEqDiff, Nat.reduceAdd, Nat.reduceSub, Nat.reduceLeDiff, Nat.reduceLT, Nat.reduceMul, Int.reduceToNat, Int.reduceLT, Int.reduceLE, Int.reduceEq, Int.reduceNeg, go_sem], by simp -dsimp -implicitDefEqProofs only [go_sem, reduceIte, Nat.reduceEqDiff, Nat.reduceAdd, Nat.reduceSub, Nat.reduceLeDiff, Nat.reduceLT, Nat.reduceMul, Int.reduceToNat, Int.reduceLT, Int.reduceLE, Int.reduceEq, Int.reduceNeg, go_sem], by simp -dsimp -implicitDefEqProofs only [go_sem, reduceIte, Nat.reduceEqDiff, Nat.reduceAdd, Nat.reduceSub, Nat.reduceLeDiff, Nat.reduceLT, Nat.reduceMul, Int.reduceToNat, Int.reduceLT, Int.reduceLE, Int.reduceEq, Int.reduceNeg, go_sem]; rfl⟩ ?_
  rintro k t d h2 ⟨_, i, hi, rfl, hst, hmk, t1, t3, t4, t21, t22, t23⟩
  have t1 : t.get 1 = .ptr h.length 0 0 := t1
  have t3 : t.get 3 = .lit (.int .i64 n) := t3
  have t4 : t.get 4 = .ptr (h.length + 5) 0 0 := t4
  have t21 : t.get 21 = x := t21
  have t22 : t.get 22 = .lit (.int .i64 n) := t22
  have t23 : t.get 23 = .lit (.int .i64 i) := t23
  have hst : NewSt h.length h fc n (stN bs i) h2 := hst
  have hmk : Marks (h.length + (6 + (n + n))) d h2 := hmk
  have hl2 := hst.len
  simp -dsimp -implicitDefEqProofs only [go_sem, reduceIte, Nat.reduceEqDiff, Nat.reduceAdd, Nat.reduceSub, Nat.reduceLeDiff, Nat.reduceLT, Nat.reduceMul, Int.reduceToNat, Int.reduceLT, Int.reduceLE, Int.reduceEq, Int.reduceNeg, go_sem, t22, t23]
  by_cases hlt : (i : Int) < (n : Int)
  · have hin : i < n := by omega
    have hw : IntKind.i64.wrap ((i : Int) + 1) = (i : Int) + 1 := wrapI (by omega) (by omega)
    have hie : i < es.length := by omega
    have hib : i < bs.length := by omega
    have hb := hes i _ _ (List.getElem?_eq_getElem hie) (List.getElem?_eq_getElem hib)
    simp -dsimp -implicitDefEqProofs only [go_sem, reduceIte, Nat.reduceEqDiff, Nat.reduceAdd, Nat.reduceSub, Nat.reduceLeDiff, Nat.reduceLT, Nat.reduceMul, Int.reduceToNat, Int.reduceLT, Int.reduceLE, Int.reduceEq, Int.reduceNeg, hlt, decide_true, t21, t22, t23]
    refine (hE h2).idx i (es[i]'hie) (by omega) (by simp [hie]) _ _ fun p hp => ?_
    simp -dsimp -implicitDefEqProofs only [go_sem, reduceIte, Nat.reduceEqDiff, Nat.reduceAdd, Nat.reduceSub, Nat.reduceLeDiff, Nat.reduceLT, Nat.reduceMul, Int.reduceToNat, Int.reduceLT, Int.reduceLE, Int.reduceEq, Int.reduceNeg, t21, t22, t23]
    refine hp _ _ _ (by rw [hb.len]; exact Nat.le_refl _) ?_
    have htk : (es[i]'hie).take 11 = es[i]'hie := List.take_of_length_le (by rw [hb.len]; exact Nat.le_refl _)
    have hfe := hb.flat
    have hle2 := hb.len
    simp -dsimp -implicitDefEqProofs only [go_sem, reduceIte, Nat.reduceEqDiff, Nat.reduceAdd, Nat.reduceSub, Nat.reduceLeDiff, Nat.reduceLT, Nat.reduceMul, Int.reduceToNat, Int.reduceLT, Int.reduceLE, Int.reduceEq, Int.reduceNeg, go_sem, t21, t22, t23, htk, hfe, hle2]
    have hta : ((es[i]'hie).drop 3).take 8 |>.all AVal.cell1 := by
      rw [List.all_eq_true]
      intro v hv
      exact List.all_eq_true.1 hfe v (List.mem_of_mem_drop (List.mem_of_mem_take hv))
    refine zcall_eq xf51 (by simp) (targets_ok _ hta _) ?_
    simp -dsimp -implicitDefEqProofs only [go_sem, reduceIte, Nat.reduceEqDiff, Nat.reduceAdd, Nat.reduceSub, Nat.reduceLeDiff, Nat.reduceLT, Nat.reduceMul, Int.reduceToNat, Int.reduceLT, Int.reduceLE, Int.reduceEq, Int.reduceNeg, go_sem]
    refine zw_rangeT rfl (by simp -dsimp -implicitDefEqProofs only [go_sem, reduceIte, Nat.reduceEqDiff, Nat.reduceAdd, Nat.reduceSub, Nat.reduceLeDiff, Nat.reduceLT, Nat.reduceMul, Int.reduceToNat, Int.reduceLT, Int.reduceLE, Int.reduceEq, Int.reduceNeg, go_sem]; rfl) (xfunc_ok xf117).1 ?_
    intro T hT
    simp -dsimp -implicitDefEqProofs only [go_sem, reduceIte, Nat.reduceEqDiff, Nat.reduceAdd, Nat.reduceSub, Nat.reduceLeDiff, Nat.reduceLT, Nat.reduceMul, Int.reduceToNat, Int.reduceLT, Int.reduceLE, Int.reduceEq, Int.reduceNeg, go_sem]
    have T1 : T.get 1 = .ptr h.length 0 0 := by rw [hT]; simp -dsimp -implicitDefEqProofs only [go_sem, reduceIte, Nat.reduceEqDiff, Nat.reduceAdd, Nat.reduceSub, Nat.reduceLeDiff, Nat.reduceLT, Nat.reduceMul, Int.reduceToNat, Int.reduceLT, Int.reduceLE, Int.reduceEq, Int.reduceNeg, go_sem, t1]
    have T3 : T.get 3 = .lit (.int .i64 n) := by rw [hT]; simp -dsimp -implicitDefEqProofs only [go_sem, reduceIte, Nat.reduceEqDiff, Nat.reduceAdd, Nat.reduceSub, Nat.reduceLeDiff, Nat.reduceLT, Nat.reduceMul, Int.reduceToNat, Int.reduceLT, Int.reduceLE, Int.reduceEq, Int.reduceNeg, go_sem, t3]
    have T4 : T.get 4 = .ptr (h.length + 5) 0 0 := by rw [hT]; simp -dsimp -implicitDefEqProofs only [go_sem, reduceIte, Nat.reduceEqDiff, Nat.reduceAdd, Nat.reduceSub, Nat.reduceLeDiff, Nat.reduceLT, Nat.reduceMul, Int.reduceToNat, Int.reduceLT, Int.reduceLE, Int.reduceEq, Int.reduceNeg, go_sem, t4]
    have T5 : T.get 5 = .ptr h2.length 0 0 := by rw [hT]; simp -dsimp -implicitDefEqProofs only [go_sem, reduceIte, Nat.reduceEqDiff, Nat.reduceAdd, Nat.reduceSub, Nat.reduceLeDiff, Nat.reduceLT, Nat.reduceMul, Int.reduceToNat, Int.reduceLT, Int.reduceLE, Int.reduceEq, Int.reduceNeg, go_sem]
    have T21 : T.get 21 = x := by rw [hT]; simp -dsimp -implicitDefEqProofs only [go_sem, reduceIte, Nat.reduceEqDiff, Nat.reduceAdd, Nat.reduceSub, Nat.reduceLeDiff, Nat.reduceLT, Nat.reduceMul, Int.reduceToNat, Int.reduceLT, Int.reduceLE, Int.reduceEq, Int.reduceNeg, go_sem, t21]
    have T22 : T.get 22 = .lit (.int .i64 n) := by rw [hT]; simp -dsimp -implicitDefEqProofs only [go_sem, reduceIte, Nat.reduceEqDiff, Nat.reduceAdd, Nat.reduceSub, Nat.reduceLeDiff, Nat.reduceLT, Nat.reduceMul, Int.reduceToNat, Int.reduceLT, Int.reduceLE, Int.reduceEq, Int.reduceNeg, go_sem, t22]
    have T23 : T.get 23 = .lit (.int .i64 i) := by rw [hT]; simp -dsimp -implicitDefEqProofs only [go_sem, reduceIte, Nat.reduceEqDiff, Nat.reduceAdd, Nat.reduceSub, Nat.reduceLeDiff, Nat.reduceLT, Nat.reduceMul, Int.reduceToNat, Int.reduceLT, Int.reduceLE, Int.reduceEq, Int.reduceNeg, go_sem, t23]
    clear hT
    obtain ⟨xb, hxb, hB⟩ := hb.xb
    obtain ⟨xa, hxa, hA⟩ := hb.xa
    generalize hH0 : h2 ++ [some (.rows [[.lit (.int .i64 i)]]), some (.rows [es[i]'hie]), some (.rows [((es[i]'hie).drop 3).take 8]), some .defd, some (.loop 86 T #[31] (bodyAt Tryz.prog 16 [1, 1, 1, 0, 1, 0, 0, 1, 1, 0, 0, 1, 1, 0, 0]) (bodyAt Tryz.prog 16 [1, 1, 1, 0, 1, 0, 0, 1, 1, 0, 0, 1, 1, 0, 1]) .ready none (h2.length + 3))] = H0
    have q0 : hget H0 h2.length = some (.rows [[.lit (.int .i64 i)]]) := by rw [← hH0]; simp -dsimp -implicitDefEqProofs only [go_sem, reduceIte, Nat.reduceEqDiff, Nat.reduceAdd, Nat.reduceSub, Nat.reduceLeDiff, Nat.reduceLT, Nat.reduceMul, Int.reduceToNat, Int.reduceLT, Int.reduceLE, Int.reduceEq, Int.reduceNeg, go_sem]
    have q2 : hget H0 (h2.length + 2) = some (.rows [((es[i]'hie).drop 3).take 8]) := by rw [← hH0]; simp -dsimp -implicitDefEqProofs only [go_sem, reduceIte, Nat.reduceEqDiff, Nat.reduceAdd, Nat.reduceSub, Nat.reduceLeDiff, Nat.reduceLT, Nat.reduceMul, Int.reduceToNat, Int.reduceLT, Int.reduceLE, Int.reduceEq, Int.reduceNeg, go_sem]
    have q3 : hget H0 (h2.length + 3) = some .defd := by rw [← hH0]; simp -dsimp -implicitDefEqProofs only [go_sem, reduceIte, Nat.reduceEqDiff, Nat.reduceAdd, Nat.reduceSub, Nat.reduceLeDiff, Nat.reduceLT, Nat.reduceMul, Int.reduceToNat, Int.reduceLT, Int.reduceLE, Int.reduceEq, Int.reduceNeg, go_sem]
    have q4 : hget H0 (h2.length + 4) = some (.loop 86 T #[31] (bodyAt Tryz.prog 16 [1, 1, 1, 0, 1, 0, 0, 1, 1, 0, 0, 1, 1, 0, 0]) (bodyAt Tryz.prog 16 [1, 1, 1, 0, 1, 0, 0, 1, 1, 0, 0, 1, 1, 0, 1]) .ready none (h2.length + 3)) := by rw [← hH0]; simp -dsimp -implicitDefEqProofs only [go_sem, reduceIte, Nat.reduceEqDiff, Nat.reduceAdd, Nat.reduceSub, Nat.reduceLeDiff, Nat.reduceLT, Nat.reduceMul, Int.reduceToNat, Int.reduceLT, Int.reduceLE, Int.reduceEq, Int.reduceNeg, go_sem]
    have lH0 : H0.length = h2.length + 5 := by rw [← hH0]; simp
    have sH0 : NewSt h.length h fc n (stN bs i) H0 := by rw [← hH0]; exact hst.snoc
    have oH0 : ∀ a, a < h2.length → hget H0 a = hget h2 a := fun a ha => by rw [← hH0]; exact hget_append_old ha
    clear hH0
    have e6 : ((((es[i]'hie).drop 3).take 8)[6]? : Option AVal) = some xb := by rw [List.getElem?_take, if_pos (by omega), List.getElem?_drop]; exact hxb
    have e7 : ((((es[i]'hie).drop 3).take 8)[7]? : Option AVal) = some xa := by rw [List.getElem?_take, if_pos (by omega), List.getElem?_drop]; exact hxa
    have key := targets1_ok (Y := .yieldf (h2.length + 4)) (I := fun j h3 => NewSt h.length h fc n (((FB.tg (bs[i]'hib)).take j).foldl (addN (bs.map (·.1)) i) (stN bs i)) h3 ∧ H0.length ≤ h3.length ∧ ∀ a, h.length + (6 + (n + n)) ≤ a → a < H0.length → hget h3 a = hget H0 a)
      (a := h2.length + 2) (by simp [hle2]) e6 e7 hB hA hb.lb hb.la (fun j h3 hI => by rw [hI.2.2 _ (by omega) (by omega)]; exact q2) (fun j h3 o hI => ⟨hI.1.snoc, by rw [List.length_append]; omega, fun a ha hb => by rw [hget_append_old (by omega)]; exact hI.2.2 a ha hb⟩)
      (fun j s h3 hs hI => ?_) H0 ⟨by rw [List.take_zero]; exact sH0, Nat.le_refl _, fun a _ _ => rfl⟩
    · refine key.mono fun v h3 ⟨k1, k2, k3, k4⟩ => ?_
      rw [show ((bs[i]'hib).2.1 ++ (bs[i]'hib).2.2.map (·.2.2)) = FB.tg (bs[i]'hib) from rfl, List.take_length, ← stN_succ hib] at k2
      refine ⟨.ready, none, by rw [k4 _ (by omega) (by omega)]; exact q4, (fun e => by cases e), by omega, ?_⟩
      simp -dsimp -implicitDefEqProofs only [go_sem, reduceIte, Nat.reduceEqDiff, Nat.reduceAdd, Nat.reduceSub, Nat.reduceLeDiff, Nat.reduceLT, Nat.reduceMul, Int.reduceToNat, Int.reduceLT, Int.reduceLE, Int.reduceEq, Int.reduceNeg, go_sem, T23, hw]
      refine ⟨_, _, ?_, rfl, Weaker.refl _, rfl, i + 1, by omega, rfl, k2.set (by omega), ?_, ?_⟩
      · omega
      · refine hmk.more (a := h2.length + 3) (by omega) ?_ ?_ fun a ha hd => ?_
        · unfold hget; rw [List.getElem?_eq_none (by omega)]; rfl
        · rw [hget_set_ne (by omega), k4 _ (by omega) (by omega)]; exact q3
        · have := hget_lt hd
          rw [hget_set_ne (by omega), k4 _ ha (by omega), oH0 a this]; exact hd
      · exact ⟨by simp -dsimp -implicitDefEqProofs only [go_sem, reduceIte, Nat.reduceEqDiff, Nat.reduceAdd, Nat.reduceSub, Nat.reduceLeDiff, Nat.reduceLT, Nat.reduceMul, Int.reduceToNat, Int.reduceLT, Int.reduceLE, Int.reduceEq, Int.reduceNeg, go_sem, T1], by simp -dsimp -implicitDefEqProofs only [go_sem, reduceIte, Nat.reduceEqDiff, Nat.reduceAdd, Nat.reduceSub, Nat.reduceLeDiff, Nat.reduceLT, Nat.reduceMul, Int.reduceToNat, Int.reduceLT, Int.reduceLE, Int.reduceEq, Int.reduceNeg, go_sem, T3], by simp -dsimp -implicitDefEqProofs only [go_sem, reduceIte, Nat.reduceEqDiff, Nat.reduceAdd, Nat.reduceSub, Nat.reduceLeDiff, Nat.reduceLT, Nat.reduceMul, Int.reduceToNat, Int.reduceLT, Int.reduceLE, Int.reduceEq, Int.reduceNeg, go_sem, T4], by simp -dsimp -implicitDefEqProofs only [go_sem, reduceIte, Nat.reduceEqDiff, Nat.reduceAdd, Nat.reduceSub, Nat.reduceLeDiff, Nat.reduceLT, Nat.reduceMul, Int.reduceToNat, Int.reduceLT, Int.reduceLE, Int.reduceEq, Int.reduceNeg, go_sem, T21], by simp -dsimp -implicitDefEqProofs only [go_sem, reduceIte, Nat.reduceEqDiff, Nat.reduceAdd, Nat.reduceSub, Nat.reduceLeDiff, Nat.reduceLT, Nat.reduceMul, Int.reduceToNat, Int.reduceLT, Int.reduceLE, Int.reduceEq, Int.reduceNeg, go_sem, T22], by simp -dsimp -implicitDefEqProofs only [go_sem, reduceIte, Nat.reduceEqDiff, Nat.reduceAdd, Nat.reduceSub, Nat.reduceLeDiff, Nat.reduceLT, Nat.reduceMul, Int.reduceToNat, Int.reduceLT, Int.reduceLE, Int.reduceEq, Int.reduceNeg, go_sem]; rfl⟩
    · obtain ⟨i1, i2, i3⟩ := hI
      have hsd : Sides n (((FB.tg (bs[i]'hib)).take j).foldl (addN (bs.map (·.1)) i) (stN bs i)) := Sides.addL (by simp [hn]) hin _ (by have := stN_sides (bs := bs) i; rwa [hn] at this)
      have rd := round_ok (s := s) hf hl hflat hE hn (by omega) hn32 hes T1 T4 T5 hin (by omega) hsd i1 (by rw [i3 _ (by omega) (by omega)]; exact q0) (by rw [i3 _ (by omega) (by omega)]; exact q4)
      refine acallv_mono (fun v h4 ⟨k1, k2, k3, k4⟩ => ⟨k1, k2, ?_, by omega, fun a ha hb => by rw [k4 a ha (by omega)]; exact i3 a ha hb⟩) rd
      rw [List.take_add_one, List.foldl_append]
      have hs : (FB.tg (bs[i]'hib))[j]? = some s := hs
      rw [hs]
      exact k3
  · have hin : i = n := by omega
    subst hin
    simp -dsimp -implicitDefEqProofs only [go_sem, reduceIte, Nat.reduceEqDiff, Nat.reduceAdd, Nat.reduceSub, Nat.reduceLeDiff, Nat.reduceLT, Nat.reduceMul, Int.reduceToNat, Int.reduceLT, Int.reduceLE, Int.reduceEq, Int.reduceNeg, hlt, decide_false, t3]
    have hsd : Sides i (stN bs i) := by have := stN_sides (bs := bs) i; rwa [hn] at this
    -- what is left, and how it is known for good
    have fin : ∀ (h3 : AHeap) (ord : List Nat) (re : List Bool) (oV : AVal) (A : Nat), h2.length ≤ h3.length → (∀ a, a < h2.length → a ≠ h.length + 4 → a ≠ h.length + 3 → h3[a]? = h2[a]?) → hget h3 (h.length + 3) = some (.rows (boolsV re)) → re.length = i →
        hget h3 (h.length + 4) = some (.rows [[.slice (h.length + 1) 1 0 i (some i), .slice (h.length + 2) 1 0 i (some i), oV, .slice (h.length + 3) 1 0 i (some i)]]) →
        ((ord = [] ∧ oV = .lit (.slice none 0 0)) ∨ (ord ≠ [] ∧ oV = .slice A 1 0 ord.length none ∧ hget h3 A = some (.rows (ints ord)) ∧ h2.length ≤ A)) → GrOk bs ⟨(stN bs i).1, (stN bs i).2, ord, re⟩ →
        ALeave d h3 fun h4 => hget h4 (h.length + 5) = some (.rows [[.ptr (h.length + 4) 0 0]]) ∧ FEnd h (fun r h' => ∃ g : Gr, r = g.val ∧ h' = h ∧ GrOk bs g) (.ptr (h.length + 4) 0 0) h4 := by
      intro h3 ord re oV A e1 e2 e3 e4 e5 e6 e7
      refine Marks.leave (mm := h.length + (6 + (i + i))) (hmk.keep fun a ha hd => ?_) fun h4 l4 o4 => ?_
      · have := hget_lt hd
        rw [hget_of (e2 a this (by omega) (by omega))]; exact hd
      · have o5 : ∀ a, a < h.length + (6 + (i + i)) → a ≠ h.length + 4 → a ≠ h.length + 3 → hget h4 a = hget h2 a := fun a ha n1 n2 => by rw [hget_of (o4 a (.inl ha)), hget_of (e2 a (by omega) n1 n2)]
        refine ⟨by rw [o5 _ (by omega) (by omega) (by omega)]; exact hst.p, ?_⟩
        have hA4 : ∀ A, hget h3 A = some (.rows (ints ord)) → h2.length ≤ A → hget h4 A = some (.rows (ints ord)) := by
          intro A hA _
          rw [hget_of (o4 A (.inr (by rw [hA]; simp)))]; exact hA
        obtain ⟨h5, f1, f2, f3⟩ := freeze_graph (m := h.length) (N := h.length + 1) (P := h.length + 2) (G := h.length + 4) (R := h.length + 3) (A := A) (n := i) (h := h4) (nx := (stN bs i).1) (pv := (stN bs i).2) (ord := ord) (re := re) (oV := oV)
          (by rw [o5 _ (by omega) (by omega) (by omega)]; exact hst.N) (by rw [o5 _ (by omega) (by omega) (by omega)]; exact hst.P) (by rw [hget_of (o4 _ (.inl (by omega)))]; exact e3) e4 (by rw [hget_of (o4 _ (.inl (by omega)))]; exact e5)
          (by
            rcases e6 with e6 | ⟨k1, k2, k3, k4⟩
            · exact .inl e6
            · exact .inr ⟨k1, k2, hA4 _ k3 k4, by omega, by omega, by omega, by omega, by omega⟩)
          hsd.l1 hsd.l2 (by omega) (by omega) (by omega) (by omega) (by omega) (by omega) (by omega) (by omega) (by omega) (by omega)
        have htk : h5.take h.length = h := by
          rw [f2]
          refine Eq.trans ?_ hst.take
          apply List.ext_getElem?
          intro a
          simp only [List.getElem?_take]
          split
          · rw [o4 a (.inl (by omega)), e2 a (by omega) (by omega) (by omega)]
          · rfl
        refine ⟨_, h5, f1, .inr ⟨h.length, Nat.le_refl _, by omega, Gr.val_below _, fun a o ho ha => .inl ⟨ha, ?_⟩, ⟨_, rfl, htk, e7⟩⟩⟩
        rw [← hget_take_eq (h := h5) (h0 := h) (m := h.length) (by rw [htk, List.take_length]) ha]; exact ho
    by_cases h0 : (0 : Int) < (i : Int)
    · simp -dsimp -implicitDefEqProofs only [go_sem, reduceIte, Nat.reduceEqDiff, Nat.reduceAdd, Nat.reduceSub, Nat.reduceLeDiff, Nat.reduceLT, Nat.reduceMul, Int.reduceToNat, Int.reduceLT, Int.reduceLE, Int.reduceEq, Int.reduceNeg, h0, decide_true, t4, hst.p]
      refine zcall_any xf54 (visit_ok (n := i) (N := h.length + 1) (G := h.length + 4) (R := h.length + 3) (b0 := h.length + 6) (r := fun j => (stN bs i).1.getD j []) hst.G hst.N hst.R (by omega) (by omega) (by omega) (by omega) hn32 (fun j k hk => (hsd.lt1 j k hk).2) (fun j => ?_)) ?_
      · have := (hsd.nd1 j).length_le_of_subset (l₂ := List.range i) fun k hk => List.mem_range.2 (hsd.lt1 j k hk).2
        rwa [List.length_range] at this
      · rintro v h3 ⟨v1, v2, ord, re, A, v3, v4, v5, v6, v7, v8⟩
        refine ⟨v1, ?_⟩
        have v9 : hget h3 (h.length + 5) = some (.rows [[.ptr (h.length + 4) 0 0]]) := by rw [hget_of (v2 _ (by omega) (by omega) (by omega))]; exact hst.p
        have hb : bcells i re = boolsV ((List.range i).map re) := by simp [bcells, boolsV]
        have hne : ord ≠ [] := fun e => by have := v3.head; rw [e] at this; cases this
        have hfin := fin h3 ord ((List.range i).map re) _ A v1 v2 (by rw [← hb]; exact v7) (by simp) v6 (.inr ⟨hne, rfl, v8, v5⟩) ⟨by rw [hn], by rw [hn], by simp [hn], fun j => ?_, .inr (by rw [hn]; exact v3)⟩
        · simp -dsimp -implicitDefEqProofs only [go_sem, reduceIte, Nat.reduceEqDiff, Nat.reduceAdd, Nat.reduceSub, Nat.reduceLeDiff, Nat.reduceLT, Nat.reduceMul, Int.reduceToNat, Int.reduceLT, Int.reduceLE, Int.reduceEq, Int.reduceNeg, go_sem, t4, v9]
          refine ALeave.mono (fun h4 hk => ?_) hfin
          simp -dsimp -implicitDefEqProofs only [go_sem, reduceIte, Nat.reduceEqDiff, Nat.reduceAdd, Nat.reduceSub, Nat.reduceLeDiff, Nat.reduceLT, Nat.reduceMul, Int.reduceToNat, Int.reduceLT, Int.reduceLE, Int.reduceEq, Int.reduceNeg, go_sem]
          exact hk.2
        · show ((List.range i).map re)[j]? = some true ↔ j ∈ ord
          rw [← v4 j]
          by_cases hj : j < i
          · simp [hj]
          · simp only [List.getElem?_map, List.getElem?_eq_none (l := List.range i) (i := j) (by simp; omega), Option.map_none, reduceCtorEq, false_iff]
            intro e
            exact hj (v3.lt j ((v4 j).1 e))
    · have hi0 : i = 0 := by omega
      subst hi0
      have hbs : bs = [] := List.length_eq_zero_iff.1 hn
      simp -dsimp -implicitDefEqProofs only [go_sem, reduceIte, Nat.reduceEqDiff, Nat.reduceAdd, Nat.reduceSub, Nat.reduceLeDiff, Nat.reduceLT, Nat.reduceMul, Int.reduceToNat, Int.reduceLT, Int.reduceLE, Int.reduceEq, Int.reduceNeg, h0, decide_false, t4, hst.p]
      have hfin := fin h2 [] [] _ 0 (Nat.le_refl _) (fun a _ _ _ => rfl) hst.R rfl hst.G (.inl ⟨rfl, rfl⟩) ⟨by rw [hn], by rw [hn], by simp [hn], fun j => by simp, .inl ⟨hbs, rfl⟩⟩
      refine ALeave.mono (fun h4 hk => ?_) hfin
      simp -dsimp -implicitDefEqProofs only [go_sem, reduceIte, Nat.reduceEqDiff, Nat.reduceAdd, Nat.reduceSub, Nat.reduceLeDiff, Nat.reduceLT, Nat.reduceMul, Int.reduceToNat, Int.reduceLT, Int.reduceLE, Int.reduceEq, Int.reduceNeg, go_sem]
      exact hk.2
end Go.AL
