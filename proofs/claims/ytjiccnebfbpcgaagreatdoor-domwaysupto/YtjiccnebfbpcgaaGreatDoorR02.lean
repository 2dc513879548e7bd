/- The names of a block's targets, one behind the other. -/
import Derived.Test.YtjiccnebfbpcgaaGreatDoorR01
set_option linter.unusedSimpArgs false
set_option linter.unusedVariables false
set_option linter.unusedSectionVars false
namespace Go.AL
open Go.Proofs
theorem targets_ok (tc : List AVal) (hf : tc.all AVal.cell1 = true) (h : AHeap) : ACall Tryz.prog 51 [.agg tc] h fun v h' => v = .func (.func 117) [] [.ptr h.length 0 0] ∧ h' = h ++ [some (.rows [tc])] := by
  refine acall_z mixed xf51 rfl ?_
  unfold xc51 xr51 xn51
  simp -dsimp -implicitDefEqProofs only [go_sem, reduceIte, Nat.reduceEqDiff, Nat.reduceAdd, Nat.reduceSub, Nat.reduceLeDiff, Nat.reduceLT, Nat.reduceMul, Int.reduceToNat, Int.reduceLT, Int.reduceLE, Int.reduceEq, Int.reduceNeg, go_sem, hf]
  exact .all ⟨rfl, rfl⟩
def strs (l : List (List UInt8)) : List (List AVal) := l.map fun s => [.str s]
def armsV (l : List (List UInt8 × List UInt8 × List UInt8)) : List (List AVal) := l.map fun q => [.str q.1, .str q.2.1, .str q.2.2]
theorem targets1_ok {Y : AVal} {I : Nat → AHeap → Prop} {a : Nat} {tc : List AVal} {xb xa : AVal} {bn : List (List UInt8)} {arms : List (List UInt8 × List UInt8 × List UInt8)} (hl : tc.length = 8) (hb : tc[6]? = some xb) (ha : tc[7]? = some xa)
    (hB : ∀ h, Elts h xb 1 (strs bn)) (hA : ∀ h, Elts h xa 3 (armsV arms)) (hbl : bn.length < 4294967296) (hal : arms.length < 4294967296)
    (hI : ∀ j h, I j h → hget h a = some (.rows [tc])) (hgrow : ∀ j h o, I j h → I j (h ++ [o]))
    (hy : ∀ j s h, (bn ++ arms.map (·.2.2))[j]? = some s → I j h → ACallV Tryz.prog Y [.str s] h fun v h' => h.length ≤ h'.length ∧ v = .lit (.bool true) ∧ I (j + 1) h')
    (h : AHeap) (h0 : I 0 h) : ACall Tryz.prog 117 [Y, .ptr a 0 0] h fun _ h' => h.length ≤ h'.length ∧ I (bn ++ arms.map (·.2.2)).length h' := by
  obtain ⟨r6, hd6⟩ := drop_cons hb
  obtain ⟨r7, hd7⟩ := drop_cons ha
  have hs : (strs bn).length = bn.length := by simp [strs]
  have hs2 : (armsV arms).length = arms.length := by simp [armsV]
  refine acall_z mixed xf117 rfl ?_
  unfold xc117 xr117 xn117
  simp -dsimp -implicitDefEqProofs only [go_sem, reduceIte, Nat.reduceEqDiff, Nat.reduceAdd, Nat.reduceSub, Nat.reduceLeDiff, Nat.reduceLT, Nat.reduceMul, Int.reduceToNat, Int.reduceLT, Int.reduceLE, Int.reduceEq, Int.reduceNeg, go_sem, hI _ _ h0, hd6, hl]
  refine ⟨(hB []).form, (hB h).len _ ?_⟩
  simp -dsimp -implicitDefEqProofs only [go_sem, reduceIte, Nat.reduceEqDiff, Nat.reduceAdd, Nat.reduceSub, Nat.reduceLeDiff, Nat.reduceLT, Nat.reduceMul, Int.reduceToNat, Int.reduceLT, Int.reduceLE, Int.reduceEq, Int.reduceNeg, go_sem, hs]
  refine zw_loopD (fun k t h2 => ∃ j : Nat, j ≤ bn.length ∧ k = bn.length - j ∧ h.length ≤ h2.length ∧ I j h2 ∧ t.get 0 = Y ∧ t.get 1 = .ptr a 0 0 ∧ t.get 8 = xb ∧ t.get 9 = .lit (.int .i64 bn.length) ∧ t.get 10 = .lit (.int .i64 j)) bn.length ⟨0, by omega, by omega, Nat.le_refl _, h0, rfl, rfl, rfl, rfl, rfl⟩ ?_
  rintro k t h2 ⟨j, hj, rfl, hle, hi, t0, t1, t8, t9, t10⟩
  simp -dsimp -implicitDefEqProofs only [go_sem, reduceIte, Nat.reduceEqDiff, Nat.reduceAdd, Nat.reduceSub, Nat.reduceLeDiff, Nat.reduceLT, Nat.reduceMul, Int.reduceToNat, Int.reduceLT, Int.reduceLE, Int.reduceEq, Int.reduceNeg, go_sem, t0, t1, t8, t9, t10]
  by_cases hlt : (j : Int) < (bn.length : Int)
  · have hl2 : j < bn.length := by omega
    have hw : IntKind.i64.wrap ((j : Int) + 1) = (j : Int) + 1 := wrap64_small (by omega) (by omega)
    simp -dsimp -implicitDefEqProofs only [go_sem, reduceIte, Nat.reduceEqDiff, Nat.reduceAdd, Nat.reduceSub, Nat.reduceLeDiff, Nat.reduceLT, Nat.reduceMul, Int.reduceToNat, Int.reduceLT, Int.reduceLE, Int.reduceEq, Int.reduceNeg, hlt, decide_true, t0, t1, t8, t9, t10]
    refine (hB h2).idx j [.str (bn[j]'hl2)] (by omega) (by simp [strs, hl2]) _ _ fun p hp => ?_
    simp -dsimp -implicitDefEqProofs only [go_sem, reduceIte, Nat.reduceEqDiff, Nat.reduceAdd, Nat.reduceSub, Nat.reduceLeDiff, Nat.reduceLT, Nat.reduceMul, Int.reduceToNat, Int.reduceLT, Int.reduceLE, Int.reduceEq, Int.reduceNeg, t0, t1, t8, t9, t10]
    refine hp _ _ _ (Nat.le_refl _) ?_
    simp -dsimp -implicitDefEqProofs only [go_sem, reduceIte, Nat.reduceEqDiff, Nat.reduceAdd, Nat.reduceSub, Nat.reduceLeDiff, Nat.reduceLT, Nat.reduceMul, Int.reduceToNat, Int.reduceLT, Int.reduceLE, Int.reduceEq, Int.reduceNeg, t0, t1, t8, t9, t10]
    refine zcallV_of (hy j (bn[j]'hl2) h2 (by rw [List.getElem?_append_left hl2, List.getElem?_eq_getElem hl2]) hi) fun v h3 hk => ⟨hk.1, ?_⟩
    obtain ⟨k1, rfl, k2⟩ := hk
    simp -dsimp -implicitDefEqProofs only [go_sem, reduceIte, Nat.reduceEqDiff, Nat.reduceAdd, Nat.reduceSub, Nat.reduceLeDiff, Nat.reduceLT, Nat.reduceMul, Int.reduceToNat, Int.reduceLT, Int.reduceLE, Int.reduceEq, Int.reduceNeg, t0, t1, t8, t9, t10, hw]
    exact ⟨bn.length - (j + 1), by omega, j + 1, by omega, rfl, by omega, k2, rfl⟩
  · have hj2 : j = bn.length := by omega
    subst hj2
    simp -dsimp -implicitDefEqProofs only [go_sem, reduceIte, Nat.reduceEqDiff, Nat.reduceAdd, Nat.reduceSub, Nat.reduceLeDiff, Nat.reduceLT, Nat.reduceMul, Int.reduceToNat, Int.reduceLT, Int.reduceLE, Int.reduceEq, Int.reduceNeg, hlt, decide_false, t0, t1, t8, t9, t10, hI _ _ hi, hd7, hl]
    refine ⟨(hA []).form, (hA h2).len _ ?_⟩
    simp -dsimp -implicitDefEqProofs only [go_sem, reduceIte, Nat.reduceEqDiff, Nat.reduceAdd, Nat.reduceSub, Nat.reduceLeDiff, Nat.reduceLT, Nat.reduceMul, Int.reduceToNat, Int.reduceLT, Int.reduceLE, Int.reduceEq, Int.reduceNeg, go_sem, hs2, t0, t1]
    refine zw_loopD (fun k t h2 => ∃ j : Nat, j ≤ arms.length ∧ k = arms.length - j ∧ h.length ≤ h2.length ∧ I (bn.length + j) h2 ∧ t.get 0 = Y ∧ t.get 20 = xa ∧ t.get 21 = .lit (.int .i64 arms.length) ∧ t.get 22 = .lit (.int .i64 j)) arms.length ⟨0, by omega, by omega, hle, hi, by simp [ATab.get_set, t0], by simp [ATab.get_set], by simp [ATab.get_set], by simp [ATab.get_set]⟩ ?_
    clear t0 t1 t8 t9 t10
    rintro k t h2 ⟨j, hj, rfl, hle, hi, t0, t20, t21, t22⟩
    simp -dsimp -implicitDefEqProofs only [go_sem, reduceIte, Nat.reduceEqDiff, Nat.reduceAdd, Nat.reduceSub, Nat.reduceLeDiff, Nat.reduceLT, Nat.reduceMul, Int.reduceToNat, Int.reduceLT, Int.reduceLE, Int.reduceEq, Int.reduceNeg, go_sem, t0, t20, t21, t22]
    by_cases hlt : (j : Int) < (arms.length : Int)
    · have hl2 : j < arms.length := by omega
      have hw : IntKind.i64.wrap ((j : Int) + 1) = (j : Int) + 1 := wrap64_small (by omega) (by omega)
      simp -dsimp -implicitDefEqProofs only [go_sem, reduceIte, Nat.reduceEqDiff, Nat.reduceAdd, Nat.reduceSub, Nat.reduceLeDiff, Nat.reduceLT, Nat.reduceMul, Int.reduceToNat, Int.reduceLT, Int.reduceLE, Int.reduceEq, Int.reduceNeg, hlt, decide_true, t0, t20, t21, t22]
      refine (hA h2).idx j [.str (arms[j]'hl2).1, .str (arms[j]'hl2).2.1, .str (arms[j]'hl2).2.2] (by omega) (by simp [armsV, hl2]) _ _ fun p hp => ?_
      simp -dsimp -implicitDefEqProofs only [go_sem, reduceIte, Nat.reduceEqDiff, Nat.reduceAdd, Nat.reduceSub, Nat.reduceLeDiff, Nat.reduceLT, Nat.reduceMul, Int.reduceToNat, Int.reduceLT, Int.reduceLE, Int.reduceEq, Int.reduceNeg, t0, t20, t21, t22]
      refine hp _ _ _ (Nat.le_refl _) ?_
      simp -dsimp -implicitDefEqProofs only [go_sem, reduceIte, Nat.reduceEqDiff, Nat.reduceAdd, Nat.reduceSub, Nat.reduceLeDiff, Nat.reduceLT, Nat.reduceMul, Int.reduceToNat, Int.reduceLT, Int.reduceLE, Int.reduceEq, Int.reduceNeg, go_sem, t0, t20, t21, t22]
      refine zcallV_of (hy (bn.length + j) (arms[j]'hl2).2.2 _ (by rw [List.getElem?_append_right (by omega)]; simp [hl2]) (hgrow _ _ _ hi)) fun v h3 hk => ⟨hk.1, ?_⟩
      obtain ⟨k1, rfl, k2⟩ := hk
      rw [List.length_append] at k1
      simp -dsimp -implicitDefEqProofs only [go_sem, reduceIte, Nat.reduceEqDiff, Nat.reduceAdd, Nat.reduceSub, Nat.reduceLeDiff, Nat.reduceLT, Nat.reduceMul, Int.reduceToNat, Int.reduceLT, Int.reduceLE, Int.reduceEq, Int.reduceNeg, go_sem, t0, t20, t21, t22, hw]
      exact ⟨arms.length - (j + 1), by omega, j + 1, by omega, rfl, by omega, k2, rfl⟩
    · have hj2 : j = arms.length := by omega
      subst hj2
      simp -dsimp -implicitDefEqProofs only [go_sem, reduceIte, Nat.reduceEqDiff, Nat.reduceAdd, Nat.reduceSub, Nat.reduceLeDiff, Nat.reduceLT, Nat.reduceMul, Int.reduceToNat, Int.reduceLT, Int.reduceLE, Int.reduceEq, Int.reduceNeg, hlt, decide_false, t0, t20, t21, t22]
      exact .all ⟨hle, by rw [List.length_map]; exact hi⟩
end Go.AL
namespace Go.AL
open Go.Proofs
def gsCells (n b : Nat) (r : Nat → List Nat) : List (List AVal) := (List.range n).map fun i => [.gs (b + i) 1 (ints (r i))]
theorem gsCells_get {n b j : Nat} {r : Nat → List Nat} (hj : j < n) : (gsCells n b r)[j]? = some [.gs (b + j) 1 (ints (r j))] := by simp [gsCells, hj]
theorem gsCells_len {n b : Nat} {r : Nat → List Nat} : (gsCells n b r).length = n := by simp [gsCells]
theorem Elts.gs {h : AHeap} {a esz : Nat} {es : List (List AVal)} (hs : ∀ e ∈ es, e.length = esz) : Elts h (.gs a esz es) esz es where
  form := rfl
  len _ hk := hk
  idx j e hj he k K hK := ⟨e, hj, he, hs e (List.mem_of_getElem? he), hK _ fun n agg K' hn hk => ⟨by omega, hk⟩⟩
structure NewSt (m : Nat) (h0 : AHeap) (fc : List AVal) (n : Nat) (st : List (List Nat) × List (List Nat)) (h : AHeap) : Prop where
  take : h.take m = h0
  len : m + (6 + (n + n)) ≤ h.length
  f : hget h m = some (.rows [fc])
  N : hget h (m + 1) = some (.rows (gsCells n (m + 6) fun i => st.1.getD i []))
  P : hget h (m + 2) = some (.rows (gsCells n (m + (6 + n)) fun i => st.2.getD i []))
  R : hget h (m + 3) = some (.rows (List.replicate n [.lit (.bool false)]))
  G : hget h (m + 4) = some (.rows [[.slice (m + 1) 1 0 n (some n), .slice (m + 2) 1 0 n (some n), .lit (.slice none 0 0), .slice (m + 3) 1 0 n (some n)]])
  p : hget h (m + 5) = some (.rows [[.ptr (m + 4) 0 0]])
  tN : ∀ i, i < n → hget h (m + (6 + i)) = some (.tok 1 (st.1.getD i []).length)
  tP : ∀ i, i < n → hget h (m + (6 + (n + i))) = some (.tok 1 (st.2.getD i []).length)
theorem NewSt.other {m n : Nat} {h0 h h' : AHeap} {fc : List AVal} {st : List (List Nat) × List (List Nat)} (s : NewSt m h0 fc n st h) (hl : m + (6 + (n + n)) ≤ h'.length) (ht : h'.take m = h.take m) (he : ∀ a, m ≤ a → a < m + (6 + (n + n)) → hget h' a = hget h a) : NewSt m h0 fc n st h' where
  take := ht.trans s.take
  len := hl
  f := (he _ (by omega) (by omega)).trans s.f
  N := (he _ (by omega) (by omega)).trans s.N
  P := (he _ (by omega) (by omega)).trans s.P
  R := (he _ (by omega) (by omega)).trans s.R
  G := (he _ (by omega) (by omega)).trans s.G
  p := (he _ (by omega) (by omega)).trans s.p
  tN i hi := (he _ (by omega) (by omega)).trans (s.tN i hi)
  tP i hi := (he _ (by omega) (by omega)).trans (s.tP i hi)
theorem NewSt.snoc {m n : Nat} {h0 h l : AHeap} {fc : List AVal} {st : List (List Nat) × List (List Nat)} (s : NewSt m h0 fc n st h) : NewSt m h0 fc n st (h ++ l) := by
  have := s.len
  exact s.other (by simp; omega) (take_snoc (by omega)) fun a _ h2 => hget_append_old (by omega)
theorem NewSt.hset {m n a : Nat} {o : AObj} {h0 h : AHeap} {fc : List AVal} {st : List (List Nat) × List (List Nat)} (s : NewSt m h0 fc n st h) (ha : m + (6 + (n + n)) ≤ a) : NewSt m h0 fc n st (Go.AL.hset h a o) := by
  have := s.len
  exact s.other (by rw [hset_length]; exact s.len) (take_hset (by omega)) fun b _ h2 => hget_hset_ne (by omega)
theorem NewSt.set {m n a : Nat} {o : Option AObj} {h0 h : AHeap} {fc : List AVal} {st : List (List Nat) × List (List Nat)} (s : NewSt m h0 fc n st h) (ha : m + (6 + (n + n)) ≤ a) : NewSt m h0 fc n st (h.set a o) := by
  have := s.len
  exact s.other (by rw [List.length_set]; exact s.len) (take_set_none (by omega)) fun b _ h2 => hget_set_ne (by omega) _
def edgeH (m n f k : Nat) (st : List (List Nat) × List (List Nat)) (h : AHeap) : AHeap :=
  hset (hset (hset (hset h (m + (6 + f)) (.tok 1 ((st.1.getD f []).length + 1))) (m + 1) (.rows ((gsCells n (m + 6) fun i => st.1.getD i []).set f [.gs (m + (6 + f)) 1 (ints (st.1.getD f []) ++ [[.lit (.int .i64 k)]])])))
    (m + (6 + (n + k))) (.tok 1 ((st.2.getD k []).length + 1))) (m + 2) (.rows ((gsCells n (m + (6 + n)) fun i => st.2.getD i []).set k [.gs (m + (6 + (n + k))) 1 (ints (st.2.getD k []) ++ [[.lit (.int .i64 f)]])]))
theorem gsCells_set {n b f k : Nat} {r : List (List Nat)} (hl : r.length = n) (hf : f < n) : (gsCells n b fun i => r.getD i []).set f [.gs (b + f) 1 (ints (r.getD f []) ++ [[.lit (.int .i64 k)]])] = gsCells n b fun i => (r.modify f (· ++ [k])).getD i [] := by
  apply List.ext_getElem (by simp [gsCells])
  intro i h1 h2
  rw [List.getElem_set]
  simp only [gsCells, List.getElem_map, List.getElem_range]
  rw [getD_modify (by omega)]
  by_cases e : f = i
  · subst e; simp [ints]
  · simp [e]
theorem NewSt.edge {m n f k : Nat} {h0 h : AHeap} {fc : List AVal} {st : List (List Nat) × List (List Nat)} (s : NewSt m h0 fc n st h) (h1 : st.1.length = n) (h2 : st.2.length = n) (hf : f < n) (hk : k < n) (hnew : k ∉ st.1.getD f []) :
    NewSt m h0 fc n (addE f st k) (edgeH m n f k st h) := by
  have hl := s.len
  unfold addE edgeH
  rw [if_neg hnew]
  refine ⟨?_, by simp only [hset_length]; exact hl, ?_, ?_, ?_, ?_, ?_, ?_, fun i hi => ?_, fun i hi => ?_⟩
  · rw [take_hset (by omega), take_hset (by omega), take_hset (by omega), take_hset (by omega)]; exact s.take
  · rw [hget_hset_ne (by omega), hget_hset_ne (by omega), hget_hset_ne (by omega), hget_hset_ne (by omega)]; exact s.f
  · rw [hget_hset_ne (by omega), hget_hset_ne (by omega), hget_hset_same (by simp only [hset_length]; omega), ← Nat.add_assoc m 6 f, gsCells_set h1 hf]
  · rw [hget_hset_same (by simp only [hset_length]; omega), show m + (6 + (n + k)) = m + (6 + n) + k by omega, gsCells_set h2 hk]
  · rw [hget_hset_ne (by omega), hget_hset_ne (by omega), hget_hset_ne (by omega), hget_hset_ne (by omega)]; exact s.R
  · rw [hget_hset_ne (by omega), hget_hset_ne (by omega), hget_hset_ne (by omega), hget_hset_ne (by omega)]; exact s.G
  · rw [hget_hset_ne (by omega), hget_hset_ne (by omega), hget_hset_ne (by omega), hget_hset_ne (by omega)]; exact s.p
  · rw [hget_hset_ne (by omega), hget_hset_ne (by omega), hget_hset_ne (by omega)]
    simp only [getD_modify (l := st.1) (f := f) (by omega)]
    by_cases e : f = i
    · subst e; rw [hget_hset_same (by omega)]; simp
    · rw [hget_hset_ne (by omega), if_neg e]; exact s.tN i hi
  · rw [hget_hset_ne (by omega)]
    simp only [getD_modify (l := st.2) (f := k) (by omega)]
    by_cases e : k = i
    · subst e; rw [hget_hset_same (by simp only [hset_length]; omega)]; simp
    · rw [hget_hset_ne (by omega), hget_hset_ne (by omega), hget_hset_ne (by omega), if_neg e]; exact s.tP i hi
theorem edgeH_other {m n f k a : Nat} {st : List (List Nat) × List (List Nat)} {h : AHeap} (ha : m + (6 + (n + n)) ≤ a) (hf : f < n) (hk : k < n) : hget (edgeH m n f k st h) a = hget h a := by
  unfold edgeH
  rw [hget_hset_ne (by omega), hget_hset_ne (by omega), hget_hset_ne (by omega), hget_hset_ne (by omega)]
theorem edgeH_length {m n f k : Nat} {st : List (List Nat) × List (List Nat)} {h : AHeap} : (edgeH m n f k st h).length = h.length := by unfold edgeH; simp only [hset_length]
def newH (h : AHeap) (fc : List AVal) (n : Nat) : AHeap :=
  h ++ [some (.rows [fc]), some (.rows (gsCells n (h.length + 6) fun _ => [])), some (.rows (gsCells n (h.length + (6 + n)) fun _ => [])), some (.rows (List.replicate n [.lit (.bool false)])),
    some (.rows [[.slice (h.length + 1) 1 0 n (some n), .slice (h.length + 2) 1 0 n (some n), .lit (.slice none 0 0), .slice (h.length + 3) 1 0 n (some n)]]), some (.rows [[.ptr (h.length + 4) 0 0]])] ++ List.replicate (n + n) (some (.tok 1 0))
theorem newSt_start {h : AHeap} {fc : List AVal} {n : Nat} : NewSt h.length h fc n (noEdges n) (newH h fc n) := by
  have e : ∀ i : Nat, (List.replicate n ([] : List Nat)).getD i [] = [] := fun i => by
    rw [List.getD_eq_getElem?_getD, List.getElem?_replicate]; split <;> rfl
  have tk : ∀ i, i < n + n → hget (newH h fc n) (h.length + (6 + i)) = some (.tok 1 0) := by
    intro i hi
    unfold newH
    rw [List.append_assoc, hget_append_new, List.getElem?_append_right (by simp), List.getElem?_replicate]
    simp [hi]
  have old : ∀ i (l : AHeap) o, l[i]? = some (some o) → hget (h ++ l) (h.length + i) = some o := fun i l o hi => by rw [hget_append_new, hi]; rfl
  unfold noEdges
  refine ⟨by simp [newH], by simp [newH]; omega, ?_, ?_, ?_, ?_, ?_, ?_, fun i hi => ?_, fun i hi => ?_⟩
  · unfold newH; rw [List.append_assoc]; exact old 0 _ _ rfl
  · unfold newH; rw [List.append_assoc]; simp only [e]; exact old 1 _ _ rfl
  · unfold newH; rw [List.append_assoc]; simp only [e]; exact old 2 _ _ rfl
  · unfold newH; rw [List.append_assoc]; exact old 3 _ _ rfl
  · unfold newH; rw [List.append_assoc]; exact old 4 _ _ rfl
  · unfold newH; rw [List.append_assoc]; exact old 5 _ _ rfl
  · rw [tk i (by omega)]; simp only [e]; rfl
  · rw [tk (n + i) (by omega)]; simp only [e]; rfl
theorem newH_weak {n0 nt : Nat} {t : ATab} {d : List ADef} {h : AHeap} {fc : List AVal} {n : Nat} :
    Weaker n0 ⟨nt, t, d, h ++ [some (.rows [fc]), some (.rows (List.replicate n [.lit (.slice none 0 0)])), some (.rows (List.replicate n [.lit (.slice none 0 0)])), some (.rows (List.replicate n [.lit (.bool false)])),
      some (.rows [[.slice (h.length + 1) 1 0 n (some n), .slice (h.length + 2) 1 0 n (some n), .lit (.slice none 0 0), .slice (h.length + 3) 1 0 n (some n)]]), some (.rows [[.ptr (h.length + 4) 0 0]])]⟩ ⟨nt, t, d, newH h fc n⟩ := by
  refine Weaker.heap (fun hl => by simp [newH] at hl ⊢; omega) fun C w hr => ?_
  have hr := HRel.newToks hr 1 (n + n)
  have get : ∀ (i : Nat) (l : AHeap) o, l[i]? = some (some o) → hget (h ++ l) (h.length + i) = some o := fun i l o hi => by rw [hget_append_new, hi]; rfl
  have set : ∀ (i : Nat) (l : AHeap) (o : Option AObj), (h ++ l).set (h.length + i) o = h ++ l.set i o := fun i l o => by rw [List.set_append_right _ _ (by omega)]; congr 2; omega
  rw [List.append_assoc] at hr
  have conv : ∀ (b : Nat) (C : Ctx) (i : Nat) x y, (List.replicate n [AVal.lit (.slice none 0 0)])[i]? = some x → (gsCells n b fun _ => [])[i]? = some y → x.length = y.length ∧ ∀ (j : Nat) u v, x[j]? = some u → y[j]? = some v → ∀ rv, VRel C u rv → VRel C v rv := by
    intro b C i x y hx hy
    have hi : i < n := by have := (List.getElem?_eq_some_iff.1 hx).1; simpa using this
    rw [gsCells_get hi] at hy; cases hy
    rw [List.getElem?_replicate, if_pos hi] at hx; cases hx
    refine ⟨rfl, fun j u v hu hv rv hr => ?_⟩
    cases j with
    | zero => simp at hu hv; subst hu; subst hv; exact hr.gs_nil _ _
    | succ j => simp at hu
  have hr := hr.retell (a := h.length + 1) (es' := gsCells n (h.length + 6) fun _ => []) (get 1 _ _ rfl) (by simp [gsCells]) (conv _ C)
  rw [set] at hr
  have hr := hr.retell (a := h.length + 2) (es' := gsCells n (h.length + (6 + n)) fun _ => []) (get 2 _ _ rfl) (by simp [gsCells]) (conv _ C)
  rw [set] at hr
  unfold newH
  rw [List.append_assoc]
  exact hr
end Go.AL
