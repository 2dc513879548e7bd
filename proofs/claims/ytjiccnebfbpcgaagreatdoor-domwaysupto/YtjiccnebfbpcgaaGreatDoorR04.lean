/- The walk through a graph by depth. -/
import Derived.Test.YtjiccnebfbpcgaaGreatDoorR03
set_option linter.unusedSimpArgs false
set_option linter.unusedVariables false
set_option linter.unusedSectionVars false
namespace Go.AL
open Go.Proofs
def bcells (n : Nat) (f : Nat → Bool) : List (List AVal) := (List.range n).map fun i => [.lit (.bool (f i))]
theorem bcells_get {n j : Nat} {f : Nat → Bool} (hj : j < n) : (bcells n f)[j]? = some [.lit (.bool (f j))] := by simp [bcells, hj]
theorem bcells_len {n : Nat} {f : Nat → Bool} : (bcells n f).length = n := by simp [bcells]
theorem bcells_set {n j : Nat} {f : Nat → Bool} {z : Bool} : (bcells n f).set j [.lit (.bool z)] = bcells n fun i => if i = j then z else f i := by
  apply List.ext_getElem (by simp [bcells])
  intro i h1 h2
  rw [List.getElem_set]
  simp only [bcells, List.getElem_map, List.getElem_range]
  by_cases e : j = i
  · subst e; simp
  · rw [if_neg e, if_neg (fun e' => e e'.symm)]
theorem bcells_false {n : Nat} : List.replicate n [AVal.lit (.bool false)] = bcells n fun _ => false := by
  apply List.ext_getElem (by simp [bcells])
  intro i h1 h2
  simp [bcells]
theorem zw_loopDW {P : Program} {n0 n : Nat} {md : Option Nat} {c : XCode} {Q : Exit → ASt → Prop} {t0 : ATab} {d0 : List ADef} {h0 : AHeap} {u} (I : Nat → ATab → AHeap → Prop) (k0 : Nat) (t1 : ATab) (h1 : AHeap) (hw : Weaker n0 ⟨n, t0, d0, h0⟩ ⟨n, t1, d0, h1⟩) (hi : I k0 t1 h1)
    (hb : ∀ k t h, I k t h → ZW P n0 md c (Then (fun s' => ∃ k', k' < k ∧ s'.n = n ∧ s'.d = d0 ∧ I k' s'.t s'.h) Q) ⟨n, t, d0, h⟩ .mk) : ZW P n0 md (.loop c) Q ⟨n, t0, d0, h0⟩ u := by
  refine zw_loopW (fun k s => s.n = n ∧ s.d = d0 ∧ I k s.t s.h) k0 ⟨n, t1, d0, h1⟩ rfl hw ⟨rfl, rfl, hi⟩ ?_
  rintro k t d h ⟨_, e, hk⟩
  have e : d = d0 := e
  subst e
  refine xw_mono _ _ _ _ (Then_imp (fun t' d' h' => ?_) (fun _ _ _ _ hq => hq)) (hb k t h hk)
  rintro ⟨k', h1, h2, h3, h4⟩
  exact ⟨k', _, h1, rfl, Weaker.refl _, h2, h3, h4⟩
def steps (w : List (Nat × Nat)) : List (List AVal) := w.map fun p => [.lit (.int .i64 (p.1 : Int)), .lit (.int .i64 (p.2 : Int))]
theorem steps_len {w : List (Nat × Nat)} : (steps w).length = w.length := by simp [steps]
theorem steps_snoc {w : List (Nat × Nat)} {p : Nat × Nat} : steps (w ++ [p]) = steps w ++ [[.lit (.int .i64 (p.1 : Int)), .lit (.int .i64 (p.2 : Int))]] := by simp [steps]
structure VSt (h0 : AHeap) (N G R n : Nat) (cN cR : Option Nat) (Pv : AVal) (W : Nat) (way : List (Nat × Nat)) (re : Nat → Bool) (O : List Nat) (h : AHeap) : Prop where
  len : h0.length ≤ h.length
  old : ∀ a, a < h0.length → a ≠ G → a ≠ R → h[a]? = h0[a]?
  gm : ∃ oV, hget h G = some (.rows [[.slice N 1 0 n cN, Pv, oV, .slice R 1 0 n cR]]) ∧ ((O = [] ∧ oV = .lit (.slice none 0 0)) ∨ ∃ A, h0.length ≤ A ∧ A ≠ W ∧ oV = .slice A 1 0 O.length none ∧ hget h A = some (.rows (ints O)))
  rm : hget h R = some (.rows (bcells n re))
  wm : h0.length ≤ W
  es : ∃ es, hget h W = some (.rows es) ∧ es.take way.length = steps way
theorem hget_of {h h0 : AHeap} {a : Nat} (e : h[a]? = h0[a]?) : hget h a = hget h0 a := by unfold hget; rw [e]
theorem set_self {h : AHeap} {a : Nat} {o : AObj} (e : hget h a = some o) : h.set a (some o) = h := by
  have ha := hget_lt e
  apply List.ext_getElem (by simp)
  intro i h1 h2
  rw [List.getElem_set]
  by_cases e' : a = i
  · subst e'
    rw [if_pos rfl]
    unfold hget at e
    rw [List.getElem?_eq_getElem ha] at e
    simpa using e.symm
  · rw [if_neg e']
theorem hset_set {h : AHeap} {a : Nat} {x : Option AObj} {o : AObj} : hset (h.set a x) a o = h.set a (some o) := by unfold hset; rw [List.set_set]
theorem icells_congr {n : Nat} {f g : Nat → Int} (h : ∀ j, j < n → f j = g j) : icells n f = icells n g := by
  unfold icells
  apply List.map_congr_left
  intro j hj
  rw [h j (List.mem_range.1 hj)]
theorem reverse_ok {A : Nat} {l : List Nat} {h : AHeap} (ha : hget h A = some (.rows (ints l))) (hl : l.length < 4294967296) {c : Option Nat} :
    ACall Tryz.prog 121 [.slice A 1 0 l.length c] h fun _ h' => h' = h.set A (some (.rows (ints l.reverse))) := by
  have lA := hget_lt ha
  have hw0 : IntKind.i64.wrap ((l.length : Int) - 1) = (l.length : Int) - 1 := wrapI (by omega) (by omega)
  refine acall_z mixed xf121 rfl ?_
  unfold xc121 xr121 xn121
  simp -dsimp -implicitDefEqProofs only [go_sem, reduceIte, Nat.reduceEqDiff, Nat.reduceAdd, Nat.reduceSub, Nat.reduceLeDiff, Nat.reduceLT, Nat.reduceMul, Int.reduceToNat, Int.reduceLT, Int.reduceLE, Int.reduceEq, Int.reduceNeg, go_sem, hw0]
  let f (i j : Nat) : Int := if j < i ∨ l.length < j + i + 1 then ((l.getD (l.length - 1 - j) 0 : Nat) : Int) else ((l.getD j 0 : Nat) : Int)
  refine zw_loopD (fun k t h2 => ∃ i : Nat, i ≤ l.length ∧ k = l.length - i ∧ h2 = h.set A (some (.rows (icells l.length (f i)))) ∧ t.get 0 = .slice A 1 0 l.length c ∧ t.get 2 = .lit (.int .i64 i) ∧ t.get 3 = .lit (.int .i64 ((l.length : Int) - 1 - (i : Int)))) l.length
    ⟨0, by omega, by omega, ?_, rfl, rfl, by simp -dsimp -implicitDefEqProofs only [go_sem, reduceIte, Nat.reduceEqDiff, Nat.reduceAdd, Nat.reduceSub, Nat.reduceLeDiff, Nat.reduceLT, Nat.reduceMul, Int.reduceToNat, Int.reduceLT, Int.reduceLE, Int.reduceEq, Int.reduceNeg, go_sem]; simp⟩ ?_
  · rw [ints_icells] at ha
    have : icells l.length (f 0) = icells l.length fun j => ((l.getD j 0 : Nat) : Int) := icells_congr fun j hj => by simp only [f]; rw [if_neg (by omega)]
    rw [this]; exact (set_self ha).symm
  rintro k t h2 ⟨i, hi, rfl, rfl, t0, t2, t3⟩
  simp -dsimp -implicitDefEqProofs only [go_sem, reduceIte, Nat.reduceEqDiff, Nat.reduceAdd, Nat.reduceSub, Nat.reduceLeDiff, Nat.reduceLT, Nat.reduceMul, Int.reduceToNat, Int.reduceLT, Int.reduceLE, Int.reduceEq, Int.reduceNeg, go_sem, t0, t2, t3]
  have gA : ∀ o, hget (h.set A (some o)) A = some o := fun o => hget_set_same lA _
  by_cases hlt : (i : Int) < (l.length : Int) - 1 - (i : Int)
  · have e3 : (l.length : Int) - 1 - (i : Int) = ((l.length - 1 - i : Nat) : Int) := by omega
    have c1 : ((l.length - 1 - i : Nat) : Int) < (l.length : Int) := by omega
    have c2 : (i : Int) < (l.length : Int) := by omega
    have c3 : (i : Int) < ((l.length - 1 - i : Nat) : Int) := by omega
    have r1 := icells_get (n := l.length) (f := f i) (j := l.length - 1 - i) (by omega)
    have r2 := icells_get (n := l.length) (f := f i) (j := i) (by omega)
    have r3 : ∀ (f : Nat → Int), (icells l.length f)[l.length - 1 - i]? = some [.lit (.int .i64 (f (l.length - 1 - i)))] := fun f => icells_get (by omega)
    have hw : IntKind.i64.wrap ((i : Int) + 1) = (i : Int) + 1 := wrap64_small (by omega) (by omega)
    have hw2 : IntKind.i64.wrap (((l.length - 1 - i : Nat) : Int) - 1) = ((l.length - 1 - i : Nat) : Int) - 1 := wrapI (by omega) (by omega)
    rw [e3]
    simp -dsimp -implicitDefEqProofs only [go_sem, reduceIte, Nat.reduceEqDiff, Nat.reduceAdd, Nat.reduceSub, Nat.reduceLeDiff, Nat.reduceLT, Nat.reduceMul, Int.reduceToNat, Int.reduceLT, Int.reduceLE, Int.reduceEq, Int.reduceNeg, go_sem, c3, decide_true, t0, t2, t3, e3, c1, c2, gA, r1, r2, hset_set, icells_set, r3, hw, hw2]
    refine ⟨l.length - (i + 1), by omega, i + 1, by omega, rfl, ?_, rfl, ?_⟩
    · congr 3
      refine icells_congr fun j hj => ?_
      simp only [f]
      by_cases e1 : j = l.length - 1 - i
      · rw [if_pos e1, if_neg (by omega), if_pos (by omega)]; congr 2; omega
      · rw [if_neg e1]
        by_cases e2 : j = i
        · rw [if_pos e2, if_neg (by omega), if_pos (by omega)]; congr 2; omega
        · rw [if_neg e2]
          by_cases e4 : j < i ∨ l.length < j + i + 1
          · rw [if_pos e4, if_pos (by omega)]
          · rw [if_neg e4, if_neg (by omega)]
    · congr 2; omega
  · simp -dsimp -implicitDefEqProofs only [go_sem, reduceIte, Nat.reduceEqDiff, Nat.reduceAdd, Nat.reduceSub, Nat.reduceLeDiff, Nat.reduceLT, Nat.reduceMul, Int.reduceToNat, Int.reduceLT, Int.reduceLE, Int.reduceEq, Int.reduceNeg, hlt, decide_false]
    refine .all ?_
    congr 3
    rw [ints_icells, List.length_reverse]
    refine icells_congr fun j hj => ?_
    have e : l.reverse.getD j 0 = l.getD (l.length - 1 - j) 0 := by
      rw [List.getD_eq_getElem?_getD, List.getD_eq_getElem?_getD, List.getElem?_reverse hj]
    rw [e]
    simp only [f]
    by_cases e4 : j < i ∨ l.length < j + i + 1
    · rw [if_pos e4]
    · rw [if_neg e4]; congr 2; omega
section
variable {h0 : AHeap} {N G R n : Nat} {cN cR : Option Nat} {Pv : AVal} {W : Nat} {w : List (Nat × Nat)} {b i : Nat} {re : Nat → Bool} {O : List Nat} {h : AHeap} {es : List (List AVal)} {x : List AVal}
theorem VSt.bump (lG : G < h0.length) (lR : R < h0.length) (hs : VSt h0 N G R n cN cR Pv W (w ++ [(b, i)]) re O h) (he : hget h W = some (.rows es)) (ht : es.take (w.length + 1) = steps w ++ [x]) :
    VSt h0 N G R n cN cR Pv W (w ++ [(b, i + 1)]) re O (hset h W (.rows (es.set w.length [.lit (.int .i64 b), .lit (.int .i64 ((i : Int) + 1))]))) := by
  have hw := hs.wm
  refine ⟨by rw [hset_length]; exact hs.len, fun a ha h1 h2 => ?_, ?_, by rw [hget_hset_ne (by omega)]; exact hs.rm, hw, ⟨_, hget_hset_same (hget_lt he), ?_⟩⟩
  · unfold hset; rw [List.getElem?_set_ne (by omega)]; exact hs.old a ha h1 h2
  · obtain ⟨oV, m1, m2⟩ := hs.gm
    refine ⟨oV, by rw [hget_hset_ne (by omega)]; exact m1, ?_⟩
    rcases m2 with m2 | ⟨A, a1, a2, a3, a4⟩
    · exact .inl m2
    · exact .inr ⟨A, a1, a2, a3, by rw [hget_hset_ne (fun e => a2 e.symm)]; exact a4⟩
  · have e : (w ++ [(b, i + 1)]).length = w.length + 1 := by simp
    rw [e, List.take_set, ht, List.set_append_right _ _ (by rw [steps_len]; exact Nat.le_refl _), steps_len, steps_snoc]
    simp
theorem VSt.push (lG : G < h0.length) (lR : R < h0.length) (hGR : G ≠ R) {way : List (Nat × Nat)} {z : AObj} {k : Nat} (hs : VSt h0 N G R n cN cR Pv W way re O h) (he : hget h W = some (.rows es)) (ht : es.take way.length = steps way) :
    VSt h0 N G R n cN cR Pv (h.length + 1) (way ++ [(k, 0)]) (fun j => if j = k then true else re j) O
      (List.set (hset h R (.rows (bcells n fun j => if j = k then true else re j)) ++ [some z]) W none ++ [some (.rows (es.take way.length ++ [[.lit (.int .i64 k), .lit (.int .i64 0)]]))]) := by
  have hw := hs.wm
  have hlW := hget_lt he
  have hl0 := hs.len
  have ln : (List.set (hset h R (.rows (bcells n fun j => if j = k then true else re j)) ++ [some z]) W none).length = h.length + 1 := by simp [hset]
  have old : ∀ a, a < h.length → a ≠ W → a ≠ R → hget (List.set (hset h R (.rows (bcells n fun j => if j = k then true else re j)) ++ [some z]) W none ++ [some (.rows (es.take way.length ++ [[.lit (.int .i64 k), .lit (.int .i64 0)]]))]) a = hget h a := by
    intro a h1 h2 h3
    rw [hget_append_old (by rw [ln]; omega), hget_set_ne (fun e => h2 e.symm), hget_append_old (by rw [hset_length]; exact h1), hget_hset_ne (fun e => h3 e.symm)]
  refine ⟨by rw [List.length_append, ln]; simp; omega, fun a ha h1 h2 => ?_, ?_, ?_, by omega, ⟨es.take way.length ++ [[.lit (.int .i64 k), .lit (.int .i64 0)]], ?_, ?_⟩⟩
  · rw [List.getElem?_append_left (by rw [ln]; omega), List.getElem?_set_ne (by omega), List.getElem?_append_left (by rw [hset_length]; omega)]
    unfold hset; rw [List.getElem?_set_ne (fun e => h2 e.symm)]; exact hs.old a ha h1 h2
  · obtain ⟨oV, m1, m2⟩ := hs.gm
    refine ⟨oV, by rw [old G (by omega) (by omega) hGR]; exact m1, ?_⟩
    rcases m2 with m2 | ⟨A, a1, a2, a3, a4⟩
    · exact .inl m2
    · have := hget_lt a4
      exact .inr ⟨A, a1, by omega, a3, by rw [old A this a2 (by omega)]; exact a4⟩
  · rw [hget_append_old (by rw [ln]; omega), hget_set_ne (by omega), hget_append_old (by rw [hset_length]; omega), hget_hset_same (by omega)]
  · rw [← ln, hget_new0]; rfl
  · rw [ht, steps_snoc, List.take_of_length_le (by simp [steps])]; simp
theorem VSt.pop (lG : G < h0.length) (lR : R < h0.length) (hGR : G ≠ R) (hs : VSt h0 N G R n cN cR Pv W (w ++ [(b, i)]) re O h) {A : Nat} {h' : AHeap} (hA : h0.length ≤ A) (hAW : A ≠ W) (hl : h.length ≤ h'.length)
    (hG : hget h' G = some (.rows [[.slice N 1 0 n cN, Pv, .slice A 1 0 (O.length + 1) none, .slice R 1 0 n cR]])) (hAc : hget h' A = some (.rows (ints O ++ [[.lit (.int .i64 b)]]))) (ho : ∀ a, a < h0.length ∨ a = W → a ≠ G → h'[a]? = h[a]?) :
    VSt h0 N G R n cN cR Pv W w re (O ++ [b]) h' := by
  have hw := hs.wm
  have hl0 := hs.len
  obtain ⟨es, he, ht⟩ := hs.es
  have hlW := hget_lt he
  refine ⟨by omega, fun a ha h1 h2 => (ho a (.inl ha) h1).trans (hs.old a ha h1 h2), ⟨_, hG, .inr ⟨A, hA, hAW, by simp, ?_⟩⟩, ?_, hw, ⟨es, ?_, ?_⟩⟩
  · rw [hAc]; simp [ints]
  · rw [hget_of (ho R (.inl lR) (fun e => hGR e.symm))]; exact hs.rm
  · rw [hget_of (ho W (.inr rfl) (by omega))]; exact he
  · have e : (w ++ [(b, i)]).length = w.length + 1 := by simp
    rw [e, steps_snoc] at ht
    have := congrArg (fun l : List (List AVal) => l.take w.length) ht
    simp only [List.take_take] at this
    rw [show min w.length (w.length + 1) = w.length by omega] at this
    rw [this, List.take_append_of_le_length (by rw [steps_len]; exact Nat.le_refl _), List.take_of_length_le (by rw [steps_len]; exact Nat.le_refl _)]
end
end Go.AL
namespace Go.AL
open Go.Proofs
theorem zw_loopDU {P : Program} {n0 n : Nat} {md : Option Nat} {c : XCode} {Q : Exit → ASt → Prop} {t0 : ATab} {d0 : List ADef} {h0 : AHeap} {u} {j a e i m : Nat} {cp : Option Nat} (ht : t0.get j = .slice a e i m cp) (I : Nat → ATab → AHeap → Prop) (k0 : Nat) (hi : I k0 (t0.set j (.slice a e i m none)) h0)
    (hb : ∀ k t h, I k t h → ZW P n0 md c (Then (fun s' => ∃ k', k' < k ∧ s'.n = n ∧ s'.d = d0 ∧ I k' s'.t s'.h) Q) ⟨n, t, d0, h⟩ .mk) : ZW P n0 md (.loop c) Q ⟨n, t0, d0, h0⟩ u := by
  refine zw_loopDW I k0 _ h0 (Weaker.tabV fun C x rv hv => ?_) hi hb
  rw [ATab.get_set]
  split
  · rename_i e; subst e; rw [ht] at hv; exact hv.uncap
  · exact hv
theorem visit_ok {n N G R : Nat} {cN cR : Option Nat} {Pv : AVal} {b0 : Nat} {r : Nat → List Nat} {h : AHeap}
    (hG : hget h G = some (.rows [[.slice N 1 0 n cN, Pv, .lit (.slice none 0 0), .slice R 1 0 n cR]])) (hN : hget h N = some (.rows (gsCells n b0 r))) (hR : hget h R = some (.rows (List.replicate n [.lit (.bool false)])))
    (hGN : G ≠ N) (hGR : G ≠ R) (hNR : N ≠ R) (hn : 0 < n) (hnb : n < 4294967296) (hr : ∀ i k, k ∈ r i → k < n) (hrl : ∀ i, (r i).length ≤ n) :
    ACall Tryz.prog 54 [.ptr G 0 0] h fun _ h' => h.length ≤ h'.length ∧ (∀ a, a < h.length → a ≠ G → a ≠ R → h'[a]? = h[a]?) ∧ ∃ ord re A, OrdOk r n ord ∧ (∀ i, re i = true ↔ i ∈ ord) ∧ h.length ≤ A ∧
      hget h' G = some (.rows [[.slice N 1 0 n cN, Pv, .slice A 1 0 ord.length none, .slice R 1 0 n cR]]) ∧ hget h' R = some (.rows (bcells n re)) ∧ hget h' A = some (.rows (ints ord)) := by
  have lG := hget_lt hG
  have lN := hget_lt hN
  have lR := hget_lt hR
  rw [bcells_false] at hR
  have g1 : ∀ l, hget (h ++ l) G = some (.rows [[.slice N 1 0 n cN, Pv, .lit (.slice none 0 0), .slice R 1 0 n cR]]) := fun l => by rw [hget_append_old lG]; exact hG
  have g2 : ∀ l, hget (h ++ l) R = some (.rows (bcells n fun _ => false)) := fun l => by rw [hget_append_old lR]; exact hR
  have g3 : (bcells n fun _ => false)[0]? = some [.lit (.bool false)] := bcells_get hn
  have g4 : (0 : Int) < (n : Int) := by omega
  have g5 : ((0 : Int) ≤ 0) = True := by simp
  refine acall_z mixed xf54 rfl ?_
  unfold xc54 xr54 xn54
  simp -dsimp -implicitDefEqProofs only [go_sem, reduceIte, Nat.reduceEqDiff, Nat.reduceAdd, Nat.reduceSub, Nat.reduceLeDiff, Nat.reduceLT, Nat.reduceMul, Int.reduceToNat, Int.reduceLT, Int.reduceLE, Int.reduceEq, Int.reduceNeg, go_sem, g1, g2, g3, g4, g5]
  refine zw_loopDU (j := 2) (a := h.length) (e := 2) (i := 0) (m := 1) (cp := some 1) (by simp -dsimp -implicitDefEqProofs only [go_sem, reduceIte, Nat.reduceEqDiff, Nat.reduceAdd, Nat.reduceSub, Nat.reduceLeDiff, Nat.reduceLT, Nat.reduceMul, Int.reduceToNat, Int.reduceLT, Int.reduceLE, Int.reduceEq, Int.reduceNeg, go_sem])
    (fun k t h2 => ∃ W way re O, VInv r n way re O ∧ VSt h N G R n cN cR Pv W way re O h2 ∧ t.get 0 = .ptr G 0 0 ∧ t.get 2 = .slice W 2 0 way.length none ∧ k = 2 * unr (List.range n) re + way.length) _
    ⟨h.length, [(0, 0)], _, [], .start hn, ?_, by simp -dsimp -implicitDefEqProofs only [go_sem, reduceIte, Nat.reduceEqDiff, Nat.reduceAdd, Nat.reduceSub, Nat.reduceLeDiff, Nat.reduceLT, Nat.reduceMul, Int.reduceToNat, Int.reduceLT, Int.reduceLE, Int.reduceEq, Int.reduceNeg, go_sem], by simp -dsimp -implicitDefEqProofs only [go_sem, reduceIte, Nat.reduceEqDiff, Nat.reduceAdd, Nat.reduceSub, Nat.reduceLeDiff, Nat.reduceLT, Nat.reduceMul, Int.reduceToNat, Int.reduceLT, Int.reduceLE, Int.reduceEq, Int.reduceNeg, go_sem], rfl⟩ ?_
  · rw [bcells_set]
    refine ⟨by simp [hset], fun a ha h1 h2 => ?_, ⟨_, ?_, .inl ⟨rfl, rfl⟩⟩, ?_, Nat.le_refl _, ⟨[[.lit (.int .i64 0), .lit (.int .i64 0)]], ?_, rfl⟩⟩
    · unfold hset; rw [List.getElem?_set_ne (by omega), List.getElem?_append_left ha]
    · rw [hget_hset_ne (fun e => hGR e.symm)]; exact g1 _
    · rw [hget_hset_same (by simp; omega)]
    · rw [hget_hset_ne (by omega)]; simp -dsimp -implicitDefEqProofs only [go_sem, reduceIte, Nat.reduceEqDiff, Nat.reduceAdd, Nat.reduceSub, Nat.reduceLeDiff, Nat.reduceLT, Nat.reduceMul, Int.reduceToNat, Int.reduceLT, Int.reduceLE, Int.reduceEq, Int.reduceNeg, go_sem]
  rintro k t h2 ⟨W, way, re, O, hv, hs, t0, t2, rfl⟩
  obtain ⟨oV, m1, m2⟩ := hs.gm
  obtain ⟨es, m3, m4⟩ := hs.es
  have m5 := hs.rm
  have m6 : hget h2 N = some (.rows (gsCells n b0 r)) := by rw [hget_of (hs.old N lN (fun e => hGN e.symm) hNR)]; exact hN
  rcases List.eq_nil_or_concat way with rfl | ⟨w, ⟨b, i⟩, rfl⟩
  · have c0 : ¬ ((0 : Int) < ((0 : Nat) : Int)) := by simp
    obtain ⟨A, a1, a2, rfl, a4⟩ : ∃ A, h.length ≤ A ∧ A ≠ W ∧ oV = .slice A 1 0 O.length none ∧ hget h2 A = some (.rows (ints O)) := by
      rcases m2 with ⟨rfl, _⟩ | m2
      · rcases hv.root with ⟨_, h1⟩ | ⟨_, _, h1⟩ <;> simp at h1
      · exact m2
    simp -dsimp -implicitDefEqProofs only [go_sem, reduceIte, Nat.reduceEqDiff, Nat.reduceAdd, Nat.reduceSub, Nat.reduceLeDiff, Nat.reduceLT, Nat.reduceMul, Int.reduceToNat, Int.reduceLT, Int.reduceLE, Int.reduceEq, Int.reduceNeg, go_sem, t0, t2, c0, decide_false, m1]
    have hOn : O.length ≤ n := by
      have hnd := hv.nd
      simp only [List.map_nil, List.nil_append] at hnd
      have := hnd.length_le_of_subset (l₂ := List.range n) fun i hi => List.mem_range.2 (hv.lt i ((hv.mem i).2 (.inr hi)))
      rwa [List.length_range] at this
    refine zcall_any xf121 (reverse_ok a4 (by omega)) fun v h' e => ⟨by rw [e]; simp, ?_⟩
    subst e
    simp -dsimp -implicitDefEqProofs only [go_sem, reduceIte, Nat.reduceEqDiff, Nat.reduceAdd, Nat.reduceSub, Nat.reduceLeDiff, Nat.reduceLT, Nat.reduceMul, Int.reduceToNat, Int.reduceLT, Int.reduceLE, Int.reduceEq, Int.reduceNeg, go_sem]
    refine .all ⟨?_, fun a ha k1 k2 => ?_, ?_⟩
    · have := hs.len; simp; omega
    · rw [List.getElem?_set_ne (by omega)]; exact hs.old a ha k1 k2
    · obtain ⟨d1, d2⟩ := hv.done
      refine ⟨O.reverse, re, A, d1, d2, a1, ?_, ?_, ?_⟩
      · rw [hget_set_ne (by omega), List.length_reverse]; exact m1
      · rw [hget_set_ne (by omega)]; exact m5
      · exact hget_set_same (hget_lt a4) _
  · rw [List.concat_eq_append] at hv hs t2 m4
    have e1 : (w ++ [(b, i)]).length = w.length + 1 := by simp
    rw [e1] at t2 m4
    rw [steps_snoc] at m4
    have hwn : w.length + 1 ≤ n := by
      have hnd := (List.nodup_append.1 hv.nd).1
      have := hnd.length_le_of_subset (l₂ := List.range n) fun i hi => List.mem_range.2 (hv.lt i ((hv.mem i).2 (.inl hi)))
      rw [List.length_range, List.length_map, e1] at this
      exact this
    have c0 : (0 : Int) < ((w.length + 1 : Nat) : Int) := by omega
    have c1 : IntKind.i64.wrap (((w.length + 1 : Nat) : Int) - 1) = (w.length : Int) := by rw [wrapI (by omega) (by omega)]; omega
    have c2 : (w.length : Int) < ((w.length + 1 : Nat) : Int) := by omega
    simp -dsimp -implicitDefEqProofs only [go_sem, reduceIte, Nat.reduceEqDiff, Nat.reduceAdd, Nat.reduceSub, Nat.reduceLeDiff, Nat.reduceLT, Nat.reduceMul, Int.reduceToNat, Int.reduceLT, Int.reduceLE, Int.reduceEq, Int.reduceNeg, go_sem, t0, t2, c0, c1, c2, decide_true]
    refine zw_loopD (fun k t h3 => ∃ i', VInv r n (w ++ [(b, i')]) re O ∧ VSt h N G R n cN cR Pv W (w ++ [(b, i')]) re O h3 ∧ t.get 0 = .ptr G 0 0 ∧ t.get 2 = .slice W 2 0 (w.length + 1) none ∧ t.get 3 = .ptr W w.length 0 ∧ k = (r b).length - i') ((r b).length - i)
      ⟨i, hv, hs, by simp -dsimp -implicitDefEqProofs only [go_sem, reduceIte, Nat.reduceEqDiff, Nat.reduceAdd, Nat.reduceSub, Nat.reduceLeDiff, Nat.reduceLT, Nat.reduceMul, Int.reduceToNat, Int.reduceLT, Int.reduceLE, Int.reduceEq, Int.reduceNeg, go_sem, t0], by simp -dsimp -implicitDefEqProofs only [go_sem, reduceIte, Nat.reduceEqDiff, Nat.reduceAdd, Nat.reduceSub, Nat.reduceLeDiff, Nat.reduceLT, Nat.reduceMul, Int.reduceToNat, Int.reduceLT, Int.reduceLE, Int.reduceEq, Int.reduceNeg, go_sem, t2], by simp -dsimp -implicitDefEqProofs only [go_sem, reduceIte, Nat.reduceEqDiff, Nat.reduceAdd, Nat.reduceSub, Nat.reduceLeDiff, Nat.reduceLT, Nat.reduceMul, Int.reduceToNat, Int.reduceLT, Int.reduceLE, Int.reduceEq, Int.reduceNeg, go_sem], rfl⟩ ?_
    clear m1 m2 m3 m4 m5 m6 t0 t2 hv hs t h2
    rintro k t h3 ⟨i', hv, hs, t0, t2, t3, rfl⟩
    obtain ⟨oV, m1, m2⟩ := hs.gm
    obtain ⟨es, m3, m4⟩ := hs.es
    have m5 := hs.rm
    have m6 : hget h3 N = some (.rows (gsCells n b0 r)) := by rw [hget_of (hs.old N lN (fun e => hGN e.symm) hNR)]; exact hN
    have hb : b < n := hv.lt b ((hv.mem b).2 (.inl (by simp)))
    have e1' : (w ++ [(b, i')]).length = w.length + 1 := by simp
    rw [e1', steps_snoc] at m4
    have e0 : es[w.length]? = some [.lit (.int .i64 b), .lit (.int .i64 i')] := by
      have := congrArg (fun l : List (List AVal) => l[w.length]?) m4
      simp only [List.getElem?_take, show w.length < w.length + 1 by omega, if_true] at this
      rw [this, List.getElem?_append_right (by rw [steps_len]; exact Nat.le_refl _), steps_len]
      simp
    have rb := gsCells_get (b := b0) (r := r) hb
    have cb : (b : Int) < (n : Int) := by omega
    have wG : W ≠ G := by have := hs.wm; omega
    have wR : W ≠ R := by have := hs.wm; omega
    simp -dsimp -implicitDefEqProofs only [go_sem, reduceIte, Nat.reduceEqDiff, Nat.reduceAdd, Nat.reduceSub, Nat.reduceLeDiff, Nat.reduceLT, Nat.reduceMul, Int.reduceToNat, Int.reduceLT, Int.reduceLE, Int.reduceEq, Int.reduceNeg, go_sem, t0, t2, t3, m1, m3, m6, e0, rb, cb, ints_len]
    by_cases hlt : (i' : Int) < ((r b).length : Int)
    · have hl2 : i' < (r b).length := by omega
      have e2 : (ints (r b))[i']? = some [.lit (.int .i64 ((r b)[i']'hl2 : Nat))] := by simp [ints, hl2]
      have hto : (r b)[i']'hl2 < n := hr b _ (List.getElem_mem _)
      have hk : (r b)[i']? = some ((r b)[i']'hl2) := List.getElem?_eq_getElem hl2
      have ct : (((r b)[i']'hl2 : Nat) : Int) < (n : Int) := by omega
      have rt := bcells_get (f := re) hto
      have x1 : ∀ o, hget (hset h3 W o) G = some (.rows [[.slice N 1 0 n cN, Pv, oV, .slice R 1 0 n cR]]) := fun o => by rw [hget_hset_ne wG]; exact m1
      have x2 : ∀ o, hget (hset h3 W o) R = some (.rows (bcells n re)) := fun o => by rw [hget_hset_ne wR]; exact m5
      have hil := hrl b
      have hw : IntKind.i64.wrap ((i' : Int) + 1) = (i' : Int) + 1 := wrapI (by omega) (by omega)
      simp -dsimp -implicitDefEqProofs only [go_sem, reduceIte, Nat.reduceEqDiff, Nat.reduceAdd, Nat.reduceSub, Nat.reduceLeDiff, Nat.reduceLT, Nat.reduceMul, Int.reduceToNat, Int.reduceLT, Int.reduceLE, Int.reduceEq, Int.reduceNeg, go_sem, t0, t2, t3, m1, m3, m6, e0, rb, cb, hlt, decide_true, e2, ct, x1, x2, rt, hw]
      cases hre : re ((r b)[i']'hl2) with
      | true =>
        simp -dsimp -implicitDefEqProofs only [go_sem, reduceIte, Nat.reduceEqDiff, Nat.reduceAdd, Nat.reduceSub, Nat.reduceLeDiff, Nat.reduceLT, Nat.reduceMul, Int.reduceToNat, Int.reduceLT, Int.reduceLE, Int.reduceEq, Int.reduceNeg, go_sem, t0, t2, t3]
        exact ⟨(r b).length - (i' + 1), by omega, i' + 1, hv.skip hk hre, hs.bump lG lR m3 m4, rfl⟩
      | false =>
        have y1 : ∀ o1 o2 l, hget (hset (hset h3 W o1) R o2 ++ l) W = some o1 := fun o1 o2 l => by rw [hget_append_old (by rw [hset_length, hset_length]; exact hget_lt m3), hget_hset_ne (fun e => wR e.symm), hget_hset_same (hget_lt m3)]
        simp -dsimp -implicitDefEqProofs only [go_sem, reduceIte, Nat.reduceEqDiff, Nat.reduceAdd, Nat.reduceSub, Nat.reduceLeDiff, Nat.reduceLT, Nat.reduceMul, Int.reduceToNat, Int.reduceLT, Int.reduceLE, Int.reduceEq, Int.reduceNeg, go_sem, t0, t2, t3, x1, x2, rt, ct, bcells_set, y1]
        have hb1 := hs.bump lG lR m3 m4
        have hg1 : hget (hset h3 W (.rows (es.set w.length [.lit (.int .i64 b), .lit (.int .i64 ((i' : Int) + 1))]))) W = some (.rows (es.set w.length [.lit (.int .i64 b), .lit (.int .i64 ((i' : Int) + 1))])) := hget_hset_same (hget_lt m3)
        have hlen1 : (w ++ [(b, i' + 1)]).length = w.length + 1 := by simp
        have ht1 : (es.set w.length [.lit (.int .i64 b), .lit (.int .i64 ((i' : Int) + 1))]).take (w ++ [(b, i' + 1)]).length = steps (w ++ [(b, i' + 1)]) := by
          obtain ⟨es2, q1, q2⟩ := hb1.es
          rw [hg1] at q1; cases q1; exact q2
        have hp1 := hb1.push lG lR hGR (z := .rows [[.lit (.int .i64 ((r b)[i']'hl2 : Nat)), .lit (.int .i64 0)]]) (k := (r b)[i']'hl2) hg1 ht1
        have hun := unr_one (List.range n) List.nodup_range (List.mem_range.2 hto) hre
        refine ⟨?_, by omega, 2 * unr (List.range n) (fun j => if j = (r b)[i']'hl2 then true else re j) + (w.length + 2), ?_, h3.length + 1, w ++ [(b, i' + 1)] ++ [((r b)[i']'hl2, 0)], fun j => if j = (r b)[i']'hl2 then true else re j, O, hv.push hk hre hto, ?_, ?_, ?_⟩
        · rw [List.length_set]; have := (List.getElem?_eq_some_iff.1 e0).1; omega
        · rw [List.concat_eq_append, e1]; omega
        · rw [hset_length, hlen1] at hp1; exact hp1
        · rw [hset_length, hset_length]; simp
        · simp
    · simp -dsimp -implicitDefEqProofs only [go_sem, reduceIte, Nat.reduceEqDiff, Nat.reduceAdd, Nat.reduceSub, Nat.reduceLeDiff, Nat.reduceLT, Nat.reduceMul, Int.reduceToNat, Int.reduceLT, Int.reduceLE, Int.reduceEq, Int.reduceNeg, hlt, decide_false]
      refine zw_draw [.rows [[.lit (.int .i64 b)]]] rfl ?_
      have v1 : ∀ l, hget (h3 ++ l) G = some (.rows [[.slice N 1 0 n cN, Pv, oV, .slice R 1 0 n cR]]) := fun l => by rw [hget_append_old (hget_lt m1)]; exact m1
      have v3 : ∀ l, hget (h3 ++ l) W = some (.rows es) := fun l => by rw [hget_append_old (hget_lt m3)]; exact m3
      have v5 : 0 < (none : Option Nat).getD (w.length + 1) := by simp
      have av : aslcV W 2 0 (w.length + 1) none w.length 0 = .slice W 2 0 w.length none := by rw [aslcV_t v5]; simp
      have hpop := hv.pop (by omega)
      have hme : 2 * unr (List.range n) re + w.length < 2 * unr (List.range n) re + (w.concat (b, i)).length := by rw [List.concat_eq_append, e1]; omega
      rcases m2 with ⟨rfl, rfl⟩ | ⟨A, a1, a2, rfl, a4⟩
      · simp -dsimp -implicitDefEqProofs only [go_sem, reduceIte, Nat.reduceEqDiff, Nat.reduceAdd, Nat.reduceSub, Nat.reduceLeDiff, Nat.reduceLT, Nat.reduceMul, Int.reduceToNat, Int.reduceLT, Int.reduceLE, Int.reduceEq, Int.reduceNeg, go_sem, t0, t2, t3, v1, v3, e0, c1, av]
        refine ⟨fun e => by simp at e, fun _ => ⟨by rw [hset_length]; simp, by omega, .inl (by omega), _, hme, W, w, re, [b], hpop, ?_, rfl, rfl⟩⟩
        have hl3 := hs.len
        have hWl := hget_lt m3
        refine hs.pop lG lR hGR (A := h3.length + 1) (by omega) (by omega) (by rw [hset_length]; simp) ?_ ?_ fun a ha hne => ?_
        · exact hget_hset_same (by simp; have := hget_lt m1; omega)
        · rw [hget_hset_ne (by omega)]; simp -dsimp -implicitDefEqProofs only [go_sem, reduceIte, Nat.reduceEqDiff, Nat.reduceAdd, Nat.reduceSub, Nat.reduceLeDiff, Nat.reduceLT, Nat.reduceMul, Int.reduceToNat, Int.reduceLT, Int.reduceLE, Int.reduceEq, Int.reduceNeg, go_sem]; rfl
        · unfold hset; rw [List.getElem?_set_ne (fun e => hne e.symm), List.getElem?_append_left (by omega)]
      · have v6 : ∀ l, hget (h3 ++ l) A = some (.rows (ints O)) := fun l => by rw [hget_append_old (hget_lt a4)]; exact a4
        have aG : A ≠ G := by omega
        have v7 : ∀ l1 l2, hget (List.set (h3 ++ l1) A none ++ l2) G = some (.rows [[.slice N 1 0 n cN, Pv, .slice A 1 0 O.length none, .slice R 1 0 n cR]]) := fun l1 l2 => by
          rw [hget_append_old (by have := hget_lt m1; simp; omega), hget_set_ne aG, hget_append_old (hget_lt m1)]; exact m1
        have v8 : ∀ l : List (List AVal), (ints O).take O.length ++ l = ints O ++ l := fun l => by rw [List.take_of_length_le (by rw [ints_len]; exact Nat.le_refl _)]
        simp -dsimp -implicitDefEqProofs only [go_sem, reduceIte, Nat.reduceEqDiff, Nat.reduceAdd, Nat.reduceSub, Nat.reduceLeDiff, Nat.reduceLT, Nat.reduceMul, Int.reduceToNat, Int.reduceLT, Int.reduceLE, Int.reduceEq, Int.reduceNeg, go_sem, t0, t2, t3, v1, v3, v6, v7, v8, e0, c1, av, ints_len]
        have hl3 := hs.len
        have hWl := hget_lt m3
        have hAl := hget_lt a4
        have lw : (List.set (h3 ++ [some (.rows [[.lit (.int .i64 b)]])]) A none).length = h3.length + 1 := by simp
        have hOn : O.length ≤ n := by
          have hnd := (List.nodup_append.1 hv.nd).2.1
          have := hnd.length_le_of_subset (l₂ := List.range n) fun i hi => List.mem_range.2 (hv.lt i ((hv.mem i).2 (.inr hi)))
          rwa [List.length_range] at this
        refine ⟨by omega, by rw [lw]; omega, by rw [hset_length, List.length_append]; exact Nat.le_refl _, by omega, .inl (by omega), _, hme, W, w, re, O ++ [b], hpop, ?_, rfl, rfl⟩
        refine hs.pop lG lR hGR (A := h3.length + 1) (by omega) (by omega) (by rw [hset_length, List.length_append, lw]; omega) ?_ ?_ fun a ha hne => ?_
        · exact hget_hset_same (by rw [List.length_append, lw]; omega)
        · rw [hget_hset_ne (by omega), ← lw, hget_new0]; rfl
        · unfold hset; rw [List.getElem?_set_ne (fun e => hne e.symm), List.getElem?_append_left (by rw [lw]; omega), List.getElem?_set_ne (by omega), List.getElem?_append_left (by omega)]
end Go.AL
