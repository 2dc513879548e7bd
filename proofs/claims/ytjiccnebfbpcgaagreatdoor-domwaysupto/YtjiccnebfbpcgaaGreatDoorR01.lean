/- Searches in rows. -/
import Derived.Test.YtjiccnebfbpcgaaGreatDoorR00
set_option linter.unusedSimpArgs false
set_option linter.unusedVariables false
set_option linter.unusedSectionVars false
namespace Go.AL
open Go.Proofs
def Reads (h : AHeap) (p : AVal) (e : List AVal) : Prop := ∀ n agg (K : AVal → Prop), n ≤ e.length → K (mkv agg n e) → ALoad h p n agg K
structure Elts (h : AHeap) (x : AVal) (esz : Nat) (es : List (List AVal)) : Prop where
  form : x.lenForm = some .slice
  len : ∀ K : AVal → Prop, K (vint es.length) → ALen x h K
  idx : ∀ (j : Int) e, 0 ≤ j → es[j.toNat]? = some e → ∀ k (K : AVal → Prop), (∀ p, Reads h p e → K p) → AIdx x (.lit (.int k j)) esz K
theorem Elts.fslice {h : AHeap} {esz : Nat} {es : List (List AVal)} (hs : ∀ e ∈ es, e.length = esz) : Elts h (.fslice es) esz es where
  form := rfl
  len _ hk := hk
  idx j e hj he k K hK := ⟨e, hj, he, hs e (List.mem_of_getElem? he), hK _ fun n agg K' hn hk => ⟨by omega, hk⟩⟩
theorem Elts.slV {h : AHeap} {esz : Nat} {es : List (List AVal)} (hs : ∀ e ∈ es, e.length = esz) : Elts h (slV es) esz es := by
  cases es with
  | nil => exact ⟨rfl, fun _ hk => hk, fun j e hj he => by simp at he⟩
  | cons e es => exact Elts.fslice hs
theorem Elts.live {h : AHeap} {a esz i n : Nat} {c : Option Nat} {rs : List (List AVal)} (ha : hget h a = some (.rows rs)) (hn : i + n ≤ rs.length) : Elts h (.slice a esz i n c) esz ((rs.drop i).take n) where
  form := rfl
  len K hk := by
    have : ((rs.drop i).take n).length = n := by rw [List.length_take, List.length_drop]; omega
    rw [this] at hk
    exact hk
  idx j e hj he k K hK := by
    rw [List.getElem?_take] at he
    split at he
    · rename_i hlt
      rw [List.getElem?_drop] at he
      exact ⟨rfl, hj, by omega, hK _ fun n agg K' hn hk => ⟨rs, e, ha, he, by omega, hk⟩⟩
    · cases he
theorem index_ok {x : AVal} {l : List Nat} {h : AHeap} (hE : Elts h x 1 (ints l)) (hlen : l.length < 4294967296) (v : Int) :
    ACall Tryz.prog 120 [x, .lit (.int .i64 v)] h fun r h' => r = .lit (.int .i64 (match l.findIdx? (fun (k : Nat) => decide (v = (k : Int))) with | some i => (i : Int) | none => -1)) ∧ h' = h := by
  refine acall_z mixed xf120 rfl ?_
  unfold xc120 xr120 xn120
  simp -dsimp -implicitDefEqProofs only [go_sem, reduceIte, Nat.reduceEqDiff, Nat.reduceAdd, Nat.reduceSub, Nat.reduceLeDiff, Nat.reduceLT, Nat.reduceMul, Int.reduceToNat, Int.reduceLT, Int.reduceLE, Int.reduceEq, Int.reduceNeg, go_sem]
  refine ⟨hE.form, hE.len _ ?_⟩
  simp -dsimp -implicitDefEqProofs only [go_sem, reduceIte, Nat.reduceEqDiff, Nat.reduceAdd, Nat.reduceSub, Nat.reduceLeDiff, Nat.reduceLT, Nat.reduceMul, Int.reduceToNat, Int.reduceLT, Int.reduceLE, Int.reduceEq, Int.reduceNeg, go_sem, ints_len]
  refine zw_loopD (fun k t h2 => ∃ j : Nat, j ≤ l.length ∧ k = l.length - j ∧ h2 = h ∧ t.get 0 = x ∧ t.get 1 = .lit (.int .i64 v) ∧ t.get 7 = .lit (.int .i64 l.length) ∧ t.get 8 = .lit (.int .i64 j) ∧ ∀ i, i < j → (l[i]?).map (fun (k : Nat) => decide (v = (k : Int))) = some false) l.length ⟨0, by omega, by omega, rfl, rfl, rfl, rfl, rfl, fun i hi => by omega⟩ ?_
  rintro k t h2 ⟨j, hj, rfl, rfl, t0, t1, t7, t8, hno⟩
  simp -dsimp -implicitDefEqProofs only [go_sem, reduceIte, Nat.reduceEqDiff, Nat.reduceAdd, Nat.reduceSub, Nat.reduceLeDiff, Nat.reduceLT, Nat.reduceMul, Int.reduceToNat, Int.reduceLT, Int.reduceLE, Int.reduceEq, Int.reduceNeg, go_sem, t0, t1, t7, t8]
  by_cases hl : (j : Int) < (l.length : Int)
  · have hl2 : j < l.length := by omega
    simp -dsimp -implicitDefEqProofs only [go_sem, reduceIte, Nat.reduceEqDiff, Nat.reduceAdd, Nat.reduceSub, Nat.reduceLeDiff, Nat.reduceLT, Nat.reduceMul, Int.reduceToNat, Int.reduceLT, Int.reduceLE, Int.reduceEq, Int.reduceNeg, hl, decide_true, t0, t1, t7, t8]
    refine hE.idx j [.lit (.int .i64 (l[j]'hl2 : Nat))] (by omega) (by simp [ints, hl2]) _ _ fun p hp => ?_
    simp -dsimp -implicitDefEqProofs only [go_sem, reduceIte, Nat.reduceEqDiff, Nat.reduceAdd, Nat.reduceSub, Nat.reduceLeDiff, Nat.reduceLT, Nat.reduceMul, Int.reduceToNat, Int.reduceLT, Int.reduceLE, Int.reduceEq, Int.reduceNeg, t0, t1, t7, t8]
    refine hp _ _ _ (Nat.le_refl _) ?_
    simp -dsimp -implicitDefEqProofs only [go_sem, reduceIte, Nat.reduceEqDiff, Nat.reduceAdd, Nat.reduceSub, Nat.reduceLeDiff, Nat.reduceLT, Nat.reduceMul, Int.reduceToNat, Int.reduceLT, Int.reduceLE, Int.reduceEq, Int.reduceNeg, t0, t1, t7, t8]
    have hw : IntKind.i64.wrap ((j : Int) + 1) = (j : Int) + 1 := wrap64_small (by omega) (by omega)
    by_cases hv : v = ((l[j]'hl2 : Nat) : Int)
    · have hf : l.findIdx? (fun (k : Nat) => decide (v = (k : Int))) = some j := by
        rw [List.findIdx?_eq_some_iff_getElem]
        refine ⟨hl2, by simpa using hv, fun i hi => ?_⟩
        have := hno i hi
        rw [List.getElem?_eq_getElem (by omega)] at this
        simpa using this
      simp -dsimp -implicitDefEqProofs only [go_sem, reduceIte, Nat.reduceEqDiff, Nat.reduceAdd, Nat.reduceSub, Nat.reduceLeDiff, Nat.reduceLT, Nat.reduceMul, Int.reduceToNat, Int.reduceLT, Int.reduceLE, Int.reduceEq, Int.reduceNeg, decide_eq_true hv, t0, t1, t7, t8]
      exact .all ⟨by rw [hf], rfl⟩
    · simp -dsimp -implicitDefEqProofs only [go_sem, reduceIte, Nat.reduceEqDiff, Nat.reduceAdd, Nat.reduceSub, Nat.reduceLeDiff, Nat.reduceLT, Nat.reduceMul, Int.reduceToNat, Int.reduceLT, Int.reduceLE, Int.reduceEq, Int.reduceNeg, decide_eq_false hv, t0, t1, t7, t8, hw]
      refine ⟨l.length - (j + 1), by omega, j + 1, by omega, rfl, rfl, fun i hi => ?_⟩
      by_cases e : i = j
      · subst e; rw [List.getElem?_eq_getElem hl2]; simpa using hv
      · exact hno i (by omega)
  · have hf : l.findIdx? (fun (k : Nat) => decide (v = (k : Int))) = none := by
      rw [List.findIdx?_eq_none_iff]
      intro x hx
      obtain ⟨i, hi, rfl⟩ := List.getElem_of_mem hx
      have := hno i (by omega)
      rw [List.getElem?_eq_getElem hi] at this
      simpa using this
    simp -dsimp -implicitDefEqProofs only [go_sem, reduceIte, Nat.reduceEqDiff, Nat.reduceAdd, Nat.reduceSub, Nat.reduceLeDiff, Nat.reduceLT, Nat.reduceMul, Int.reduceToNat, Int.reduceLT, Int.reduceLE, Int.reduceEq, Int.reduceNeg, hl, decide_false, t0, t1, t7, t8]
    exact .all ⟨by rw [hf], rfl⟩
end Go.AL
namespace Go.AL
open Go.Proofs
theorem contains_ok {x : AVal} {l : List Nat} {h : AHeap} (hE : Elts h x 1 (ints l)) (hlen : l.length < 4294967296) (v : Nat) :
    ACall Tryz.prog 53 [x, .lit (.int .i64 v)] h fun r h' => r = .lit (.bool (l.contains v)) ∧ h' = h := by
  refine acall_z mixed xf53 rfl ?_
  unfold xc53 xr53 xn53
  simp -dsimp -implicitDefEqProofs only [go_sem, reduceIte, Nat.reduceEqDiff, Nat.reduceAdd, Nat.reduceSub, Nat.reduceLeDiff, Nat.reduceLT, Nat.reduceMul, Int.reduceToNat, Int.reduceLT, Int.reduceLE, Int.reduceEq, Int.reduceNeg, go_sem]
  refine zcall_eq xf120 (Nat.le_refl _) (index_ok hE hlen v) ?_
  simp -dsimp -implicitDefEqProofs only [go_sem, reduceIte, Nat.reduceEqDiff, Nat.reduceAdd, Nat.reduceSub, Nat.reduceLeDiff, Nat.reduceLT, Nat.reduceMul, Int.reduceToNat, Int.reduceLT, Int.reduceLE, Int.reduceEq, Int.reduceNeg, go_sem]
  refine .all ⟨?_, rfl⟩
  congr 2
  cases hf : l.findIdx? (fun (k : Nat) => decide ((v : Int) = (k : Int))) with
  | none =>
    have := List.findIdx?_eq_none_iff.1 hf
    have hn : v ∉ l := fun hm => by have := this v hm; simp at this
    simp [hn]
  | some i =>
    obtain ⟨hi, h1, _⟩ := List.findIdx?_eq_some_iff_getElem.1 hf
    have : v = l[i] := by have := of_decide_eq_true h1; exact_mod_cast this
    have hm : v ∈ l := this ▸ List.getElem_mem hi
    simp [hm]
theorem indexFunc_ok {x F : AVal} {es : List (List AVal)} {h : AHeap} (hE : Elts h x 11 es) (hlen : es.length < 4294967296) (hs : ∀ e ∈ es, e.length = 11) (p : List AVal → Bool)
    (hF : ∀ e ∈ es, ACallV Tryz.prog F [.agg (e.take 11)] h fun r h' => r = .lit (.bool (p e)) ∧ h' = h) :
    ACall Tryz.prog 118 [x, F] h fun r h' => r = .lit (.int .i64 (match es.findIdx? p with | some i => (i : Int) | none => -1)) ∧ h' = h := by
  refine acall_z mixed xf118 rfl ?_
  unfold xc118 xr118 xn118
  simp -dsimp -implicitDefEqProofs only [go_sem, reduceIte, Nat.reduceEqDiff, Nat.reduceAdd, Nat.reduceSub, Nat.reduceLeDiff, Nat.reduceLT, Nat.reduceMul, Int.reduceToNat, Int.reduceLT, Int.reduceLE, Int.reduceEq, Int.reduceNeg, go_sem]
  refine ⟨hE.form, hE.len _ ?_⟩
  simp -dsimp -implicitDefEqProofs only [go_sem, reduceIte, Nat.reduceEqDiff, Nat.reduceAdd, Nat.reduceSub, Nat.reduceLeDiff, Nat.reduceLT, Nat.reduceMul, Int.reduceToNat, Int.reduceLT, Int.reduceLE, Int.reduceEq, Int.reduceNeg, go_sem]
  refine zw_loopD (fun k t h2 => ∃ j : Nat, j ≤ es.length ∧ k = es.length - j ∧ h2 = h ∧ t.get 0 = x ∧ t.get 1 = F ∧ t.get 7 = .lit (.int .i64 es.length) ∧ t.get 8 = .lit (.int .i64 j) ∧ ∀ i, i < j → (es[i]?).map p = some false) es.length ⟨0, by omega, by omega, rfl, rfl, rfl, rfl, rfl, fun i hi => by omega⟩ ?_
  rintro k t h2 ⟨j, hj, rfl, rfl, t0, t1, t7, t8, hno⟩
  simp -dsimp -implicitDefEqProofs only [go_sem, reduceIte, Nat.reduceEqDiff, Nat.reduceAdd, Nat.reduceSub, Nat.reduceLeDiff, Nat.reduceLT, Nat.reduceMul, Int.reduceToNat, Int.reduceLT, Int.reduceLE, Int.reduceEq, Int.reduceNeg, go_sem, t0, t1, t7, t8]
  by_cases hl : (j : Int) < (es.length : Int)
  · have hl2 : j < es.length := by omega
    have hm := List.getElem_mem hl2
    simp -dsimp -implicitDefEqProofs only [go_sem, reduceIte, Nat.reduceEqDiff, Nat.reduceAdd, Nat.reduceSub, Nat.reduceLeDiff, Nat.reduceLT, Nat.reduceMul, Int.reduceToNat, Int.reduceLT, Int.reduceLE, Int.reduceEq, Int.reduceNeg, hl, decide_true, t0, t1, t7, t8]
    refine hE.idx j (es[j]'hl2) (by omega) (by simp [hl2]) _ _ fun q hq => ?_
    simp -dsimp -implicitDefEqProofs only [go_sem, reduceIte, Nat.reduceEqDiff, Nat.reduceAdd, Nat.reduceSub, Nat.reduceLeDiff, Nat.reduceLT, Nat.reduceMul, Int.reduceToNat, Int.reduceLT, Int.reduceLE, Int.reduceEq, Int.reduceNeg, t0, t1, t7, t8]
    refine hq _ _ _ (by rw [hs _ hm]; exact Nat.le_refl _) ?_
    simp -dsimp -implicitDefEqProofs only [go_sem, reduceIte, Nat.reduceEqDiff, Nat.reduceAdd, Nat.reduceSub, Nat.reduceLeDiff, Nat.reduceLT, Nat.reduceMul, Int.reduceToNat, Int.reduceLT, Int.reduceLE, Int.reduceEq, Int.reduceNeg, t0, t1, t7, t8]
    refine zcallV_eq (Nat.le_refl _) (hF _ hm) ?_
    simp -dsimp -implicitDefEqProofs only [go_sem, reduceIte, Nat.reduceEqDiff, Nat.reduceAdd, Nat.reduceSub, Nat.reduceLeDiff, Nat.reduceLT, Nat.reduceMul, Int.reduceToNat, Int.reduceLT, Int.reduceLE, Int.reduceEq, Int.reduceNeg, t0, t1, t7, t8]
    have hw : IntKind.i64.wrap ((j : Int) + 1) = (j : Int) + 1 := wrap64_small (by omega) (by omega)
    by_cases hv : p (es[j]'hl2) = true
    · have hf : es.findIdx? p = some j := by
        rw [List.findIdx?_eq_some_iff_getElem]
        refine ⟨hl2, hv, fun i hi => ?_⟩
        have := hno i hi
        rw [List.getElem?_eq_getElem (by omega)] at this
        simpa using this
      simp -dsimp -implicitDefEqProofs only [go_sem, reduceIte, Nat.reduceEqDiff, Nat.reduceAdd, Nat.reduceSub, Nat.reduceLeDiff, Nat.reduceLT, Nat.reduceMul, Int.reduceToNat, Int.reduceLT, Int.reduceLE, Int.reduceEq, Int.reduceNeg, hv, t0, t1, t7, t8]
      exact .all ⟨by rw [hf], rfl⟩
    · have hv : p (es[j]'hl2) = false := by simpa using hv
      simp -dsimp -implicitDefEqProofs only [go_sem, reduceIte, Nat.reduceEqDiff, Nat.reduceAdd, Nat.reduceSub, Nat.reduceLeDiff, Nat.reduceLT, Nat.reduceMul, Int.reduceToNat, Int.reduceLT, Int.reduceLE, Int.reduceEq, Int.reduceNeg, hv, t0, t1, t7, t8, hw]
      refine ⟨es.length - (j + 1), by omega, j + 1, by omega, rfl, rfl, fun i hi => ?_⟩
      by_cases e : i = j
      · subst e; rw [List.getElem?_eq_getElem hl2]; simpa using hv
      · exact hno i (by omega)
  · have hf : es.findIdx? p = none := by
      rw [List.findIdx?_eq_none_iff]
      intro x hx
      obtain ⟨i, hi, rfl⟩ := List.getElem_of_mem hx
      have := hno i (by omega)
      rw [List.getElem?_eq_getElem hi] at this
      simpa using this
    simp -dsimp -implicitDefEqProofs only [go_sem, reduceIte, Nat.reduceEqDiff, Nat.reduceAdd, Nat.reduceSub, Nat.reduceLeDiff, Nat.reduceLT, Nat.reduceMul, Int.reduceToNat, Int.reduceLT, Int.reduceLE, Int.reduceEq, Int.reduceNeg, hl, decide_false, t0, t1, t7, t8]
    exact .all ⟨by rw [hf], rfl⟩
theorem named_ok {bc : List AVal} {nm s : List UInt8} {a : Nat} {h : AHeap} (hn : bc[1]? = some (.str nm)) (ha : hget h a = some (.rows [[.str s]])) (hb : bc.length = 11) (hc : bc.all AVal.cell1 = true) :
    ACall Tryz.prog 119 [.agg bc, .ptr a 0 0] h fun r h' => r = .lit (.bool (decide (nm = s))) ∧ h' = h := by
  have hlt := hget_lt ha
  have ha2 : hget (h ++ [some (.rows [bc])]) a = some (.rows [[.str s]]) := by rw [hget_append_old hlt]; exact ha
  have hd : ∃ r, bc.drop 1 = .str nm :: r := by
    have h1 : 1 < bc.length := by omega
    rw [List.drop_eq_getElem_cons h1]
    rw [List.getElem?_eq_getElem h1] at hn
    rw [Option.some.inj hn]; exact ⟨_, rfl⟩
  obtain ⟨r, hd⟩ := hd
  refine acall_z mixed xf119 rfl ?_
  unfold xc119 xr119 xn119
  simp -dsimp -implicitDefEqProofs only [go_sem, reduceIte, Nat.reduceEqDiff, Nat.reduceAdd, Nat.reduceSub, Nat.reduceLeDiff, Nat.reduceLT, Nat.reduceMul, Int.reduceToNat, Int.reduceLT, Int.reduceLE, Int.reduceEq, Int.reduceNeg, go_sem, ha2, hd, hc, hb]
  exact fend_cut (.lit _) ⟨rfl, rfl⟩
def nameOf (e : List AVal) : List UInt8 := match (e[1]? : Option AVal) with | some (AVal.str n) => n | _ => []
structure BlockC (e : List AVal) : Prop where
  len : e.length = 11
  flat : e.all AVal.cell1 = true
  name : ∃ n, e[1]? = some (.str n)
theorem drop_cons {l : List AVal} {i : Nat} {x : AVal} (h : l[i]? = some x) : ∃ r, l.drop i = x :: r := by
  have h1 : i < l.length := (List.getElem?_eq_some_iff.1 h).1
  rw [List.drop_eq_getElem_cons h1]
  rw [List.getElem?_eq_getElem h1] at h
  rw [Option.some.inj h]; exact ⟨_, rfl⟩
theorem block_ok {fc : List AVal} {x : AVal} {es : List (List AVal)} {s : List UInt8} (hf : fc[5]? = some x) (hl : fc.length = 6) (hflat : fc.all AVal.cell1 = true) (hE : ∀ h, Elts h x 11 es) (hlen : es.length < 4294967296) (hes : ∀ e ∈ es, BlockC e) (h : AHeap) :
    ACall Tryz.prog 52 [.agg fc, .str s] h fun r h' => r = .lit (.int .i64 (match es.findIdx? (fun e => decide (nameOf e = s)) with | some i => (i : Int) | none => -1)) ∧ h' = h := by
  obtain ⟨r, hd⟩ := drop_cons hf
  refine acall_z mixed xf52 rfl ?_
  unfold xc52 xr52 xn52
  simp -dsimp -implicitDefEqProofs only [go_sem, reduceIte, Nat.reduceEqDiff, Nat.reduceAdd, Nat.reduceSub, Nat.reduceLeDiff, Nat.reduceLT, Nat.reduceMul, Int.reduceToNat, Int.reduceLT, Int.reduceLE, Int.reduceEq, Int.reduceNeg, go_sem, hd, hflat, hl]
  have hg : hget (h ++ [some (.rows [fc]), some (.rows [[.str s]])]) (h.length + 1) = some (.rows [[.str s]]) := by
    rw [hget_append_new]; rfl
  have key : ACall Tryz.prog 118 [x, .func (.func 119) [] [.ptr (h.length + 1) 0 0]] (h ++ [some (.rows [fc]), some (.rows [[.str s]])]) fun r h' => r = .lit (.int .i64 (match es.findIdx? (fun e => decide (nameOf e = s)) with | some i => (i : Int) | none => -1)) ∧ h' = (h ++ [some (.rows [fc]), some (.rows [[.str s]])]) := by
    refine indexFunc_ok (hE _) hlen (fun e he => (hes e he).len) (fun e => decide (nameOf e = s)) fun e he => ?_
    obtain ⟨n, hn⟩ := (hes e he).name
    have e1 : nameOf e = n := by unfold nameOf; rw [hn]
    rw [List.take_of_length_le (by rw [(hes e he).len]; exact Nat.le_refl _), e1]
    exact .inl ⟨(xfunc_ok xf119).1, named_ok hn hg (hes e he).len (hes e he).flat⟩
  refine zcall_eq xf118 (Nat.le_refl _) key ?_
  simp -dsimp -implicitDefEqProofs only [go_sem, reduceIte, Nat.reduceEqDiff, Nat.reduceAdd, Nat.reduceSub, Nat.reduceLeDiff, Nat.reduceLT, Nat.reduceMul, Int.reduceToNat, Int.reduceLT, Int.reduceLE, Int.reduceEq, Int.reduceNeg, go_sem]
  exact fend_cut (.lit _) ⟨rfl, rfl⟩
end Go.AL
