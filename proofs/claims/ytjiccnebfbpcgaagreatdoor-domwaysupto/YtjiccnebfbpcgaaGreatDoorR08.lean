/- The tree of a graph: New. -/
import Derived.Test.YtjiccnebfbpcgaaGreatDoorR07
set_option linter.unusedSimpArgs false
set_option linter.unusedVariables false
set_option linter.unusedSectionVars false
namespace Go.AL
open Go.Proofs
structure GrFit (g : Gr) (n : Nat) : Prop where
  small : g.Small
  nlen : g.next.length = n
  plen : g.prev.length = n
  n32 : n < 4294967296
  ord : (g.order = [] ∧ n = 0) ∨ OrdOk (fun i => g.next.getD i []) n g.order
  tr : ∀ i k, k ∈ g.next.getD i [] ↔ i ∈ g.prev.getD k []
  plt : ∀ i k, k ∈ g.prev.getD i [] → k < n
def treeV (n : Nat) (ord : List Nat) (pl : Nat → Nat) (L : Nat → Option Nat) (lp : AVal) : AVal := .fptr [.fslice (icells n fun v => enc (L v)), .fslice (icells n (plz ord pl)), lp] 0
theorem treeV_on {n : Nat} {ord : List Nat} {pl : Nat → Nat} {L : Nat → Option Nat} {lp : AVal} {h : AHeap} : TreeOn n ord pl L (treeV n ord pl L lp) h := ⟨_, _, _, _, _, _, TreeAt.frozen, IRow.frozen, IRow.frozen⟩
theorem closure_ok {n m : Nat} {ord : List Nat} {pl : Nat → Nat} {L : Nat → Option Nat} {h : AHeap} (hi : ∀ v l, L v = some l → v ∈ ord ∧ l ∈ ord ∧ pl l < pl v) (hn : ∀ v ∈ ord, v < n) {P B : Nat} {a : Int} (hP : hget h P = some (.rows [[.ptr m 0 0]])) (hB : hget h B = some (.rows [[.lit (.int .i64 a)]]))
    (hT : ∀ l, TreeOn n ord pl L (.ptr m 0 0) (h ++ l)) (b : Int) {p : Bool} (hp : p = true ↔ 0 ≤ b ∧ b.toNat ∈ ord ∧ 0 ≤ a ∧ Anc L b.toNat a.toNat) :
    ACall Tryz.prog 60 [.lit (.int .i64 b), .ptr P 0 0, .ptr B 0 0] h fun r h' => r = .lit (.bool p) ∧ h' = h := by
  refine acall_z mixed xf60 rfl ?_
  unfold xc60 xr60 xn60
  simp -dsimp -implicitDefEqProofs only [go_sem, reduceIte, Nat.reduceEqDiff, Nat.reduceAdd, Nat.reduceSub, Nat.reduceLeDiff, Nat.reduceLT, Nat.reduceMul, Int.reduceToNat, Int.reduceLT, Int.reduceLE, Int.reduceEq, Int.reduceNeg, go_sem, hP, hB]
  refine zcall_eq xf19 (Nat.le_refl _) (rules_ok hi hn rfl hT a b hp) ?_
  simp -dsimp -implicitDefEqProofs only [go_sem, reduceIte, Nat.reduceEqDiff, Nat.reduceAdd, Nat.reduceSub, Nat.reduceLeDiff, Nat.reduceLT, Nat.reduceMul, Int.reduceToNat, Int.reduceLT, Int.reduceLE, Int.reduceEq, Int.reduceNeg, go_sem]
  exact .all ⟨rfl, rfl⟩
theorem treeH_weak {n0 nt n : Nat} {t : ATab} {d : List ADef} {h : AHeap} {lf pf : Nat → Int} : Weaker n0 ⟨nt, t, d, treeH h n lf pf (.lit (.slice none 0 0)) []⟩ ⟨nt, t, d, treeH h n lf pf (.gs (h.length + 6) 1 []) [some (.tok 1 0)]⟩ := by
  refine Weaker.heap (fun hl => by simp [treeH] at hl ⊢; omega) fun C w hr => ?_
  have hr := hr.newTok 1
  rw [treeH_app] at hr
  have hr := hr.retell (a := h.length + 4) (es := [[.slice (h.length + 1) 1 0 n (some n), .slice (h.length + 3) 1 0 n (some n), .lit (.slice none 0 0)]]) (es' := [[.slice (h.length + 1) 1 0 n (some n), .slice (h.length + 3) 1 0 n (some n), .gs (h.length + 6) 1 []]])
    (by unfold treeH; rw [hget_append_new]; rfl) rfl fun i x y hx hy => ?_
  · unfold treeH at hr ⊢
    rw [set_new] at hr
    exact hr
  · cases i with
    | succ i => simp at hx
    | zero =>
      simp at hx hy; subst hx; subst hy
      refine ⟨rfl, fun j u v hu hv rv hr => ?_⟩
      match j, hu, hv with
      | 0, hu, hv => simp at hu hv; subst hu; subst hv; exact hr
      | 1, hu, hv => simp at hu hv; subst hu; subst hv; exact hr
      | 2, hu, hv => simp at hu hv; subst hu; subst hv; exact hr.gs_nil _ _
      | j + 3, hu, hv => simp at hu
theorem prevN_ok (g : Gr) (hg : g.Small) (b : Nat) (h : AHeap) : ACall Tryz.prog 22 [g.val, .lit (.int .i64 b)] h fun v h' => v = slV (ints (g.prev.getD b [])) ∧ h' = h :=
  (prev_ok g hg b h).mono fun v h' ⟨e, e2⟩ => ⟨by rw [e, if_pos (by omega), Int.toNat_natCast, List.getD_eq_getElem?_getD], e2⟩
theorem ints_drop1 {ord : List Nat} : ((ints ord).take ord.length).drop 1 = icells (ord.length - 1) fun i => ((ord.getD (i + 1) 0 : Nat) : Int) := by
  rw [List.take_of_length_le (by rw [ints_len]; exact Nat.le_refl _)]
  apply List.ext_getElem (by simp [ints, icells])
  intro i h1 h2
  simp only [icells_len] at h2
  simp [ints, icells, List.getElem_drop, show 1 + i = i + 1 by omega, show i + 1 < ord.length by omega]
theorem domnew_ok {g : Gr} {n : Nat} (G : GrFit g n) (h : AHeap) :
    ACall Tryz.prog 17 [g.val] h fun r h' => ∃ L lp, r = treeV n g.order (fun v => g.order.idxOf v) L lp ∧ h' = h ∧ L 0 = none ∧ DomOk g.order (fun v => g.order.idxOf v) (fun v => g.prev.getD v []) (Must fun i => g.next.getD i []) L := by
  have hn := G.n32
  obtain ⟨hnd, hlt⟩ : g.order.Nodup ∧ ∀ v ∈ g.order, v < n := by
    rcases G.ord with ⟨e, _⟩ | ho
    · rw [e]; exact ⟨by simp, fun v hv => by cases hv⟩
    · exact ⟨ho.nd, ho.lt⟩
  have hN : g.order.length ≤ n := by
    have := hnd.length_le_of_subset (l₂ := List.range n) fun i hi => List.mem_range.2 (hlt i hi)
    rwa [List.length_range] at this
  generalize hord : g.order = ord at hnd hlt hN
  have hplc : ∀ q v, ord[q]? = some v ↔ v ∈ ord ∧ ord.idxOf v = q := idx_place hnd
  have R : ∀ h, IRow h (slV (ints ord)) ord.length (fun i => ((ord.getD i 0 : Nat) : Int)) (fun j => .fptr [.lit (.int .i64 ((ord.getD j 0 : Nat) : Int))] 0) := fun h => by rw [ints_icells]; exact .slV
  have Rl : ∀ h (K : AVal → Prop) u, ZLen (slV (ints ord)) h K u = K (.lit (.int .i64 ord.length)) := fun h => (R h).len
  have Rf := (R h).form
  refine acall_z mixed xf17 rfl ?_
  unfold xc17 xr17 xn17
  simp -dsimp -implicitDefEqProofs only [go_sem, reduceIte, Nat.reduceEqDiff, Nat.reduceAdd, Nat.reduceSub, Nat.reduceLeDiff, Nat.reduceLT, Nat.reduceMul, Int.reduceToNat, Int.reduceLT, Int.reduceLE, Int.reduceEq, Int.reduceNeg, go_sem]
  refine zcall_eq xf56 (Nat.le_refl _) (len_ok g _) ?_
  simp -dsimp -implicitDefEqProofs only [go_sem, reduceIte, Nat.reduceEqDiff, Nat.reduceAdd, Nat.reduceSub, Nat.reduceLeDiff, Nat.reduceLT, Nat.reduceMul, Int.reduceToNat, Int.reduceLT, Int.reduceLE, Int.reduceEq, Int.reduceNeg, go_sem, G.nlen]
  refine zcall_eq xf55 (by simp) (repeat_ok (a := h.length) (z := -1) (by simp -dsimp -implicitDefEqProofs only [go_sem, reduceIte, Nat.reduceEqDiff, Nat.reduceAdd, Nat.reduceSub, Nat.reduceLeDiff, Nat.reduceLT, Nat.reduceMul, Int.reduceToNat, Int.reduceLT, Int.reduceLE, Int.reduceEq, Int.reduceNeg, go_sem]) hn) ?_
  simp -dsimp -implicitDefEqProofs only [go_sem, reduceIte, Nat.reduceEqDiff, Nat.reduceAdd, Nat.reduceSub, Nat.reduceLeDiff, Nat.reduceLT, Nat.reduceMul, Int.reduceToNat, Int.reduceLT, Int.reduceLE, Int.reduceEq, Int.reduceNeg, go_sem]
  refine zcall_eq xf56 (by simp) (len_ok g _) ?_
  simp -dsimp -implicitDefEqProofs only [go_sem, reduceIte, Nat.reduceEqDiff, Nat.reduceAdd, Nat.reduceSub, Nat.reduceLeDiff, Nat.reduceLT, Nat.reduceMul, Int.reduceToNat, Int.reduceLT, Int.reduceLE, Int.reduceEq, Int.reduceNeg, go_sem, G.nlen]
  refine zcall_eq xf55 (by simp) (repeat_ok (a := h.length + 2) (z := -1) (by simp -dsimp -implicitDefEqProofs only [go_sem, reduceIte, Nat.reduceEqDiff, Nat.reduceAdd, Nat.reduceSub, Nat.reduceLeDiff, Nat.reduceLT, Nat.reduceMul, Int.reduceToNat, Int.reduceLT, Int.reduceLE, Int.reduceEq, Int.reduceNeg, go_sem]) hn) ?_
  simp -dsimp -implicitDefEqProofs only [go_sem, reduceIte, Nat.reduceEqDiff, Nat.reduceAdd, Nat.reduceSub, Nat.reduceLeDiff, Nat.reduceLT, Nat.reduceMul, Int.reduceToNat, Int.reduceLT, Int.reduceLE, Int.reduceEq, Int.reduceNeg, go_sem, rep_icells]
  refine zcall_eq xf57 (by simp) (order_ok g G.small _) ?_
  rw [hord]
  simp -dsimp -implicitDefEqProofs only [go_sem, reduceIte, Nat.reduceEqDiff, Nat.reduceAdd, Nat.reduceSub, Nat.reduceLeDiff, Nat.reduceLT, Nat.reduceMul, Int.reduceToNat, Int.reduceLT, Int.reduceLE, Int.reduceEq, Int.reduceNeg, go_sem, Rf, Rl]
  -- the places
  refine zw_loopD (fun k t h2 => ∃ j : Nat, j ≤ ord.length ∧ k = ord.length - j ∧ h2 = treeH h n (fun _ => -1) (fun v => if v ∈ ord.take j then (ord.idxOf v : Int) else -1) (.lit (.slice none 0 0)) [] ∧ t.get 0 = g.val ∧ t.get 3 = .ptr (h.length + 5) 0 0 ∧ t.get 4 = slV (ints ord) ∧ t.get 24 = slV (ints ord) ∧
      t.get 25 = .lit (.int .i64 ord.length) ∧ t.get 26 = .lit (.int .i64 j)) ord.length ⟨0, Nat.zero_le _, rfl, by simp [treeH], by simp -dsimp -implicitDefEqProofs only [go_sem, reduceIte, Nat.reduceEqDiff, Nat.reduceAdd, Nat.reduceSub, Nat.reduceLeDiff, Nat.reduceLT, Nat.reduceMul, Int.reduceToNat, Int.reduceLT, Int.reduceLE, Int.reduceEq, Int.reduceNeg, go_sem], by simp -dsimp -implicitDefEqProofs only [go_sem, reduceIte, Nat.reduceEqDiff, Nat.reduceAdd, Nat.reduceSub, Nat.reduceLeDiff, Nat.reduceLT, Nat.reduceMul, Int.reduceToNat, Int.reduceLT, Int.reduceLE, Int.reduceEq, Int.reduceNeg, go_sem], by simp -dsimp -implicitDefEqProofs only [go_sem, reduceIte, Nat.reduceEqDiff, Nat.reduceAdd, Nat.reduceSub, Nat.reduceLeDiff, Nat.reduceLT, Nat.reduceMul, Int.reduceToNat, Int.reduceLT, Int.reduceLE, Int.reduceEq, Int.reduceNeg, go_sem], by simp -dsimp -implicitDefEqProofs only [go_sem, reduceIte, Nat.reduceEqDiff, Nat.reduceAdd, Nat.reduceSub, Nat.reduceLeDiff, Nat.reduceLT, Nat.reduceMul, Int.reduceToNat, Int.reduceLT, Int.reduceLE, Int.reduceEq, Int.reduceNeg, go_sem], by simp -dsimp -implicitDefEqProofs only [go_sem, reduceIte, Nat.reduceEqDiff, Nat.reduceAdd, Nat.reduceSub, Nat.reduceLeDiff, Nat.reduceLT, Nat.reduceMul, Int.reduceToNat, Int.reduceLT, Int.reduceLE, Int.reduceEq, Int.reduceNeg, go_sem], by simp -dsimp -implicitDefEqProofs only [go_sem, reduceIte, Nat.reduceEqDiff, Nat.reduceAdd, Nat.reduceSub, Nat.reduceLeDiff, Nat.reduceLT, Nat.reduceMul, Int.reduceToNat, Int.reduceLT, Int.reduceLE, Int.reduceEq, Int.reduceNeg, go_sem]; rfl⟩ ?_
  rintro k t h2 ⟨j, hj, rfl, rfl, t0, t3, t4, t24, t25, t26⟩
  simp -dsimp -implicitDefEqProofs only [go_sem, reduceIte, Nat.reduceEqDiff, Nat.reduceAdd, Nat.reduceSub, Nat.reduceLeDiff, Nat.reduceLT, Nat.reduceMul, Int.reduceToNat, Int.reduceLT, Int.reduceLE, Int.reduceEq, Int.reduceNeg, go_sem, t25, t26]
  by_cases hlj : (j : Int) < (ord.length : Int)
  · have hj2 : j < ord.length := by omega
    have r1 := (R h).idx j hj2
    have r2 : ∀ h (K : AVal → Prop) u, ZLoad h (AVal.fptr [.lit (.int .i64 ((ord.getD j 0 : Nat) : Int))] 0) 1 false K u = K (.lit (.int .i64 (ord[j]'hj2 : Nat))) := fun h K u => by rw [(R h).rd j hj2]; simp [hj2]
    have hbn := hlt _ (List.getElem_mem hj2)
    have hbn2 : ((ord[j]'hj2 : Nat) : Int) < (n : Int) := by omega
    have hw : IntKind.i64.wrap ((j : Int) + 1) = (j : Int) + 1 := wrapI (by omega) (by omega)
    have ic := fun f => icells_get (n := n) (j := ord[j]'hj2) (f := f) hbn
    simp -dsimp -implicitDefEqProofs only [go_sem, reduceIte, Nat.reduceEqDiff, Nat.reduceAdd, Nat.reduceSub, Nat.reduceLeDiff, Nat.reduceLT, Nat.reduceMul, Int.reduceToNat, Int.reduceLT, Int.reduceLE, Int.reduceEq, Int.reduceNeg, go_sem, hlj, decide_true, t3, t24, t25, t26, r1, r2, treeH, hbn2, ic, icells_set, hw]
    refine ⟨ord.length - (j + 1), by omega, j + 1, by omega, rfl, ?_, t0, t4, rfl⟩
    rw [icells_congr (n := n) (f := fun i => if i = ord[j]'hj2 then (j : Int) else if i ∈ ord.take j then (ord.idxOf i : Int) else -1) (g := fun v => if v ∈ ord.take (j + 1) then (ord.idxOf v : Int) else -1) fun i hi => ?_]
    rw [List.take_add_one, List.getElem?_eq_getElem hj2]
    simp only [Option.toList_some, List.mem_append, List.mem_cons, List.not_mem_nil, or_false]
    by_cases e : i = ord[j]'hj2
    · rw [if_pos e, if_pos (.inr e), e, hnd.idxOf_getElem j hj2]
    · rw [if_neg e]; simp only [e, or_false]
  · have hj2 : j = ord.length := by omega
    subst hj2
    have hpl : (fun v => if v ∈ ord.take ord.length then (ord.idxOf v : Int) else -1) = plz ord (fun v => ord.idxOf v) := by
      funext v; rw [List.take_length]; rfl
    rw [hpl]
    clear hpl
    simp -dsimp -implicitDefEqProofs only [go_sem, reduceIte, Nat.reduceEqDiff, Nat.reduceAdd, Nat.reduceSub, Nat.reduceLeDiff, Nat.reduceLT, Nat.reduceMul, Int.reduceToNat, Int.reduceLT, Int.reduceLE, Int.reduceEq, Int.reduceNeg, hlj, decide_false, t4, Rf, Rl]
    obtain ⟨pl, hpl⟩ : ∃ pl : Nat → Nat, pl = fun v => ord.idxOf v := ⟨_, rfl⟩
    rw [← hpl]
    have hplc : ∀ q v, ord[q]? = some v ↔ v ∈ ord ∧ pl v = q := by rw [hpl]; exact hplc
    clear hpl
    have hpr : ∀ u k, u ∈ ord → (k ∈ g.next.getD u [] ↔ u ∈ g.prev.getD k []) := fun u k _ => G.tr u k
    have hah : 1 < ord.length → Ahead ord pl (fun v => g.prev.getD v []) (Must fun i => g.next.getD i []) := fun h1 => by
      rcases G.ord with ⟨e, _⟩ | ho
      · rw [hord] at e; rw [e] at h1; simp at h1
      · rw [hord] at ho; exact ahead_of ho hpr hplc
    have hfew : ord.length ≤ 1 → DomOk ord pl (fun v => g.prev.getD v []) (Must fun i => g.next.getD i []) fun _ => none := fun h1 => by
      refine DomOk.few h1 ?_
      rcases G.ord with ⟨e, _⟩ | ho
      · rw [hord] at e; exact .inl e
      · rw [hord] at ho; exact .inr ho.head
    clear t24 t25 t26
    refine zw_loopD (fun k t h2 => ∃ L ch, t.get 7 = .lit (.bool ch) ∧ h2 = treeH h n (fun v => enc (L v)) (plz ord pl) (.lit (.slice none 0 0)) [] ∧ t.get 0 = g.val ∧ t.get 3 = .ptr (h.length + 5) 0 0 ∧ t.get 4 = slV (ints ord) ∧
      ((ch = true ∧ 1 < ord.length ∧ LdInv ord pl (fun v => g.prev.getD v []) (Must fun i => g.next.getD i []) 1 L ∧ k = far ord.length pl L ord + 1) ∨ (ch = false ∧ DomOk ord pl (fun v => g.prev.getD v []) (Must fun i => g.next.getD i []) L ∧ L 0 = none ∧ k = 0)))
      (if 1 < ord.length then far ord.length pl (fun _ => none) ord + 1 else 0) ⟨fun _ => none, decide ((1 : Int) < (ord.length : Int)), by simp -dsimp -implicitDefEqProofs only [go_sem, reduceIte, Nat.reduceEqDiff, Nat.reduceAdd, Nat.reduceSub, Nat.reduceLeDiff, Nat.reduceLT, Nat.reduceMul, Int.reduceToNat, Int.reduceLT, Int.reduceLE, Int.reduceEq, Int.reduceNeg, go_sem], rfl, by simp -dsimp -implicitDefEqProofs only [go_sem, reduceIte, Nat.reduceEqDiff, Nat.reduceAdd, Nat.reduceSub, Nat.reduceLeDiff, Nat.reduceLT, Nat.reduceMul, Int.reduceToNat, Int.reduceLT, Int.reduceLE, Int.reduceEq, Int.reduceNeg, go_sem, t0], by simp -dsimp -implicitDefEqProofs only [go_sem, reduceIte, Nat.reduceEqDiff, Nat.reduceAdd, Nat.reduceSub, Nat.reduceLeDiff, Nat.reduceLT, Nat.reduceMul, Int.reduceToNat, Int.reduceLT, Int.reduceLE, Int.reduceEq, Int.reduceNeg, go_sem, t3], by simp -dsimp -implicitDefEqProofs only [go_sem, reduceIte, Nat.reduceEqDiff, Nat.reduceAdd, Nat.reduceSub, Nat.reduceLeDiff, Nat.reduceLT, Nat.reduceMul, Int.reduceToNat, Int.reduceLT, Int.reduceLE, Int.reduceEq, Int.reduceNeg, go_sem, t4], ?_⟩ ?_
    · by_cases h1 : 1 < ord.length
      · exact .inl ⟨decide_eq_true (by omega), h1, .start (hah h1), if_pos h1⟩
      · exact .inr ⟨decide_eq_false (by omega), hfew (by omega), rfl, if_neg h1⟩
    clear t0 t3 t4 t
    rintro k t h2 ⟨L, ch, t7, rfl, t0, t3, t4, hch⟩
    simp -dsimp -implicitDefEqProofs only [go_sem, reduceIte, Nat.reduceEqDiff, Nat.reduceAdd, Nat.reduceSub, Nat.reduceLeDiff, Nat.reduceLT, Nat.reduceMul, Int.reduceToNat, Int.reduceLT, Int.reduceLE, Int.reduceEq, Int.reduceNeg, go_sem, t7]
    rcases hch with ⟨rfl, h1, hinv, rfl⟩ | ⟨rfl, hdom, hL0, rfl⟩
    · have ga := hah h1
      have hsl : slV (ints ord) = .fslice (ints ord) := slV_ne fun e => by have := congrArg List.length e; rw [ints_len, List.length_nil] at this; omega
      simp -dsimp -implicitDefEqProofs only [go_sem, reduceIte, Nat.reduceEqDiff, Nat.reduceAdd, Nat.reduceSub, Nat.reduceLeDiff, Nat.reduceLT, Nat.reduceMul, Int.reduceToNat, Int.reduceLT, Int.reduceLE, Int.reduceEq, Int.reduceNeg, go_sem, t4, hsl, ints_len, ints_drop1, icells_len]
      refine ⟨ints_one, by omega, ?_⟩
      have Rd := IRow.frozen (h := h) (n := ord.length - 1) (f := fun i => ((ord.getD (i + 1) 0 : Nat) : Int))
      refine zw_loopD (fun k t h3 => ∃ q L' ch, 1 ≤ q ∧ q ≤ ord.length ∧ k = ord.length - q ∧ h3 = treeH h n (fun v => enc (L' v)) (plz ord pl) (.lit (.slice none 0 0)) [] ∧ LdInv ord pl (fun v => g.prev.getD v []) (Must fun i => g.next.getD i []) q L' ∧
        (ch = false → ∀ q' b, 1 ≤ q' → q' < q → ord[q']? = some b → IsMeet L' (g.prev.getD b []) (L' b)) ∧ (ch = true → far ord.length pl L' ord < far ord.length pl L ord) ∧ far ord.length pl L' ord ≤ far ord.length pl L ord ∧ t.get 7 = .lit (.bool ch) ∧
        t.get 0 = g.val ∧ t.get 3 = .ptr (h.length + 5) 0 0 ∧ t.get 4 = slV (ints ord) ∧ t.get 44 = .fslice (icells (ord.length - 1) fun i => ((ord.getD (i + 1) 0 : Nat) : Int)) ∧ t.get 45 = .lit (.int .i64 ((ord.length - 1 : Nat) : Int)) ∧ t.get 46 = .lit (.int .i64 ((q - 1 : Nat) : Int))) (ord.length - 1)
        ⟨1, L, false, Nat.le_refl _, by omega, rfl, rfl, hinv, (fun _ q' b h1 h2 => by omega), (fun e => by cases e), Nat.le_refl _, by simp -dsimp -implicitDefEqProofs only [go_sem, reduceIte, Nat.reduceEqDiff, Nat.reduceAdd, Nat.reduceSub, Nat.reduceLeDiff, Nat.reduceLT, Nat.reduceMul, Int.reduceToNat, Int.reduceLT, Int.reduceLE, Int.reduceEq, Int.reduceNeg, go_sem], by simp -dsimp -implicitDefEqProofs only [go_sem, reduceIte, Nat.reduceEqDiff, Nat.reduceAdd, Nat.reduceSub, Nat.reduceLeDiff, Nat.reduceLT, Nat.reduceMul, Int.reduceToNat, Int.reduceLT, Int.reduceLE, Int.reduceEq, Int.reduceNeg, go_sem, t0], by simp -dsimp -implicitDefEqProofs only [go_sem, reduceIte, Nat.reduceEqDiff, Nat.reduceAdd, Nat.reduceSub, Nat.reduceLeDiff, Nat.reduceLT, Nat.reduceMul, Int.reduceToNat, Int.reduceLT, Int.reduceLE, Int.reduceEq, Int.reduceNeg, go_sem, t3], by simp -dsimp -implicitDefEqProofs only [go_sem, reduceIte, Nat.reduceEqDiff, Nat.reduceAdd, Nat.reduceSub, Nat.reduceLeDiff, Nat.reduceLT, Nat.reduceMul, Int.reduceToNat, Int.reduceLT, Int.reduceLE, Int.reduceEq, Int.reduceNeg, go_sem, t4, hsl], by simp -dsimp -implicitDefEqProofs only [go_sem, reduceIte, Nat.reduceEqDiff, Nat.reduceAdd, Nat.reduceSub, Nat.reduceLeDiff, Nat.reduceLT, Nat.reduceMul, Int.reduceToNat, Int.reduceLT, Int.reduceLE, Int.reduceEq, Int.reduceNeg, go_sem], by simp -dsimp -implicitDefEqProofs only [go_sem, reduceIte, Nat.reduceEqDiff, Nat.reduceAdd, Nat.reduceSub, Nat.reduceLeDiff, Nat.reduceLT, Nat.reduceMul, Int.reduceToNat, Int.reduceLT, Int.reduceLE, Int.reduceEq, Int.reduceNeg, go_sem], by simp -dsimp -implicitDefEqProofs only [go_sem, reduceIte, Nat.reduceEqDiff, Nat.reduceAdd, Nat.reduceSub, Nat.reduceLeDiff, Nat.reduceLT, Nat.reduceMul, Int.reduceToNat, Int.reduceLT, Int.reduceLE, Int.reduceEq, Int.reduceNeg, go_sem]; rfl⟩ ?_
      clear t0 t3 t4 t7 t
      rintro k t h3 ⟨q, L', ch, hq1, hq2, rfl, rfl, hinv', hfix, hfar1, hfar2, t7, t0, t3, t4, t44, t45, t46⟩
      simp -dsimp -implicitDefEqProofs only [go_sem, reduceIte, Nat.reduceEqDiff, Nat.reduceAdd, Nat.reduceSub, Nat.reduceLeDiff, Nat.reduceLT, Nat.reduceMul, Int.reduceToNat, Int.reduceLT, Int.reduceLE, Int.reduceEq, Int.reduceNeg, go_sem, t45, t46]
      by_cases hlq : ((q - 1 : Nat) : Int) < ((ord.length - 1 : Nat) : Int)
      · have hq3 : q < ord.length := by omega
        have hbq : ord[q]? = some (ord[q]'hq3) := List.getElem?_eq_getElem hq3
        generalize hb : ord[q]'hq3 = b at hbq
        have hbo := List.mem_of_getElem? hbq
        have hbn := hlt b hbo
        have hbn2 : (b : Int) < (n : Int) := by omega
        have r1 := Rd.idx (q - 1) (by omega)
        have r2 : ∀ h (K : AVal → Prop) u, ZLoad h (AVal.fptr [.lit (.int .i64 ((ord.getD (q - 1 + 1) 0 : Nat) : Int))] 0) 1 false K u = K (.lit (.int .i64 (b : Nat))) := fun h K u => by
          rw [(IRow.frozen (h := h) (n := ord.length - 1) (f := fun i => ((ord.getD (i + 1) 0 : Nat) : Int))).rd (q - 1) (by omega)]
          simp only [show q - 1 + 1 = q by omega]
          rw [List.getD_eq_getElem?_getD, hbq]; rfl
        obtain ⟨o, ho⟩ := meet_ex ga hinv' (g.prev.getD b []) (g.prev.getD b []).length (Nat.le_refl _)
        rw [List.take_length] at ho
        have hw : IntKind.i64.wrap (((q - 1 : Nat) : Int) + 1) = ((q + 1 - 1 : Nat) : Int) := by rw [wrapI (by omega) (by omega)]; omega
        have ic := fun f => icells_get (n := n) (j := b) (f := f) hbn
        have hpl32 : (g.prev.getD b []).length < 4294967296 := by
          rw [List.getD_eq_getElem?_getD, List.getElem?_eq_getElem (by rw [G.plen]; exact hbn)]
          exact G.small.prev _ (List.getElem_mem _)
        simp -dsimp -implicitDefEqProofs only [go_sem, reduceIte, Nat.reduceEqDiff, Nat.reduceAdd, Nat.reduceSub, Nat.reduceLeDiff, Nat.reduceLT, Nat.reduceMul, Int.reduceToNat, Int.reduceLT, Int.reduceLE, Int.reduceEq, Int.reduceNeg, go_sem, hlq, decide_true, t44, t46, r1, r2]
        refine zw_draw0 rfl ?_
        simp -dsimp -implicitDefEqProofs only [go_sem, reduceIte, Nat.reduceEqDiff, Nat.reduceAdd, Nat.reduceSub, Nat.reduceLeDiff, Nat.reduceLT, Nat.reduceMul, Int.reduceToNat, Int.reduceLT, Int.reduceLE, Int.reduceEq, Int.reduceNeg, go_sem, t0, t3, treeH]
        refine ⟨_, _, .inl ⟨(xfunc_ok xf22).1, prevN_ok g G.small b _⟩, ?_⟩
        simp -dsimp -implicitDefEqProofs only [go_sem, reduceIte, Nat.reduceEqDiff, Nat.reduceAdd, Nat.reduceSub, Nat.reduceLeDiff, Nat.reduceLT, Nat.reduceMul, Int.reduceToNat, Int.reduceLT, Int.reduceLE, Int.reduceEq, Int.reduceNeg, go_sem]
        refine ⟨fun _ => trivial, _, _, .inl ⟨(xfunc_ok xf58).1, meet_ok ga hinv' hlt (treeH_on (h := h) (lp := .lit (.slice none 0 0)) (l := [])) (fun p hp => G.plt b p hp) hpl32 ho⟩, ?_⟩
        obtain ⟨c, rfl, hco, hstep, hch⟩ := hinv'.step ga hq1 hbq ho
        simp -dsimp -implicitDefEqProofs only [go_sem, reduceIte, Nat.reduceEqDiff, Nat.reduceAdd, Nat.reduceSub, Nat.reduceLeDiff, Nat.reduceLT, Nat.reduceMul, Int.reduceToNat, Int.reduceLT, Int.reduceLE, Int.reduceEq, Int.reduceNeg, go_sem, t3, hbn2, ic, treeH]
        by_cases hne : enc (some c) = enc (L' b)
        · have hLb : L' b = some c := (enc_inj hne).symm
          have hup : upd L' b (some c) = L' := by
            funext v
            by_cases e : v = b
            · subst e; rw [upd_same, hLb]
            · exact upd_ne e
          rw [hup] at hstep
          simp -dsimp -implicitDefEqProofs only [go_sem, reduceIte, Nat.reduceEqDiff, Nat.reduceAdd, Nat.reduceSub, Nat.reduceLeDiff, Nat.reduceLT, Nat.reduceMul, Int.reduceToNat, Int.reduceLT, Int.reduceLE, Int.reduceEq, Int.reduceNeg, go_sem, hne, decide_true, t46, hw]
          refine ⟨ord.length - (q + 1), by omega, q + 1, L', ch, by omega, by omega, rfl, rfl, hstep, fun e q' b' h1' h2' hb' => ?_, hfar1, hfar2, t7, t0, t3, t4, t44, t45, rfl⟩
          by_cases e' : q' = q
          · subst e'; rw [hbq] at hb'; cases hb'; rw [hLb]; exact ho
          · exact hfix e q' b' h1' (by omega) hb'
        · have hne2 : L' b ≠ some c := fun e => hne (by rw [e])
          simp -dsimp -implicitDefEqProofs only [go_sem, reduceIte, Nat.reduceEqDiff, Nat.reduceAdd, Nat.reduceSub, Nat.reduceLeDiff, Nat.reduceLT, Nat.reduceMul, Int.reduceToNat, Int.reduceLT, Int.reduceLE, Int.reduceEq, Int.reduceNeg, go_sem, hne, decide_false, t3, t46, hw, hbn2, ic, icells_set]
          have hfl := far_upd (L := L') hbo (by have := ((hplc (pl c) c).2 ⟨hco, rfl⟩); exact (List.getElem?_eq_some_iff.1 this).1) (hch.imp id fun ⟨c', e1, _, e2⟩ => ⟨c', e1, e2⟩) hne2
          refine ⟨ord.length - (q + 1), by omega, q + 1, upd L' b (some c), true, by omega, by omega, rfl, ?_, hstep, (fun e => by cases e), (fun _ => by omega), by omega, rfl, t0, t4, t44, t45, rfl⟩
          have hic : (icells n fun i => if i = b then enc (some c) else enc (L' i)) = icells n fun v => enc (upd L' b (some c) v) := icells_congr fun i hi => by
            by_cases e : i = b
            · rw [if_pos e, e, upd_same]
            · rw [if_neg e, upd_ne e]
          rw [hic]
          rfl
      · have hq3 : q = ord.length := by omega
        subst hq3
        simp -dsimp -implicitDefEqProofs only [go_sem, reduceIte, Nat.reduceEqDiff, Nat.reduceAdd, Nat.reduceSub, Nat.reduceLeDiff, Nat.reduceLT, Nat.reduceMul, Int.reduceToNat, Int.reduceLT, Int.reduceLE, Int.reduceEq, Int.reduceNeg, hlq, decide_false]
        have hL0 : L' 0 = none := by
          cases e : L' 0 with
          | none => rfl
          | some l => have := (hinv'.i1 0 l e).2.2.1; have := ga.root.2; omega
        cases ch with
        | true => exact ⟨far ord.length pl L' ord + 1, by have := hfar1 rfl; omega, L', true, t7, rfl, t0, t3, t4, .inl ⟨rfl, h1, hinv'.again ga, rfl⟩⟩
        | false => exact ⟨0, by omega, L', false, t7, rfl, t0, t3, t4, .inr ⟨rfl, hinv'.done ga fun q' b h1' hb => hfix rfl q' b h1' (List.getElem?_eq_some_iff.1 hb).1 hb, hL0, rfl⟩⟩
    · simp -dsimp -implicitDefEqProofs only [go_sem, reduceIte, Nat.reduceEqDiff, Nat.reduceAdd, Nat.reduceSub, Nat.reduceLeDiff, Nat.reduceLT, Nat.reduceMul, Int.reduceToNat, Int.reduceLT, Int.reduceLE, Int.reduceEq, Int.reduceNeg, go_sem, t0, t3]
      refine zcall_eq xf56 (Nat.le_refl _) (len_ok g _) ?_
      simp -dsimp -implicitDefEqProofs only [go_sem, reduceIte, Nat.reduceEqDiff, Nat.reduceAdd, Nat.reduceSub, Nat.reduceLeDiff, Nat.reduceLT, Nat.reduceMul, Int.reduceToNat, Int.reduceLT, Int.reduceLE, Int.reduceEq, Int.reduceNeg, go_sem, G.nlen]
      refine zw_loopDW (fun k t h3 => ∃ (i : Nat) (lst : List Nat) (l : AHeap), i ≤ n ∧ k = n - i ∧ lst.length ≤ i ∧ h3 = treeH h n (fun v => enc (L v)) (plz ord pl) (.gs (h.length + 6) 1 (ints lst)) (some (.tok 1 lst.length) :: l) ∧ t.get 0 = g.val ∧ t.get 3 = .ptr (h.length + 5) 0 0 ∧ t.get 73 = .lit (.int .i64 n) ∧ t.get 74 = .lit (.int .i64 i)) n _ _ treeH_weak
        ⟨0, [], [], Nat.zero_le _, rfl, Nat.le_refl _, rfl, by simp -dsimp -implicitDefEqProofs only [go_sem, reduceIte, Nat.reduceEqDiff, Nat.reduceAdd, Nat.reduceSub, Nat.reduceLeDiff, Nat.reduceLT, Nat.reduceMul, Int.reduceToNat, Int.reduceLT, Int.reduceLE, Int.reduceEq, Int.reduceNeg, go_sem, t0], by simp -dsimp -implicitDefEqProofs only [go_sem, reduceIte, Nat.reduceEqDiff, Nat.reduceAdd, Nat.reduceSub, Nat.reduceLeDiff, Nat.reduceLT, Nat.reduceMul, Int.reduceToNat, Int.reduceLT, Int.reduceLE, Int.reduceEq, Int.reduceNeg, go_sem, t3], by simp -dsimp -implicitDefEqProofs only [go_sem, reduceIte, Nat.reduceEqDiff, Nat.reduceAdd, Nat.reduceSub, Nat.reduceLeDiff, Nat.reduceLT, Nat.reduceMul, Int.reduceToNat, Int.reduceLT, Int.reduceLE, Int.reduceEq, Int.reduceNeg, go_sem], by simp -dsimp -implicitDefEqProofs only [go_sem, reduceIte, Nat.reduceEqDiff, Nat.reduceAdd, Nat.reduceSub, Nat.reduceLeDiff, Nat.reduceLT, Nat.reduceMul, Int.reduceToNat, Int.reduceLT, Int.reduceLE, Int.reduceEq, Int.reduceNeg, go_sem]; rfl⟩ ?_
      clear t0 t3 t4 t7 t
      rintro k t h3 ⟨i, lst, l, hi, rfl, hll, hH, t0, t3, t73, t74⟩
      have e5 : hget h3 (h.length + 5) = some (.rows [[.ptr (h.length + 4) 0 0]]) := by rw [hH]; unfold treeH; rw [hget_append_new]; rfl
      have e4 : hget h3 (h.length + 4) = some (.rows [[.slice (h.length + 1) 1 0 n (some n), .slice (h.length + 3) 1 0 n (some n), .gs (h.length + 6) 1 (ints lst)]]) := by rw [hH]; unfold treeH; rw [hget_append_new]; rfl
      have e6 : hget h3 (h.length + 6) = some (.tok 1 lst.length) := by rw [hH]; unfold treeH; rw [hget_append_new]; rfl
      simp -dsimp -implicitDefEqProofs only [go_sem, reduceIte, Nat.reduceEqDiff, Nat.reduceAdd, Nat.reduceSub, Nat.reduceLeDiff, Nat.reduceLT, Nat.reduceMul, Int.reduceToNat, Int.reduceLT, Int.reduceLE, Int.reduceEq, Int.reduceNeg, go_sem, t73, t74]
      by_cases hin : (i : Int) < (n : Int)
      · have hin2 : i < n := by omega
        have a5 : ∀ l', hget (h3 ++ l') (h.length + 5) = some (.rows [[.ptr (h.length + 4) 0 0]]) := fun l' => by rw [hget_append_old (hget_lt e5)]; exact e5
        have a4 : ∀ l', hget (h3 ++ l') (h.length + 4) = some (.rows [[.slice (h.length + 1) 1 0 n (some n), .slice (h.length + 3) 1 0 n (some n), .gs (h.length + 6) 1 (ints lst)]]) := fun l' => by rw [hget_append_old (hget_lt e4)]; exact e4
        have a6 : ∀ l', hget (h3 ++ l') (h.length + 6) = some (.tok 1 lst.length) := fun l' => by rw [hget_append_old (hget_lt e6)]; exact e6
        have hon : ∀ l', TreeOn n ord pl L (.ptr (h.length + 4) 0 0) (h3 ++ l') := fun l' => by rw [hH, treeH_app]; exact treeH_on
        have hw : IntKind.i64.wrap ((i : Int) + 1) = (i : Int) + 1 := wrapI (by omega) (by omega)
        simp -dsimp -implicitDefEqProofs only [go_sem, reduceIte, Nat.reduceEqDiff, Nat.reduceAdd, Nat.reduceSub, Nat.reduceLeDiff, Nat.reduceLT, Nat.reduceMul, Int.reduceToNat, Int.reduceLT, Int.reduceLE, Int.reduceEq, Int.reduceNeg, go_sem, hin, decide_true, t0, t73, t74]
        refine zcall_eq xf22 (Nat.le_refl _) (prevN_ok g G.small i _) ?_
        simp -dsimp -implicitDefEqProofs only [go_sem, reduceIte, Nat.reduceEqDiff, Nat.reduceAdd, Nat.reduceSub, Nat.reduceLeDiff, Nat.reduceLT, Nat.reduceMul, Int.reduceToNat, Int.reduceLT, Int.reduceLE, Int.reduceEq, Int.reduceNeg, go_sem, t3]
        have hpl32 : (g.prev.getD i []).length < 4294967296 := by
          rw [List.getD_eq_getElem?_getD, List.getElem?_eq_getElem (by rw [G.plen]; exact hin2)]
          exact G.small.prev _ (List.getElem_mem _)
        have Rp : IRow (h3 ++ [some (.rows [[.lit (.int .i64 i)]])]) (slV (ints (g.prev.getD i []))) (g.prev.getD i []).length (fun j => (((g.prev.getD i []).getD j 0 : Nat) : Int)) (fun j => .fptr [.lit (.int .i64 (((g.prev.getD i []).getD j 0 : Nat) : Int))] 0) := by rw [ints_icells]; exact .slV
        refine zcall_any xf59 (containsFunc_ok Rp hpl32 (fun z => @decide _ (Classical.propDecidable (0 ≤ z ∧ z.toNat ∈ ord ∧ (0 : Int) ≤ (i : Int) ∧ Anc L z.toNat (i : Int).toNat))) fun j hj => .inl ⟨(xfunc_ok xf60).1, closure_ok (a := (i : Int)) hdom.i1 hlt (a5 _) (by simp -dsimp -implicitDefEqProofs only [go_sem, reduceIte, Nat.reduceEqDiff, Nat.reduceAdd, Nat.reduceSub, Nat.reduceLeDiff, Nat.reduceLT, Nat.reduceMul, Int.reduceToNat, Int.reduceLT, Int.reduceLE, Int.reduceEq, Int.reduceNeg, go_sem]) (fun l' => by rw [List.append_assoc]; exact hon _) _ (by simp)⟩) ?_
        rintro v h' ⟨⟨q, rfl⟩, rfl⟩
        refine ⟨Nat.le_refl _, ?_⟩
        simp -dsimp -implicitDefEqProofs only [go_sem, reduceIte, Nat.reduceEqDiff, Nat.reduceAdd, Nat.reduceSub, Nat.reduceLeDiff, Nat.reduceLT, Nat.reduceMul, Int.reduceToNat, Int.reduceLT, Int.reduceLE, Int.reduceEq, Int.reduceNeg, go_sem]
        cases q with
        | false =>
          simp -dsimp -implicitDefEqProofs only [go_sem, reduceIte, Nat.reduceEqDiff, Nat.reduceAdd, Nat.reduceSub, Nat.reduceLeDiff, Nat.reduceLT, Nat.reduceMul, Int.reduceToNat, Int.reduceLT, Int.reduceLE, Int.reduceEq, Int.reduceNeg, go_sem, t74, hw]
          refine ⟨n - (i + 1), by omega, i + 1, lst, l ++ [some (.rows [[.lit (.int .i64 i)]])], by omega, rfl, by omega, by rw [hH, treeH_app]; rfl, t0, t3, t73, rfl⟩
        | true =>
          simp -dsimp -implicitDefEqProofs only [go_sem, reduceIte, Nat.reduceEqDiff, Nat.reduceAdd, Nat.reduceSub, Nat.reduceLeDiff, Nat.reduceLT, Nat.reduceMul, Int.reduceToNat, Int.reduceLT, Int.reduceLE, Int.reduceEq, Int.reduceNeg, go_sem]
          refine zw_draw [.rows [[.lit (.int .i64 i)]]] rfl ?_
          have d4 : ∀ l' o, hget (hset (h3 ++ l') (h.length + 6) o) (h.length + 4) = some (.rows [[.slice (h.length + 1) 1 0 n (some n), .slice (h.length + 3) 1 0 n (some n), .gs (h.length + 6) 1 (ints lst)]]) := fun l' o => by rw [hget_hset_ne (by omega)]; exact a4 l'
          have d5 : ∀ l' o, hget (hset (h3 ++ l') (h.length + 6) o) (h.length + 5) = some (.rows [[.ptr (h.length + 4) 0 0]]) := fun l' o => by rw [hget_hset_ne (by omega)]; exact a5 l'
          simp -dsimp -implicitDefEqProofs only [go_sem, reduceIte, Nat.reduceEqDiff, Nat.reduceAdd, Nat.reduceSub, Nat.reduceLeDiff, Nat.reduceLT, Nat.reduceMul, Int.reduceToNat, Int.reduceLT, Int.reduceLE, Int.reduceEq, Int.reduceNeg, go_sem, t3, a4, a5, a6, d4, d5, ints_len, t74, hw]
          refine ⟨by omega, by rw [hset_length]; simp, fun _ => trivial, by rw [hset_length (a := h.length + 4)]; exact Nat.le_refl _, n - (i + 1), by omega, i + 1, lst ++ [i], l ++ [some (.rows [[.lit (.int .i64 i)]]), some (.rows [[.lit (.int .i64 i)]])], by omega, rfl, by simp; omega, ?_, t0, t73, rfl⟩
          have es : ints (lst ++ [i]) = ints lst ++ [[.lit (.int .i64 i)]] := by simp [ints]
          rw [hH, treeH_app, es]
          unfold treeH
          simp -dsimp -implicitDefEqProofs only [go_sem, reduceIte, Nat.reduceEqDiff, Nat.reduceAdd, Nat.reduceSub, Nat.reduceLeDiff, Nat.reduceLT, Nat.reduceMul, Int.reduceToNat, Int.reduceLT, Int.reduceLE, Int.reduceEq, Int.reduceNeg, go_sem]
      · have hi2 : i = n := by omega
        subst hi2
        simp -dsimp -implicitDefEqProofs only [go_sem, reduceIte, Nat.reduceEqDiff, Nat.reduceAdd, Nat.reduceSub, Nat.reduceLeDiff, Nat.reduceLT, Nat.reduceMul, Int.reduceToNat, Int.reduceLT, Int.reduceLE, Int.reduceEq, Int.reduceNeg, hin, decide_false, t3, e5]
        have e1 : hget h3 (h.length + 1) = some (.rows (icells i fun v => enc (L v))) := by rw [hH]; unfold treeH; rw [hget_append_new]; rfl
        have e3 : hget h3 (h.length + 3) = some (.rows (icells i (plz ord pl))) := by rw [hH]; unfold treeH; rw [hget_append_new]; rfl
        have etk : h3.take h.length = h := by rw [hH]; unfold treeH; rw [List.take_left' rfl]
        have el : h.length + 6 < h3.length := hget_lt e6
        have c1 := turns_cell (n0 := h.length) (v := .ptr (h.length + 4) 0 0) (j := 0) (by omega) e1 e4 (by omega) rfl (by rw [icells_len]; exact Nat.le_refl _) icells_one
        rw [List.take_of_length_le (by rw [icells_len]; exact Nat.le_refl _)] at c1
        simp only [List.set_cons_zero] at c1
        generalize hq1 : (h3.set (h.length + 1) none).set (h.length + 4) (some (.rows [[.fslice (icells i fun v => enc (L v)), .slice (h.length + 3) 1 0 i (some i), .gs (h.length + 6) 1 (ints lst)]])) = q1 at c1
        have f4 : hget q1 (h.length + 4) = some (.rows [[.fslice (icells i fun v => enc (L v)), .slice (h.length + 3) 1 0 i (some i), .gs (h.length + 6) 1 (ints lst)]]) := by rw [← hq1]; exact hget_set_same (by simp; omega) _
        have f3 : hget q1 (h.length + 3) = some (.rows (icells i (plz ord pl))) := by rw [← hq1, hget_set_ne (by omega), hget_set_ne (by omega)]; exact e3
        have ftk : q1.take h.length = h := by rw [← hq1, take_set_none (by omega), take_set_none (by omega)]; exact etk
        have fl : q1.length = h3.length := by rw [← hq1]; simp
        have c2 := turns_cell (n0 := h.length) (v := .ptr (h.length + 4) 0 0) (j := 1) (by omega) f3 f4 (by omega) rfl (by rw [icells_len]; exact Nat.le_refl _) icells_one
        rw [List.take_of_length_le (by rw [icells_len]; exact Nat.le_refl _)] at c2
        simp only [List.set_cons_succ, List.set_cons_zero] at c2
        generalize hq2 : (q1.set (h.length + 3) none).set (h.length + 4) (some (.rows [[.fslice (icells i fun v => enc (L v)), .fslice (icells i (plz ord pl)), .gs (h.length + 6) 1 (ints lst)]])) = q2 at c2
        have k4 : hget q2 (h.length + 4) = some (.rows [[.fslice (icells i fun v => enc (L v)), .fslice (icells i (plz ord pl)), .gs (h.length + 6) 1 (ints lst)]]) := by rw [← hq2]; exact hget_set_same (by simp; omega) _
        have ktk : q2.take h.length = h := by rw [← hq2, take_set_none (by omega), take_set_none (by omega)]; exact ftk
        have kl : q2.length = h3.length := by rw [← hq2]; simp [fl]
        have c3 := turns_retell (n0 := h.length) (v := .ptr (h.length + 4) 0 0) (es' := [[.fslice (icells i fun v => enc (L v)), .fslice (icells i (plz ord pl)), slV (ints lst)]]) k4 rfl fun p x y hx hy => by
          cases p with
          | succ p => simp at hx
          | zero =>
            simp at hx hy; subst hx; subst hy
            refine ⟨rfl, fun j u v hu hv C rv hr => ?_⟩
            match j, hu, hv with
            | 0, hu, hv => simp at hu hv; subst hu; subst hv; exact hr
            | 1, hu, hv => simp at hu hv; subst hu; subst hv; exact hr
            | 2, hu, hv =>
              simp at hu hv; subst hu; subst hv
              cases e : ints lst with
              | nil => rw [e] at hr; exact hr.gs_none
              | cons x xs => rw [e] at hr; exact hr.gs_slice
            | j + 3, hu, hv => simp at hu
        have c4 : Turns h.length (.ptr (h.length + 4) 0 0) (q2.set (h.length + 4) (some (.rows [[.fslice (icells i fun v => enc (L v)), .fslice (icells i (plz ord pl)), slV (ints lst)]]))) (treeV i ord pl L (slV (ints lst))) ((q2.set (h.length + 4) (some (.rows [[.fslice (icells i fun v => enc (L v)), .fslice (icells i (plz ord pl)), slV (ints lst)]]))).set (h.length + 4) none) := by
          refine turns_freeze (by omega) (hget_set_same (by omega) _) (.ptr 0 0 _ rfl) (by simp) (hget_set_same (by simp; omega) _) fun b o hb => ?_
          rcases hget_set hb with ⟨_, e⟩ | ⟨_, hb⟩
          · cases e
          · exact ⟨o, hb, .same o⟩
        have htk : ((q2.set (h.length + 4) (some (.rows [[.fslice (icells i fun v => enc (L v)), .fslice (icells i (plz ord pl)), slV (ints lst)]]))).set (h.length + 4) none).take h.length = h := by rw [take_set_none (by omega), take_set_none (by omega)]; exact ktk
        refine ⟨_, _, ((c1.trans c2).trans c3).trans c4, .inr ⟨h.length, Nat.le_refl _, by simp; omega, ?_, fun a o ho ha => .inl ⟨ha, ?_⟩, ⟨L, _, rfl, htk, hL0, hdom⟩⟩⟩
        · refine .fptr _ 0 fun j v hv => ?_
          have hic : ∀ f : Nat → Int, Below h.length (.fslice (icells i f)) := fun f => by
            refine .fslice _ fun a b e v he hv => ?_
            obtain ⟨k, _, rfl⟩ := List.mem_map.1 (List.mem_of_getElem? he)
            cases b with
            | zero => simp at hv; subst hv; exact .lit _
            | succ b => simp at hv
          match j, hv with
          | 0, hv => simp at hv; subst hv; exact hic _
          | 1, hv => simp at hv; subst hv; exact hic _
          | 2, hv => simp at hv; subst hv; exact slV_below ints_below
        · rw [← hget_take_eq (h0 := h) (m := h.length) (by rw [htk, List.take_length]) ha]; exact ho
end Go.AL
