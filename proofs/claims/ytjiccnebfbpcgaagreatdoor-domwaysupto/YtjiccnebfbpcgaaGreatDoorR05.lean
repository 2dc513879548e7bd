/- The graph of a function: how it is made. -/
import Derived.Test.YtjiccnebfbpcgaaGreatDoorR04
set_option linter.unusedSimpArgs false
set_option linter.unusedVariables false
set_option linter.unusedSectionVars false
namespace Go.AL
open Go.Proofs
theorem turns_cell {n0 a G j esz len : Nat} {cap : Option Nat} {es : List (List AVal)} {cs : List AVal} {v : AVal} {h : AHeap} (hn : n0 ≤ a) (ha : hget h a = some (.rows es)) (hG : hget h G = some (.rows [cs])) (hne : a ≠ G)
    (hj : cs[j]? = some (.slice a esz 0 len cap)) (hlen : len ≤ es.length) (hs : ∀ e ∈ es, e.length = esz) : Turns n0 v h v ((h.set a none).set G (some (.rows [cs.set j (.fslice (es.take len))]))) := by
  refine turns_freeze hn ha (.same v) (by simp) ?_ fun b o ho => ?_
  · rw [hget_set_ne (fun e => hne e.symm)]; exact hget_set_same (hget_lt ha) _
  · rcases hget_set ho with ⟨rfl, e⟩ | ⟨hb, ho⟩
    · cases e
      refine ⟨_, hG, .rows [cs] [cs.set j (.fslice (es.take len))] rfl fun i x y hx hy => ?_⟩
      cases i with
      | succ i => simp at hx
      | zero =>
        simp at hx hy; subst hx; subst hy
        refine ⟨by simp, fun k u w hu hw => ?_⟩
        rw [List.getElem?_set] at hw
        by_cases e : j = k
        · subst e
          rw [hj] at hu; cases hu
          have hlt := (List.getElem?_eq_some_iff.1 hj).1
          simp [hlt] at hw
          subst hw
          have := Re.slice (a := a) (es := es) esz 0 len cap (by omega) hs
          rwa [List.drop_zero] at this
        · rw [if_neg e, hu] at hw; cases hw; exact .same _
    · rcases hget_set ho with ⟨_, e⟩ | ⟨_, ho⟩
      · cases e
      · exact ⟨o, ho, .same o⟩
theorem turns_retell {n0 a : Nat} {v : AVal} {h : AHeap} {es es' : List (List AVal)} (ha : hget h a = some (.rows es)) (hl : es.length = es'.length)
    (hv : ∀ (i : Nat) x y, es[i]? = some x → es'[i]? = some y → x.length = y.length ∧ ∀ (j : Nat) u v, x[j]? = some u → y[j]? = some v → ∀ (C : Ctx) rv, VRel C u rv → VRel C v rv) : Turns n0 v h v (h.set a (some (.rows es'))) :=
  fun C w rv hr hv' => ⟨C, .refl _ _, hr.retell ha hl fun i x y hx hy => ⟨(hv i x y hx hy).1, fun j u v hu hv2 rv h => (hv i x y hx hy).2 j u v hu hv2 C rv h⟩, hv'⟩
def slCells (n : Nat) (r : Nat → List Nat) : List (List AVal) := (List.range n).map fun i => [slV (ints (r i))]
theorem turns_rows {n0 a n b : Nat} {v : AVal} {h : AHeap} {r : Nat → List Nat} (ha : hget h a = some (.rows (gsCells n b r))) : Turns n0 v h v (h.set a (some (.rows (slCells n r)))) := by
  refine turns_retell ha (by simp [gsCells, slCells]) fun i x y hx hy => ?_
  have hi : i < n := by have := (List.getElem?_eq_some_iff.1 hx).1; simpa [gsCells] using this
  rw [gsCells_get hi] at hx; cases hx
  have : (slCells n r)[i]? = some [slV (ints (r i))] := by simp [slCells, hi]
  rw [this] at hy; cases hy
  refine ⟨rfl, fun j u v hu hv C rv hr => ?_⟩
  cases j with
  | succ j => simp at hu
  | zero =>
    simp at hu hv; subst hu; subst hv
    cases e : ints (r i) with
    | nil => rw [e] at hr; exact hr.gs_none
    | cons x xs => rw [e] at hr; exact hr.gs_slice
theorem slV_below {m : Nat} {es : List (List AVal)} (h : ∀ e ∈ es, ∀ v ∈ e, Below m v) : Below m (slV es) := by
  cases es with
  | nil => exact .lit _
  | cons e es => exact .fslice _ fun i j x v hx hv => h x (List.mem_of_getElem? hx) v (List.mem_of_getElem? hv)
theorem slCells_rowsV {n : Nat} {l : List (List Nat)} (hl : l.length = n) : slCells n (fun i => l.getD i []) = rowsV l := by
  apply List.ext_getElem (by simp [slCells, rowsV, hl])
  intro i h1 h2
  simp only [rowsV, List.length_map] at h2
  simp [slCells, rowsV, h2]
theorem freeze_graph {m n N P G R A bN bP : Nat} {cN cP cR : Option Nat} {nx pv : List (List Nat)} {ord : List Nat} {re : List Bool} {oV : AVal} {h : AHeap} (hN : hget h N = some (.rows (gsCells n bN fun i => nx.getD i []))) (hP : hget h P = some (.rows (gsCells n bP fun i => pv.getD i [])))
    (hR : hget h R = some (.rows (boolsV re))) (hre : re.length = n) (hG : hget h G = some (.rows [[.slice N 1 0 n cN, .slice P 1 0 n cP, oV, .slice R 1 0 n cR]])) (ho : (ord = [] ∧ oV = .lit (.slice none 0 0)) ∨ (ord ≠ [] ∧ oV = .slice A 1 0 ord.length none ∧ hget h A = some (.rows (ints ord)) ∧ m ≤ A ∧ A ≠ N ∧ A ≠ P ∧ A ≠ G ∧ A ≠ R))
    (h1 : nx.length = n) (h2 : pv.length = n) (mN : m ≤ N) (mP : m ≤ P) (mG : m ≤ G) (mR : m ≤ R) (d1 : N ≠ P) (d2 : N ≠ G) (d3 : N ≠ R) (d4 : P ≠ G) (d5 : P ≠ R) (d6 : R ≠ G) :
    ∃ h', Turns m (.ptr G 0 0) h (Gr.val ⟨nx, pv, ord, re⟩) h' ∧ h'.take m = h.take m ∧ h'.length = h.length := by
  have lN := hget_lt hN
  have lP := hget_lt hP
  have lG := hget_lt hG
  have lR := hget_lt hR
  have one : ∀ r : List (List Nat), ∀ e ∈ rowsV r, e.length = 1 := by
    intro r e he
    obtain ⟨k, _, rfl⟩ := List.mem_map.1 he
    rfl
  have sl1 : (rowsV nx).length = n := by simp [rowsV, h1]
  have sl2 : (rowsV pv).length = n := by simp [rowsV, h2]
  -- both sides' rows
  have s1 := turns_rows (n0 := m) (v := .ptr G 0 0) hN
  rw [slCells_rowsV h1] at s1
  have s2 := turns_rows (n0 := m) (v := .ptr G 0 0) (h := h.set N (some (.rows (rowsV nx)))) (a := P) (by rw [hget_set_ne d1]; exact hP)
  rw [slCells_rowsV h2] at s2
  have s3 := turns_cell (n0 := m) (v := .ptr G 0 0) (h := (h.set N (some (.rows (rowsV nx)))).set P (some (.rows (rowsV pv)))) (a := N) (G := G) (j := 0) mN
    (by rw [hget_set_ne (fun e => d1 e.symm)]; exact hget_set_same lN _) (by rw [hget_set_ne d4, hget_set_ne d2]; exact hG) d2 rfl (by rw [sl1]; exact Nat.le_refl _) (one _)
  rw [List.take_of_length_le (by rw [sl1]; exact Nat.le_refl _)] at s3
  simp only [List.set_cons_zero] at s3
  have c12 := (s1.trans s2).trans s3
  generalize hh3 : (((h.set N (some (.rows (rowsV nx)))).set P (some (.rows (rowsV pv)))).set N none).set G (some (.rows [[.fslice (rowsV nx), .slice P 1 0 n cP, oV, .slice R 1 0 n cR]])) = h3 at c12
  have g3 : hget h3 G = some (.rows [[.fslice (rowsV nx), .slice P 1 0 n cP, oV, .slice R 1 0 n cR]]) := by rw [← hh3]; exact hget_set_same (by simp; exact lG) _
  have p3 : hget h3 P = some (.rows (rowsV pv)) := by rw [← hh3, hget_set_ne (fun e => d4 e.symm), hget_set_ne d1]; exact hget_set_same (by simp; exact lP) _
  have r3 : hget h3 R = some (.rows (boolsV re)) := by rw [← hh3, hget_set_ne (fun e => d6 e.symm), hget_set_ne d3, hget_set_ne d5, hget_set_ne d3]; exact hR
  have l3 : h3.length = h.length := by rw [← hh3]; simp
  have t3 : h3.take m = h.take m := by rw [← hh3, take_set_none mG, take_set_none mN, take_set_none mP, take_set_none mN]
  have a3 : ∀ A, A ≠ N → A ≠ P → A ≠ G → hget h3 A = hget h A := fun A e1 e2 e3 => by rw [← hh3, hget_set_ne (fun e => e3 e.symm), hget_set_ne (fun e => e1 e.symm), hget_set_ne (fun e => e2 e.symm), hget_set_ne (fun e => e1 e.symm)]
  have s4 := turns_cell (n0 := m) (v := .ptr G 0 0) (j := 1) mP p3 g3 d4 rfl (by rw [sl2]; exact Nat.le_refl _) (one _)
  rw [List.take_of_length_le (by rw [sl2]; exact Nat.le_refl _)] at s4
  simp only [List.set_cons_succ, List.set_cons_zero] at s4
  have c4 := c12.trans s4
  generalize hh4 : (h3.set P none).set G (some (.rows [[.fslice (rowsV nx), .fslice (rowsV pv), oV, .slice R 1 0 n cR]])) = h4 at c4
  have g4 : hget h4 G = some (.rows [[.fslice (rowsV nx), .fslice (rowsV pv), oV, .slice R 1 0 n cR]]) := by rw [← hh4]; exact hget_set_same (by simp; omega) _
  have r4 : hget h4 R = some (.rows (boolsV re)) := by rw [← hh4, hget_set_ne (fun e => d6 e.symm), hget_set_ne d5]; exact r3
  have l4 : h4.length = h.length := by rw [← hh4]; simp [l3]
  have t4 : h4.take m = h.take m := by rw [← hh4, take_set_none mG, take_set_none mP]; exact t3
  have a4 : ∀ A, A ≠ N → A ≠ P → A ≠ G → hget h4 A = hget h A := fun A e1 e2 e3 => by rw [← hh4, hget_set_ne (fun e => e3 e.symm), hget_set_ne (fun e => e2 e.symm)]; exact a3 A e1 e2 e3
  have s5 := turns_cell (n0 := m) (v := .ptr G 0 0) (j := 3) mR r4 g4 d6 rfl (by simp [boolsV, hre]) (fun e he => by obtain ⟨k, _, rfl⟩ := List.mem_map.1 he; rfl)
  rw [List.take_of_length_le (by simp [boolsV, hre])] at s5
  simp only [List.set_cons_succ, List.set_cons_zero] at s5
  have c5 := c4.trans s5
  generalize hh5 : (h4.set R none).set G (some (.rows [[.fslice (rowsV nx), .fslice (rowsV pv), oV, .fslice (boolsV re)]])) = h5 at c5
  have g5 : hget h5 G = some (.rows [[.fslice (rowsV nx), .fslice (rowsV pv), oV, .fslice (boolsV re)]]) := by rw [← hh5]; exact hget_set_same (by simp; omega) _
  have l5 : h5.length = h.length := by rw [← hh5]; simp [l4]
  have t5 : h5.take m = h.take m := by rw [← hh5, take_set_none mG, take_set_none mR]; exact t4
  have fin : ∀ h6 : AHeap, Turns m (.ptr G 0 0) h (.ptr G 0 0) h6 → hget h6 G = some (.rows [[.fslice (rowsV nx), .fslice (rowsV pv), slV (ints ord), .fslice (boolsV re)]]) → h6.take m = h.take m → h6.length = h.length →
      ∃ h', Turns m (.ptr G 0 0) h (Gr.val ⟨nx, pv, ord, re⟩) h' ∧ h'.take m = h.take m ∧ h'.length = h.length := by
    intro h6 c6 g6 t6 l6
    refine ⟨h6.set G none, c6.trans ?_, by rw [take_set_none mG]; exact t6, by simp [l6]⟩
    refine turns_freeze mG g6 (.ptr 0 0 _ rfl) (by simp) (hget_set_same (by omega) _) fun b o hb => ?_
    rcases hget_set hb with ⟨_, e⟩ | ⟨_, hb⟩
    · cases e
    · exact ⟨o, hb, .same o⟩
  rcases ho with ⟨rfl, rfl⟩ | ⟨hne, rfl, hA, mA, e1, e2, e3, e4⟩
  · exact fin h5 c5 g5 t5 l5
  · have hA5 : hget h5 A = some (.rows (ints ord)) := by rw [← hh5, hget_set_ne (fun e => e3 e.symm), hget_set_ne (fun e => e4 e.symm), a4 A e1 e2 e3]; exact hA
    have s6 := turns_cell (n0 := m) (v := .ptr G 0 0) (j := 2) mA hA5 g5 e3 rfl (by rw [ints_len]; exact Nat.le_refl _) ints_one
    rw [List.take_of_length_le (by rw [ints_len]; exact Nat.le_refl _)] at s6
    simp only [List.set_cons_succ, List.set_cons_zero] at s6
    have : slV (ints ord) = .fslice (ints ord) := slV_ne fun e => hne (by have := congrArg List.length e; rw [ints_len] at this; simpa using this)
    refine fin _ (c5.trans s6) (by rw [this]; exact hget_set_same (by simp; omega) _) (by rw [take_set_none mG, take_set_none mA]; exact t5) (by simp [l5])
theorem Gr.val_below {m : Nat} (g : Gr) : Below m g.val := by
  have hr : ∀ l : List (List Nat), Below m (.fslice (rowsV l)) := fun l => by
    refine .fslice _ fun i j e v he hv => ?_
    obtain ⟨k, _, rfl⟩ := List.mem_map.1 (List.mem_of_getElem? he)
    cases j with
    | zero => simp at hv; subst hv; exact slV_below ints_below
    | succ j => simp at hv
  unfold Gr.val Gr.cells
  refine .fptr _ 0 fun j v hv => ?_
  match j, hv with
  | 0, hv => simp at hv; subst hv; exact hr _
  | 1, hv => simp at hv; subst hv; exact hr _
  | 2, hv => simp at hv; subst hv; exact slV_below ints_below
  | 3, hv =>
    simp at hv; subst hv
    refine .fslice _ fun i j e v he hv => ?_
    obtain ⟨k, _, rfl⟩ := List.mem_map.1 (List.mem_of_getElem? he)
    cases j with
    | zero => simp at hv; subst hv; exact .lit _
    | succ j => simp at hv
end Go.AL
namespace Go.AL
open Go.Proofs
structure BlkC (e : List AVal) (nm : List UInt8) (bn : List (List UInt8)) (arms : List (List UInt8 × List UInt8 × List UInt8)) : Prop where
  len : e.length = 11
  flat : e.all AVal.cell1 = true
  name : e[1]? = some (.str nm)
  xb : ∃ x, e[9]? = some x ∧ ∀ h, Elts h x 1 (strs bn)
  xa : ∃ x, e[10]? = some x ∧ ∀ h, Elts h x 3 (armsV arms)
  lb : bn.length < 4294967296
  la : arms.length < 4294967296
abbrev FB := List UInt8 × List (List UInt8) × List (List UInt8 × List UInt8 × List UInt8)
def FB.tg (q : FB) : List (List UInt8) := q.2.1 ++ q.2.2.map (·.2.2)
def stN (bs : List FB) (i : Nat) : List (List Nat) × List (List Nat) := (((bs.map fun q => (q.1, FB.tg q)).zipIdx.map fun q => (q.2, q.1.2)).take i).foldl (addB (bs.map (·.1))) (noEdges bs.length)
theorem stN_zero {bs : List FB} : stN bs 0 = noEdges bs.length := rfl
theorem stN_succ {bs : List FB} {i : Nat} (hi : i < bs.length) : stN bs (i + 1) = (FB.tg (bs[i]'hi)).foldl (addN (bs.map (·.1)) i) (stN bs i) := by
  unfold stN
  rw [List.take_add_one, List.foldl_append]
  have : ((bs.map fun q => (q.1, FB.tg q)).zipIdx.map fun q => (q.2, q.1.2))[i]? = some (i, FB.tg (bs[i]'hi)) := by simp [hi]
  rw [this]
  rfl
theorem stN_sides {bs : List FB} (i : Nat) : Sides bs.length (stN bs i) := by
  unfold stN
  refine Sides.addBs (by simp) _ (fun p hp => ?_) (Sides.none _)
  obtain ⟨q, hq, rfl⟩ := List.mem_map.1 (List.mem_of_mem_take hp)
  have := List.mem_zipIdx hq
  simp at this
  omega
theorem stN_all (bs : List FB) : stN bs bs.length = edges (bs.map fun q => (q.1, FB.tg q)) := by
  unfold stN edges
  rw [List.take_of_length_le (by simp)]
  simp [Function.comp_def]
structure GrOk (bs : List FB) (g : Gr) : Prop where
  next : g.next = (stN bs bs.length).1
  prev : g.prev = (stN bs bs.length).2
  rlen : g.reached.length = bs.length
  reached : ∀ i, g.reached[i]? = some true ↔ i ∈ g.order
  ord : (bs = [] ∧ g.order = []) ∨ OrdOk (fun i => g.next.getD i []) bs.length g.order
theorem find_names {es : List (List AVal)} {bs : List FB} (hl : es.length = bs.length) (hes : ∀ (i : Nat) e q, es[i]? = some e → bs[i]? = some q → BlkC e q.1 q.2.1 q.2.2) (s : List UInt8) :
    es.findIdx? (fun e => decide (nameOf e = s)) = (bs.map (·.1)).findIdx? (fun n => decide (n = s)) := by
  have : es.map nameOf = bs.map (·.1) := by
    apply List.ext_getElem (by simp [hl])
    intro i h1 h2
    simp only [List.length_map] at h1 h2
    simp only [List.getElem_map]
    have := (hes i _ _ (List.getElem?_eq_getElem h1) (List.getElem?_eq_getElem h2)).name
    unfold nameOf; rw [this]
  rw [← this, List.findIdx?_map]
  rfl
theorem look4 {h4 : AHeap} {x : Nat} {o : AObj} (hx : hget h4 x = some o) {a1 a2 a3 : Nat} (n1 : a1 ≠ x) (n2 : a2 ≠ x) (n3 : a3 ≠ x) :
    (∀ l, hget (h4 ++ l) x = some o) ∧ (∀ l o1, hget (hset (h4 ++ l) a1 o1) x = some o) ∧ (∀ l o1 o2 l2, hget (hset (hset (h4 ++ l) a1 o1) a2 o2 ++ l2) x = some o) ∧
      ∀ l o1 o2 l2 o3, hget (hset (hset (hset (h4 ++ l) a1 o1) a2 o2 ++ l2) a3 o3) x = some o := by
  have lx := hget_lt hx
  have A : ∀ l, hget (h4 ++ l) x = some o := fun l => by rw [hget_append_old lx]; exact hx
  have B : ∀ l o1, hget (hset (h4 ++ l) a1 o1) x = some o := fun l o1 => by rw [hget_hset_ne n1]; exact A l
  have C : ∀ l o1 o2 l2, hget (hset (hset (h4 ++ l) a1 o1) a2 o2 ++ l2) x = some o := fun l o1 o2 l2 => by
    rw [hget_append_old (by simp only [hset_length, List.length_append]; omega), hget_hset_ne n2]; exact B l o1
  exact ⟨A, B, C, fun l o1 o2 l2 o3 => by rw [hget_hset_ne n3]; exact C l o1 o2 l2⟩
theorem hset_app {h l : AHeap} {a : Nat} {o : AObj} (ha : a < h.length) : hset (h ++ l) a o = hset h a o ++ l := by
  unfold hset; rw [List.set_append_left _ _ ha]
theorem round_ok {m n i L : Nat} {h0 h : AHeap} {fc : List AVal} {x : AVal} {es : List (List AVal)} {bs : List FB} {st : List (List Nat) × List (List Nat)} {s : List UInt8} {T : ATab}
    (hf : fc[5]? = some x) (hl : fc.length = 6) (hflat : fc.all AVal.cell1 = true) (hE : ∀ h, Elts h x 11 es) (hn : bs.length = n) (hlen : es.length = n) (hn32 : n < 4294967296) (hes : ∀ (i : Nat) e q, es[i]? = some e → bs[i]? = some q → BlkC e q.1 q.2.1 q.2.2)
    (t1 : T.get 1 = .ptr m 0 0) (t4 : T.get 4 = .ptr (m + 5) 0 0) (t5 : T.get 5 = .ptr L 0 0) (hi : i < n) (hL : m + (6 + (n + n)) ≤ L) (hsd : Sides n st) (hst : NewSt m h0 fc n st h) (hLi : hget h L = some (.rows [[.lit (.int .i64 i)]]))
    (hlp : hget h (L + 4) = some (.loop 86 T #[31] (bodyAt Tryz.prog 16 [1, 1, 1, 0, 1, 0, 0, 1, 1, 0, 0, 1, 1, 0, 0]) (bodyAt Tryz.prog 16 [1, 1, 1, 0, 1, 0, 0, 1, 1, 0, 0, 1, 1, 0, 1]) .ready none (L + 3))) :
    ACallV Tryz.prog (.yieldf (L + 4)) [.str s] h fun v h' => h.length ≤ h'.length ∧ v = .lit (.bool true) ∧ NewSt m h0 fc n (addN (bs.map (·.1)) i st s) h' ∧ ∀ a, m + (6 + (n + n)) ≤ a → a < h.length → hget h' a = hget h a := by
  refine ayield_z mixed hlp rfl (by rfl) xaf16_0 xbf16_0 ?_
  unfold xa16_0 xb16_0
  have lLp := hget_lt hlp
  simp -dsimp -implicitDefEqProofs only [go_sem, reduceIte, Nat.reduceEqDiff, Nat.reduceAdd, Nat.reduceSub, Nat.reduceLeDiff, Nat.reduceLT, Nat.reduceMul, Int.reduceToNat, Int.reduceLT, Int.reduceLE, Int.reduceEq, Int.reduceNeg, go_sem, putParams, hlp]
  generalize hq : hset h (L + 4) (.loop 86 T #[31] (bodyAt Tryz.prog 16 [1, 1, 1, 0, 1, 0, 0, 1, 1, 0, 0, 1, 1, 0, 0]) (bodyAt Tryz.prog 16 [1, 1, 1, 0, 1, 0, 0, 1, 1, 0, 0, 1, 1, 0, 1]) .busy none (L + 3)) = h4
  have s4 : NewSt m h0 fc n st h4 := by rw [← hq]; exact hst.hset (by omega)
  have l4 : h4.length = h.length := by rw [← hq, hset_length]
  have lp4 : hget h4 (L + 4) = some (.loop 86 T #[31] (bodyAt Tryz.prog 16 [1, 1, 1, 0, 1, 0, 0, 1, 1, 0, 0, 1, 1, 0, 0]) (bodyAt Tryz.prog 16 [1, 1, 1, 0, 1, 0, 0, 1, 1, 0, 0, 1, 1, 0, 1]) .busy none (L + 3)) := by rw [← hq]; exact hget_hset_same lLp
  have Li4 : hget h4 L = some (.rows [[.lit (.int .i64 i)]]) := by rw [← hq, hget_hset_ne (by omega)]; exact hLi
  have old4 : ∀ a, a ≠ L + 4 → hget h4 a = hget h a := fun a ha => by rw [← hq, hget_hset_ne (fun e => ha e.symm)]
  -- how the round ends
  have fin : ∀ h5 : AHeap, h4.length ≤ h5.length → NewSt m h0 fc n (addN (bs.map (·.1)) i st s) h5 → (∀ a, m + (6 + (n + n)) ≤ a → a < h4.length → hget h5 a = hget h4 a) →
      RoundEnd (L + 4) 86 T #[31] (bodyAt Tryz.prog 16 [1, 1, 1, 0, 1, 0, 0, 1, 1, 0, 0, 1, 1, 0, 0]) (bodyAt Tryz.prog 16 [1, 1, 1, 0, 1, 0, 0, 1, 1, 0, 0, 1, 1, 0, 1]) (L + 3) h
        (fun v h' => h.length ≤ h'.length ∧ v = .lit (.bool true) ∧ NewSt m h0 fc n (addN (bs.map (·.1)) i st s) h' ∧ ∀ a, m + (6 + (n + n)) ≤ a → a < h.length → hget h' a = hget h a) none h5 := by
    intro h5 e1 e2 e3
    refine ⟨none, by rw [e3 _ (by omega) (by omega)]; exact lp4, .all ⟨by rw [hset_length]; omega, rfl, e2.hset (by omega), fun a ha hb => ?_⟩⟩
    by_cases e : a = L + 4
    · subst e; rw [hget_hset_same (by omega)]; exact hlp.symm
    · rw [hget_hset_ne (fun e' => e e'.symm), e3 a ha (by omega), old4 a e]
  have htk : fc.take 6 = fc := List.take_of_length_le (by omega)
  simp -dsimp -implicitDefEqProofs only [go_sem, reduceIte, Nat.reduceEqDiff, Nat.reduceAdd, Nat.reduceSub, Nat.reduceLeDiff, Nat.reduceLT, Nat.reduceMul, Int.reduceToNat, Int.reduceLT, Int.reduceLE, Int.reduceEq, Int.reduceNeg, go_sem, t1, t4, t5, s4.f, hl, htk]
  refine zcall_eq xf52 (Nat.le_refl _) (block_ok hf hl hflat hE (by omega) (fun e he => ?_) h4) ?_
  · obtain ⟨j, hj, rfl⟩ := List.getElem_of_mem he
    have := hes j _ _ (List.getElem?_eq_getElem hj) (List.getElem?_eq_getElem (by omega))
    exact ⟨this.len, this.flat, _, this.name⟩
  rw [find_names (by omega) hes]
  unfold addN at fin ⊢
  cases hfd : (bs.map (·.1)).findIdx? (fun n => decide (n = s)) with
  | none =>
    simp only [hfd] at fin
    simp -dsimp -implicitDefEqProofs only [go_sem, reduceIte, Nat.reduceEqDiff, Nat.reduceAdd, Nat.reduceSub, Nat.reduceLeDiff, Nat.reduceLT, Nat.reduceMul, Int.reduceToNat, Int.reduceLT, Int.reduceLE, Int.reduceEq, Int.reduceNeg, go_sem]
    refine zw_draw0 rfl ?_
    simp -dsimp -implicitDefEqProofs only [go_sem, reduceIte, Nat.reduceEqDiff, Nat.reduceAdd, Nat.reduceSub, Nat.reduceLeDiff, Nat.reduceLT, Nat.reduceMul, Int.reduceToNat, Int.reduceLT, Int.reduceLE, Int.reduceEq, Int.reduceNeg, go_sem, decide_true, t4, t5]
    exact fin _ (Nat.le_refl _) s4 fun a _ _ => rfl
  | some k =>
    simp only [hfd] at fin
    have hk : k < n := by
      obtain ⟨hk, _⟩ := List.findIdx?_eq_some_iff_getElem.1 hfd
      simpa [hn] using hk
    have c1 : ¬ ((k : Int) < 0) := by omega
    have ci : (i : Int) < (n : Int) := by omega
    have ck : (k : Int) < (n : Int) := by omega
    have nN := gsCells_get (b := m + 6) (r := fun i => st.1.getD i []) hi
    simp -dsimp -implicitDefEqProofs only [go_sem, reduceIte, Nat.reduceEqDiff, Nat.reduceAdd, Nat.reduceSub, Nat.reduceLeDiff, Nat.reduceLT, Nat.reduceMul, Int.reduceToNat, Int.reduceLT, Int.reduceLE, Int.reduceEq, Int.reduceNeg, go_sem]
    refine zw_draw0 rfl ?_
    simp -dsimp -implicitDefEqProofs only [go_sem, reduceIte, Nat.reduceEqDiff, Nat.reduceAdd, Nat.reduceSub, Nat.reduceLeDiff, Nat.reduceLT, Nat.reduceMul, Int.reduceToNat, Int.reduceLT, Int.reduceLE, Int.reduceEq, Int.reduceNeg, go_sem, c1, decide_false, t4, t5, s4.p, s4.G, s4.N, Li4, ci, nN]
    have hrow1 : (st.1.getD i []).length ≤ n := by
      have := (hsd.nd1 i).length_le_of_subset (l₂ := List.range n) fun j hj => List.mem_range.2 (hsd.lt1 i j hj).2
      rwa [List.length_range] at this
    have hrow2 : (st.2.getD k []).length ≤ n := by
      have := (hsd.nd2 k).length_le_of_subset (l₂ := List.range n) fun j hj => List.mem_range.2 (hsd.lt1 j k ((hsd.tr j k).2 hj)).1
      rwa [List.length_range] at this
    refine ⟨_, _, .inl ⟨(xfunc_ok xf53).1, contains_ok (Elts.gs ints_one) (by omega) k⟩, ?_⟩
    by_cases hm : k ∈ st.1.getD i []
    · have hc : (st.1.getD i []).contains k = true := by simpa using hm
      rw [hc]
      simp -dsimp -implicitDefEqProofs only [go_sem, reduceIte, Nat.reduceEqDiff, Nat.reduceAdd, Nat.reduceSub, Nat.reduceLeDiff, Nat.reduceLT, Nat.reduceMul, Int.reduceToNat, Int.reduceLT, Int.reduceLE, Int.reduceEq, Int.reduceNeg, go_sem]
      refine fin h4 (Nat.le_refl _) ?_ fun a _ _ => rfl
      unfold addE; rw [if_pos hm]; exact s4
    · have hc : (st.1.getD i []).contains k = false := by simpa using hm
      rw [hc]
      have lN4 := s4.len
      obtain ⟨pA, pB, pC, pD⟩ := look4 s4.p (a1 := m + (6 + i)) (a2 := m + 1) (a3 := m + (6 + (n + k))) (by omega) (by omega) (by omega)
      obtain ⟨gA, gB, gC, gD⟩ := look4 s4.G (a1 := m + (6 + i)) (a2 := m + 1) (a3 := m + (6 + (n + k))) (by omega) (by omega) (by omega)
      obtain ⟨lA, lB, lC, lD⟩ := look4 Li4 (a1 := m + (6 + i)) (a2 := m + 1) (a3 := m + (6 + (n + k))) (by omega) (by omega) (by omega)
      obtain ⟨_, _, qC, qD⟩ := look4 s4.P (a1 := m + (6 + i)) (a2 := m + 1) (a3 := m + (6 + (n + k))) (by omega) (by omega) (by omega)
      have nA : ∀ l, hget (h4 ++ l) (m + 1) = some (.rows (gsCells n (m + 6) fun i => st.1.getD i [])) := fun l => by rw [hget_append_old (by omega)]; exact s4.N
      have nB : ∀ l o, hget (hset (h4 ++ l) (m + (6 + i)) o) (m + 1) = some (.rows (gsCells n (m + 6) fun i => st.1.getD i [])) := fun l o => by rw [hget_hset_ne (by omega)]; exact nA l
      have tA : ∀ l, hget (h4 ++ l) (m + (6 + i)) = some (.tok 1 (st.1.getD i []).length) := fun l => by rw [hget_append_old (by omega)]; exact s4.tN i hi
      have tC : ∀ l o1 o2 l2, hget (hset (hset (h4 ++ l) (m + (6 + i)) o1) (m + 1) o2 ++ l2) (m + (6 + (n + k))) = some (.tok 1 (st.2.getD k []).length) := (look4 (s4.tP k hk) (a1 := m + (6 + i)) (a2 := m + 1) (a3 := m) (by omega) (by omega) (by omega)).2.2.1
      have nP := gsCells_get (b := m + (6 + n)) (r := fun i => st.2.getD i []) hk
      simp -dsimp -implicitDefEqProofs only [go_sem, reduceIte, Nat.reduceEqDiff, Nat.reduceAdd, Nat.reduceSub, Nat.reduceLeDiff, Nat.reduceLT, Nat.reduceMul, Int.reduceToNat, Int.reduceLT, Int.reduceLE, Int.reduceEq, Int.reduceNeg, go_sem]
      refine zw_draw [.rows [[.lit (.int .i64 k)]]] rfl ?_
      simp -dsimp -implicitDefEqProofs only [go_sem, reduceIte, Nat.reduceEqDiff, Nat.reduceAdd, Nat.reduceSub, Nat.reduceLeDiff, Nat.reduceLT, Nat.reduceMul, Int.reduceToNat, Int.reduceLT, Int.reduceLE, Int.reduceEq, Int.reduceNeg, go_sem, t4, t5, pA, pB, gA, gB, lA, lB, nA, nB, tA, ci, nN, ints_len]
      refine ⟨by omega, by rw [hset_length]; simp, ⟨fun _ => trivial, fun _ => trivial, fun _ => trivial⟩, by rw [hset_length (a := m + 1)]; exact Nat.le_refl _, ?_⟩
      refine zw_draw [.rows [[.lit (.int .i64 i)]]] rfl ?_
      simp -dsimp -implicitDefEqProofs only [go_sem, reduceIte, Nat.reduceEqDiff, Nat.reduceAdd, Nat.reduceSub, Nat.reduceLeDiff, Nat.reduceLT, Nat.reduceMul, Int.reduceToNat, Int.reduceLT, Int.reduceLE, Int.reduceEq, Int.reduceNeg, go_sem, t4, t5, pC, pD, gC, gD, lC, lD, qC, qD, tC, ck, nP, ints_len]
      refine ⟨by omega, by simp only [hset_length, List.length_append, List.length_cons, List.length_nil]; omega, ⟨fun _ => trivial, fun _ => trivial⟩, by rw [hset_length (a := m + 2)]; exact Nat.le_refl _, ?_⟩
      refine fin _ ?_ ?_ ?_
      · simp only [hset_length, List.length_append]; omega
      · rw [hset_app (h := h4) (by omega), hset_app (h := hset h4 _ _) (by rw [hset_length]; omega), List.append_assoc, hset_app (by simp only [hset_length]; omega), hset_app (by simp only [hset_length]; omega)]
        exact (s4.edge hsd.l1 hsd.l2 hi hk hm).snoc
      · intro a ha hb
        rw [hset_app (h := h4) (by omega), hset_app (h := hset h4 _ _) (by rw [hset_length]; omega), List.append_assoc, hset_app (by simp only [hset_length]; omega), hset_app (by simp only [hset_length]; omega), hget_append_old (by simp only [hset_length]; omega)]
        exact edgeH_other ha hi hk
end Go.AL
