/- Plain laws of graphs and of their trees. -/
import Derived.Test.YtjiccnebfbpcgaaGreatDoorPe
set_option linter.unusedSimpArgs false
set_option linter.unusedVariables false
set_option linter.unusedSectionVars false
namespace Go.AL
def addE (f : Nat) (st : List (List Nat) × List (List Nat)) (k : Nat) : List (List Nat) × List (List Nat) :=
  if k ∈ st.1.getD f [] then st else (st.1.modify f (· ++ [k]), st.2.modify k (· ++ [f]))
def addN (names : List (List UInt8)) (f : Nat) (st : List (List Nat) × List (List Nat)) (s : List UInt8) : List (List Nat) × List (List Nat) :=
  match names.findIdx? (fun n => decide (n = s)) with
  | some k => addE f st k
  | none => st
def addB (names : List (List UInt8)) (st : List (List Nat) × List (List Nat)) (p : Nat × List (List UInt8)) : List (List Nat) × List (List Nat) := p.2.foldl (addN names p.1) st
def noEdges (n : Nat) : List (List Nat) × List (List Nat) := (List.replicate n [], List.replicate n [])
def edges (bs : List (List UInt8 × List (List UInt8))) : List (List Nat) × List (List Nat) :=
  ((bs.zipIdx.map fun q => (q.2, q.1.2))).foldl (addB (bs.map (·.1))) (noEdges bs.length)
structure Sides (n : Nat) (st : List (List Nat) × List (List Nat)) : Prop where
  l1 : st.1.length = n
  l2 : st.2.length = n
  tr : ∀ i k, k ∈ st.1.getD i [] ↔ i ∈ st.2.getD k []
  lt1 : ∀ i k, k ∈ st.1.getD i [] → i < n ∧ k < n
  nd1 : ∀ i, (st.1.getD i []).Nodup
  nd2 : ∀ i, (st.2.getD i []).Nodup
theorem getD_modify {l : List (List Nat)} {f i : Nat} {g : List Nat → List Nat} (hf : f < l.length) : (l.modify f g).getD i [] = if f = i then g (l.getD i []) else l.getD i [] := by
  rw [List.getD_eq_getElem?_getD, List.getD_eq_getElem?_getD, List.getElem?_modify]
  by_cases e : f = i
  · subst e
    simp [List.getElem?_eq_getElem hf]
  · simp [e]
theorem Sides.none (n : Nat) : Sides n (noEdges n) := by
  have h : ∀ i, (List.replicate n ([] : List Nat)).getD i [] = [] := by
    intro i
    rw [List.getD_eq_getElem?_getD, List.getElem?_replicate]
    split <;> rfl
  refine ⟨by simp [noEdges], by simp [noEdges], fun i k => ?_, fun i k hk => ?_, fun i => ?_, fun i => ?_⟩
  · show k ∈ (List.replicate n ([] : List Nat)).getD i [] ↔ i ∈ (List.replicate n ([] : List Nat)).getD k []
    rw [h, h]; simp
  · have hk : k ∈ (List.replicate n ([] : List Nat)).getD i [] := hk
    rw [h] at hk; cases hk
  · show ((List.replicate n ([] : List Nat)).getD i []).Nodup
    rw [h]; simp
  · show ((List.replicate n ([] : List Nat)).getD i []).Nodup
    rw [h]; simp
theorem Sides.addE {n f k : Nat} {st : List (List Nat) × List (List Nat)} (h : Sides n st) (hf : f < n) (hk : k < n) : Sides n (Go.AL.addE f st k) := by
  unfold Go.AL.addE
  split
  · exact h
  · rename_i hnew
    have g1 : ∀ i, (st.1.modify f (· ++ [k])).getD i [] = if f = i then st.1.getD i [] ++ [k] else st.1.getD i [] := fun i => getD_modify (by rw [h.l1]; exact hf)
    have g2 : ∀ i, (st.2.modify k (· ++ [f])).getD i [] = if k = i then st.2.getD i [] ++ [f] else st.2.getD i [] := fun i => getD_modify (by rw [h.l2]; exact hk)
    refine ⟨by simp [h.l1], by simp [h.l2], fun i j => ?_, fun i j hj => ?_, fun i => ?_, fun i => ?_⟩
    · show j ∈ (st.1.modify f (· ++ [k])).getD i [] ↔ i ∈ (st.2.modify k (· ++ [f])).getD j []
      rw [g1, g2]
      have := h.tr i j
      by_cases e1 : f = i <;> by_cases e2 : k = j <;> simp_all [eq_comm]
    · have hj : j ∈ (st.1.modify f (· ++ [k])).getD i [] := hj
      rw [g1] at hj
      by_cases e1 : f = i
      · rw [if_pos e1] at hj
        rcases List.mem_append.1 hj with hj | hj
        · exact h.lt1 i j hj
        · simp only [List.mem_cons, List.not_mem_nil, or_false] at hj
          subst hj; subst e1; exact ⟨hf, hk⟩
      · rw [if_neg e1] at hj; exact h.lt1 i j hj
    · show ((st.1.modify f (· ++ [k])).getD i []).Nodup
      rw [g1]
      split
      · rename_i e; subst e
        rw [List.nodup_append]
        exact ⟨h.nd1 f, by simp, fun a ha b hb e => hnew (by simp at hb; rw [← hb, ← e]; exact ha)⟩
      · exact h.nd1 i
    · show ((st.2.modify k (· ++ [f])).getD i []).Nodup
      rw [g2]
      split
      · rename_i e; subst e
        rw [List.nodup_append]
        exact ⟨h.nd2 k, by simp, fun a ha b hb e => hnew ((h.tr f k).2 (by simp at hb; rw [← hb, ← e]; exact ha))⟩
      · exact h.nd2 i
theorem Sides.addN {n f : Nat} {names : List (List UInt8)} {s : List UInt8} {st : List (List Nat) × List (List Nat)} (h : Sides n st) (hn : names.length = n) (hf : f < n) : Sides n (Go.AL.addN names f st s) := by
  unfold Go.AL.addN
  split
  · rename_i k hk
    obtain ⟨hk, _⟩ := List.findIdx?_eq_some_iff_getElem.1 hk
    exact h.addE hf (by omega)
  · exact h
theorem Sides.addL {n f : Nat} {names : List (List UInt8)} (hn : names.length = n) (hf : f < n) : ∀ (l : List (List UInt8)) {st : List (List Nat) × List (List Nat)}, Sides n st → Sides n (l.foldl (Go.AL.addN names f) st)
  | [], _, h => h
  | s :: l, _, h => Sides.addL hn hf l (h.addN hn hf)
theorem Sides.addBs {n : Nat} {names : List (List UInt8)} (hn : names.length = n) : ∀ (l : List (Nat × List (List UInt8))) {st : List (List Nat) × List (List Nat)}, (∀ p ∈ l, p.1 < n) → Sides n st → Sides n (l.foldl (Go.AL.addB names) st)
  | [], _, _, h => h
  | p :: l, _, hl, h => Sides.addBs hn l (fun q hq => hl q (List.mem_cons_of_mem _ hq)) (Sides.addL hn (hl p (List.mem_cons_self ..)) p.2 h)
theorem sides_edges (bs : List (List UInt8 × List (List UInt8))) : Sides bs.length (edges bs) := by
  unfold edges
  refine Sides.addBs (by simp) _ (fun p hp => ?_) (Sides.none _)
  obtain ⟨q, hq, rfl⟩ := List.mem_map.1 hp
  have := List.mem_zipIdx hq
  omega
end Go.AL
namespace Go.AL
structure VInv (nx : Nat → List Nat) (n : Nat) (way : List (Nat × Nat)) (R : Nat → Bool) (O : List Nat) : Prop where
  mem : ∀ i, R i = true ↔ i ∈ way.map (·.1) ∨ i ∈ O
  nd : (way.map (·.1) ++ O).Nodup
  lt : ∀ i, R i = true → i < n
  root : (way = [] ∧ O.getLast? = some 0) ∨ (∃ j w, way = (0, j) :: w)
  idx : ∀ b i, (b, i) ∈ way → i ≤ (nx b).length ∧ ∀ j k, j < i → (nx b)[j]? = some k → R k = true
  cl : ∀ u, u ∈ O → ∀ k, k ∈ nx u → R k = true
  par : ∀ w1 b i b' i' w2, way = w1 ++ (b, i) :: (b', i') :: w2 → b' ∈ nx b
  parO : ∀ u, u ∈ O → u ≠ 0 → ∃ p, u ∈ nx p ∧ (p ∈ way.map (·.1) ∨ ∃ l1 l2, O = l1 ++ u :: l2 ∧ p ∈ l2)
theorem VInv.start {nx : Nat → List Nat} {n : Nat} (hn : 0 < n) : VInv nx n [(0, 0)] (fun i => if i = 0 then true else false) [] where
  mem i := by simp
  nd := by simp
  lt i h := by simp at h; omega
  root := .inr ⟨0, [], rfl⟩
  idx b i h := by
    simp only [List.mem_cons, Prod.mk.injEq, List.not_mem_nil, or_false] at h
    obtain ⟨rfl, rfl⟩ := h
    exact ⟨Nat.zero_le _, fun j k h => by omega⟩
  cl u h := by cases h
  par w1 b i b' i' w2 h := by
    have := congrArg List.length h
    simp at this
    omega
  parO u h := by cases h
theorem par_last {nx : Nat → List Nat} {w : List (Nat × Nat)} {b i j : Nat} (h : ∀ w1 b1 i1 b2 i2 w2, w ++ [(b, i)] = w1 ++ (b1, i1) :: (b2, i2) :: w2 → b2 ∈ nx b1) :
    ∀ w1 b1 i1 b2 i2 w2, w ++ [(b, j)] = w1 ++ (b1, i1) :: (b2, i2) :: w2 → b2 ∈ nx b1 := by
  intro w1 b1 i1 b2 i2 w2 hw
  rcases List.eq_nil_or_concat w2 with rfl | ⟨w3, x, rfl⟩
  · have : w1 ++ (b1, i1) :: (b2, i2) :: [] = (w1 ++ [(b1, i1)]) ++ [(b2, i2)] := by simp
    rw [this] at hw
    obtain ⟨ha, hb⟩ := List.append_inj' hw rfl
    simp only [List.cons.injEq, Prod.mk.injEq, and_true] at hb
    obtain ⟨rfl, rfl⟩ := hb
    subst ha
    exact h w1 b1 i1 b i [] (by simp)
  · have : w1 ++ (b1, i1) :: (b2, i2) :: (w3 ++ [x]) = (w1 ++ (b1, i1) :: (b2, i2) :: w3) ++ [x] := by simp
    rw [List.concat_eq_append, this] at hw
    obtain ⟨ha, hb⟩ := List.append_inj' hw rfl
    subst ha
    exact h w1 b1 i1 b2 i2 (w3 ++ [(b, i)]) (by simp)
theorem VInv.skip {nx : Nat → List Nat} {n : Nat} {w : List (Nat × Nat)} {b i k : Nat} {R : Nat → Bool} {O : List Nat} (h : VInv nx n (w ++ [(b, i)]) R O) (hk : (nx b)[i]? = some k) (hr : R k = true) :
    VInv nx n (w ++ [(b, i + 1)]) R O := by
  have e : (w ++ [(b, i + 1)]).map (·.1) = (w ++ [(b, i)]).map (·.1) := by simp
  refine ⟨by rw [e]; exact h.mem, by rw [e]; exact h.nd, h.lt, ?_, ?_, h.cl, ?_, by rw [e]; exact h.parO⟩
  · right
    rcases h.root with ⟨h1, _⟩ | ⟨j, w', h1⟩
    · simp at h1
    · cases w with
      | nil => simp at h1; exact ⟨i + 1, [], by simp [h1.1.1]⟩
      | cons x xs => simp at h1; exact ⟨j, xs ++ [(b, i + 1)], by simp [h1.1]⟩
  · intro b' i' hm
    rcases List.mem_append.1 hm with hm | hm
    · exact h.idx b' i' (List.mem_append_left _ hm)
    · simp only [List.mem_cons, Prod.mk.injEq, List.not_mem_nil, or_false] at hm
      obtain ⟨rfl, rfl⟩ := hm
      obtain ⟨h1, h2⟩ := h.idx b' i (by simp)
      have hlt := (List.getElem?_eq_some_iff.1 hk).1
      refine ⟨hlt, fun j x hj hx => ?_⟩
      by_cases e : j = i
      · subst e; rw [hk] at hx; cases hx; exact hr
      · exact h2 j x (by omega) hx
  · exact par_last h.par
theorem VInv.push {nx : Nat → List Nat} {n : Nat} {w : List (Nat × Nat)} {b i k : Nat} {R : Nat → Bool} {O : List Nat} (h : VInv nx n (w ++ [(b, i)]) R O) (hk : (nx b)[i]? = some k) (hr : R k = false) (hkn : k < n) :
    VInv nx n (w ++ [(b, i + 1)] ++ [(k, 0)]) (fun j => if j = k then true else R j) O := by
  have e : List.map (·.1) (w ++ [(b, i + 1)] ++ [(k, 0)] : List (Nat × Nat)) = (w ++ [(b, i)]).map (·.1) ++ [k] := by simp
  have hkm : k ∉ (w ++ [(b, i)]).map (·.1) ∧ k ∉ O := by
    constructor
    · intro hm; rw [(h.mem k).2 (.inl hm)] at hr; cases hr
    · intro hm; rw [(h.mem k).2 (.inr hm)] at hr; cases hr
  have mono : ∀ j, R j = true → (if j = k then true else R j) = true := fun j hj => by split <;> simp_all
  refine ⟨fun j => ?_, ?_, fun j hj => ?_, ?_, ?_, fun u hu x hx => mono _ (h.cl u hu x hx), ?_, fun u hu hu0 => ?_⟩
  · rw [e]
    by_cases ej : j = k
    · subst ej; simp
    · rw [if_neg ej, h.mem j]; simp only [List.mem_append, List.mem_cons, List.not_mem_nil, or_false, ej]
  · rw [e]
    have := h.nd
    rw [List.nodup_append] at this ⊢
    obtain ⟨n1, n2, n3⟩ := this
    refine ⟨?_, n2, fun a ha c hc => ?_⟩
    · rw [List.nodup_append]
      refine ⟨n1, by simp, fun a ha c hc => ?_⟩
      simp only [List.mem_cons, List.not_mem_nil, or_false] at hc
      subst hc; intro e; subst e; exact hkm.1 ha
    · rcases List.mem_append.1 ha with ha | ha
      · exact n3 a ha c hc
      · simp only [List.mem_cons, List.not_mem_nil, or_false] at ha
        subst ha; intro e; subst e; exact hkm.2 hc
  · by_cases ej : j = k
    · subst ej; exact hkn
    · rw [if_neg ej] at hj; exact h.lt j hj
  · right
    rcases h.root with ⟨h1, _⟩ | ⟨j, w', h1⟩
    · simp at h1
    · cases w with
      | nil => simp at h1; exact ⟨i + 1, [(k, 0)], by simp [h1.1.1]⟩
      | cons x xs => simp at h1; exact ⟨j, xs ++ [(b, i + 1)] ++ [(k, 0)], by simp [h1.1]⟩
  · intro b' i' hm
    rcases List.mem_append.1 hm with hm | hm
    · rcases List.mem_append.1 hm with hm | hm
      · obtain ⟨h1, h2⟩ := h.idx b' i' (List.mem_append_left _ hm)
        exact ⟨h1, fun j x hj hx => mono _ (h2 j x hj hx)⟩
      · simp only [List.mem_cons, Prod.mk.injEq, List.not_mem_nil, or_false] at hm
        obtain ⟨rfl, rfl⟩ := hm
        obtain ⟨h1, h2⟩ := h.idx b' i (by simp)
        have hlt := (List.getElem?_eq_some_iff.1 hk).1
        refine ⟨hlt, fun j x hj hx => ?_⟩
        by_cases e : j = i
        · subst e; rw [hk] at hx; cases hx; simp
        · exact mono _ (h2 j x (by omega) hx)
    · simp only [List.mem_cons, Prod.mk.injEq, List.not_mem_nil, or_false] at hm
      obtain ⟨rfl, rfl⟩ := hm
      exact ⟨Nat.zero_le _, fun j x hj => by omega⟩
  · intro w1 b1 i1 b2 i2 w2 hw
    rcases List.eq_nil_or_concat w2 with rfl | ⟨w3, x, rfl⟩
    · have : w1 ++ (b1, i1) :: (b2, i2) :: [] = (w1 ++ [(b1, i1)]) ++ [(b2, i2)] := by simp
      rw [this] at hw
      obtain ⟨ha, hb⟩ := List.append_inj' hw rfl
      simp only [List.cons.injEq, Prod.mk.injEq, and_true] at hb
      obtain ⟨rfl, rfl⟩ := hb
      obtain ⟨_, hc⟩ := List.append_inj' ha rfl
      simp only [List.cons.injEq, Prod.mk.injEq, and_true] at hc
      obtain ⟨rfl, rfl⟩ := hc
      exact List.mem_of_getElem? hk
    · have : w1 ++ (b1, i1) :: (b2, i2) :: (w3 ++ [x]) = (w1 ++ (b1, i1) :: (b2, i2) :: w3) ++ [x] := by simp
      rw [List.concat_eq_append, this] at hw
      obtain ⟨ha, _⟩ := List.append_inj' hw rfl
      exact par_last h.par w1 b1 i1 b2 i2 w3 ha
  · rw [e]
    obtain ⟨p, hp, hq⟩ := h.parO u hu hu0
    refine ⟨p, hp, ?_⟩
    rcases hq with hq | hq
    · exact .inl (List.mem_append_left _ hq)
    · exact .inr hq
theorem VInv.pop {nx : Nat → List Nat} {n : Nat} {w : List (Nat × Nat)} {b i : Nat} {R : Nat → Bool} {O : List Nat} (h : VInv nx n (w ++ [(b, i)]) R O) (hi : (nx b).length ≤ i) : VInv nx n w R (O ++ [b]) := by
  have e : (w ++ [(b, i)]).map (·.1) = w.map (·.1) ++ [b] := by simp
  refine ⟨fun j => ?_, ?_, h.lt, ?_, fun b' i' hm => h.idx b' i' (List.mem_append_left _ hm), fun u hu x hx => ?_, ?_, fun u hu hu0 => ?_⟩
  · rw [h.mem j, e]
    simp only [List.mem_append, List.mem_cons, List.not_mem_nil, or_false]
    constructor
    · rintro ((h1 | h1) | h1)
      · exact .inl h1
      · exact .inr (.inr h1)
      · exact .inr (.inl h1)
    · rintro (h1 | h1 | h1)
      · exact .inl (.inl h1)
      · exact .inr h1
      · exact .inl (.inr h1)
  · have := h.nd
    rw [e, List.append_assoc] at this
    refine (List.Perm.nodup_iff ?_).1 this
    exact List.Perm.append_left _ (List.perm_append_comm)
  · rcases h.root with ⟨h1, _⟩ | ⟨j, w', h1⟩
    · simp at h1
    · cases w with
      | nil => simp at h1; exact .inl ⟨rfl, by simp [h1.1.1]⟩
      | cons x xs => simp at h1; exact .inr ⟨j, xs, by simp [h1.1]⟩
  · rcases List.mem_append.1 hu with hu | hu
    · exact h.cl u hu x hx
    · simp only [List.mem_cons, List.not_mem_nil, or_false] at hu
      subst hu
      obtain ⟨j, hj, rfl⟩ := List.getElem_of_mem hx
      exact (h.idx u i (by simp)).2 j _ (by omega) (List.getElem?_eq_getElem hj)
  · intro w1 b1 i1 b2 i2 w2 hw
    exact h.par w1 b1 i1 b2 i2 (w2 ++ [(b, i)]) (by rw [hw]; simp)
  · rcases List.mem_append.1 hu with hu1 | hu
    · obtain ⟨p, hp, hq⟩ := h.parO u hu1 hu0
      refine ⟨p, hp, ?_⟩
      rcases hq with hq | ⟨l1, l2, rfl, hq⟩
      · rw [e] at hq
        rcases List.mem_append.1 hq with hq | hq
        · exact .inl hq
        · simp only [List.mem_cons, List.not_mem_nil, or_false] at hq
          subst hq
          obtain ⟨l1, l2, rfl⟩ := List.append_of_mem hu1
          exact .inr ⟨l1, l2 ++ [p], by simp, by simp⟩
      · exact .inr ⟨l1, l2 ++ [b], by simp, by simp [hq]⟩
    · simp only [List.mem_cons, List.not_mem_nil, or_false] at hu
      subst hu
      rcases List.eq_nil_or_concat w with rfl | ⟨w3, ⟨b0, i0⟩, rfl⟩
      · rcases h.root with ⟨h1, _⟩ | ⟨j, w', h1⟩
        · simp at h1
        · simp at h1; exact absurd h1.1.1 hu0
      · refine ⟨b0, h.par w3 b0 i0 u i [] (by simp), .inl (by simp)⟩
structure OrdOk (nx : Nat → List Nat) (n : Nat) (ord : List Nat) : Prop where
  nd : ord.Nodup
  lt : ∀ i ∈ ord, i < n
  head : ord[0]? = some 0
  cl : ∀ u ∈ ord, ∀ k ∈ nx u, k ∈ ord
  fwd : ∀ q v, ord[q]? = some v → 0 < q → ∃ p u, p < q ∧ ord[p]? = some u ∧ v ∈ nx u
theorem VInv.done {nx : Nat → List Nat} {n : Nat} {R : Nat → Bool} {O : List Nat} (h : VInv nx n [] R O) : OrdOk nx n O.reverse ∧ ∀ i, R i = true ↔ i ∈ O.reverse := by
  have hR : ∀ i, R i = true ↔ i ∈ O := fun i => by rw [h.mem i]; simp
  have h0 : O.getLast? = some 0 := by
    rcases h.root with ⟨_, h1⟩ | ⟨j, w, h1⟩
    · exact h1
    · cases h1
  have hd : O.reverse[0]? = some 0 := by rw [← List.head?_eq_getElem?, List.head?_reverse]; exact h0
  have nd : O.reverse.Nodup := by
    have := h.nd
    simp only [List.map_nil, List.nil_append] at this
    exact (List.reverse_perm O).nodup_iff.2 this
  refine ⟨⟨nd, fun i hi => h.lt i ((hR i).2 (List.mem_reverse.1 hi)), hd, fun u hu k hk => ?_, fun q v hq hlt => ?_⟩, fun i => by rw [hR i, List.mem_reverse]⟩
  · exact List.mem_reverse.2 ((hR k).1 (h.cl u (List.mem_reverse.1 hu) k hk))
  · have hv0 : v ≠ 0 := by
      rintro rfl
      obtain ⟨h1, h2⟩ := List.getElem?_eq_some_iff.1 hq
      obtain ⟨h3, h4⟩ := List.getElem?_eq_some_iff.1 hd
      have := (List.getElem_inj (h₀ := h1) (h₁ := h3) nd).1 (by rw [h2, h4])
      omega
    obtain ⟨p, hp, hor⟩ := h.parO v (List.mem_reverse.1 (List.mem_of_getElem? hq)) hv0
    rcases hor with hor | ⟨l1, l2, e, hm⟩
    · cases hor
    · have er : O.reverse = l2.reverse ++ v :: l1.reverse := by rw [e]; simp
      have hl : l2.reverse.length < O.reverse.length := by rw [er]; simp
      have e2 : O.reverse[l2.reverse.length]? = some v := by rw [er, List.getElem?_append_right (Nat.le_refl _)]; simp
      have eq : q = l2.reverse.length := by
        obtain ⟨h1, h2⟩ := List.getElem?_eq_some_iff.1 hq
        obtain ⟨h3, h4⟩ := List.getElem?_eq_some_iff.1 e2
        exact (List.getElem_inj (h₀ := h1) (h₁ := h3) nd).1 (by rw [h2, h4])
      obtain ⟨j, hj, hjp⟩ := List.getElem_of_mem (List.mem_reverse.2 hm)
      refine ⟨j, p, by omega, ?_, hp⟩
      rw [er, List.getElem?_append_left hj, List.getElem?_eq_getElem hj, hjp]
def unr (l : List Nat) (R : Nat → Bool) : Nat := l.countP fun i => !R i
theorem unr_one {R : Nat → Bool} {k : Nat} : ∀ (l : List Nat), l.Nodup → k ∈ l → R k = false → unr l (fun j => if j = k then true else R j) + 1 = unr l R
  | [], _, h, _ => by cases h
  | x :: l, hn, hk, hr => by
    unfold unr
    rw [List.countP_cons, List.countP_cons]
    by_cases e : x = k
    · subst e
      have hx : x ∉ l := (List.nodup_cons.1 hn).1
      have : l.countP (fun i => !(if i = x then true else R i)) = l.countP fun i => !R i := by
        apply List.countP_congr
        intro i hi
        have : i ≠ x := fun e => hx (e ▸ hi)
        simp [this]
      rw [this]
      simp [hr]
    · have hk' : k ∈ l := by
        rcases List.mem_cons.1 hk with e' | hk
        · exact absurd e'.symm e
        · exact hk
      have : l.countP (fun i => !(if i = k then true else R i)) + 1 = l.countP fun i => !R i := unr_one l (List.nodup_cons.1 hn).2 hk' hr
      rw [← this]
      simp only [e, if_false]
      omega
end Go.AL
namespace Go.AL
inductive Anc (L : Nat → Option Nat) : Nat → Nat → Prop
  | refl (v : Nat) : Anc L v v
  | step {v l x : Nat} (h : L v = some l) (hx : Anc L l x) : Anc L v x
theorem Anc.trans {L : Nat → Option Nat} {v u x : Nat} (h : Anc L v u) (h' : Anc L u x) : Anc L v x := by
  induction h with
  | refl => exact h'
  | step h _ ih => exact .step h (ih h')
theorem Anc.cases' {L : Nat → Option Nat} {v x : Nat} (h : Anc L v x) : x = v ∨ ∃ l, L v = some l ∧ Anc L l x := by
  cases h with
  | refl => exact .inl rfl
  | step h hx => exact .inr ⟨_, h, hx⟩
theorem Anc.total {L : Nat → Option Nat} {v x y : Nat} (h : Anc L v x) (h' : Anc L v y) : Anc L x y ∨ Anc L y x := by
  induction h with
  | refl => exact .inl h'
  | step h hx ih =>
    rcases h'.cases' with rfl | ⟨l, e, h2⟩
    · exact .inr (.step h hx)
    · rw [h] at e; cases e; exact ih h2
def Down (pl : Nat → Nat) (L : Nat → Option Nat) : Prop := ∀ v l, L v = some l → pl l < pl v
theorem Anc.place {pl : Nat → Nat} {L : Nat → Option Nat} (hd : Down pl L) {v x : Nat} (h : Anc L v x) : x = v ∨ pl x < pl v := by
  induction h with
  | refl => exact .inl rfl
  | step h _ ih =>
    have := hd _ _ h
    rcases ih with rfl | h2
    · exact .inr this
    · exact .inr (by omega)
theorem Anc.le {pl : Nat → Nat} {L : Nat → Option Nat} (hd : Down pl L) {v x : Nat} (h : Anc L v x) : pl x ≤ pl v := by
  rcases h.place hd with rfl | h
  · exact Nat.le_refl _
  · omega
def upd (L : Nat → Option Nat) (b : Nat) (o : Option Nat) : Nat → Option Nat := fun v => if v = b then o else L v
theorem upd_same {L : Nat → Option Nat} {b : Nat} {o : Option Nat} : upd L b o b = o := if_pos rfl
theorem upd_ne {L : Nat → Option Nat} {b v : Nat} {o : Option Nat} (h : v ≠ b) : upd L b o v = L v := if_neg h
def Kn (L : Nat → Option Nat) (v : Nat) : Prop := v = 0 ∨ L v ≠ none
structure Ahead (ord : List Nat) (pl : Nat → Nat) (pr : Nat → List Nat) (dom : Nat → Nat → Prop) : Prop where
  place : ∀ q v, ord[q]? = some v ↔ v ∈ ord ∧ pl v = q
  head : ord[0]? = some 0
  fwd : ∀ v, v ∈ ord → 0 < pl v → ∃ p, p ∈ pr v ∧ p ∈ ord ∧ pl p < pl v
  dom0 : ∀ x, dom 0 x → x = 0
  dom : ∀ v x p, dom v x → x ≠ v → p ∈ pr v → p ∈ ord → dom p x
def IsMeet (L : Nat → Option Nat) (l : List Nat) (o : Option Nat) : Prop :=
  (o = none ∧ ∀ p ∈ l, ¬ Kn L p) ∨ ∃ c, o = some c ∧ Kn L c ∧ (∃ p ∈ l, Kn L p) ∧ ∀ x, Anc L c x ↔ ∀ p ∈ l, Kn L p → Anc L p x
structure LdInv (ord : List Nat) (pl : Nat → Nat) (pr : Nat → List Nat) (dom : Nat → Nat → Prop) (q : Nat) (L : Nat → Option Nat) : Prop where
  i1 : ∀ v l, L v = some l → v ∈ ord ∧ l ∈ ord ∧ pl l < pl v ∧ Kn L l
  i2 : ∀ v, v ∈ ord → pl v < q → Kn L v
  k : ∀ v u, L v ≠ none → u ∈ ord → pl u < pl v → Kn L u
  m : ∀ v x, L v ≠ none → (∀ p ∈ pr v, Kn L p → Anc L p x) → Anc L v x
  a : ∀ v, v ∈ ord → 0 < pl v → pl v < q → ∀ p, p ∈ pr v → p ∈ ord → pl p < pl v → ∀ x, x ≠ v → Anc L v x → Anc L p x
  b : ∀ v, L v ≠ none → q ≤ pl v → ∀ p, p ∈ pr v → p ∈ ord → pl p < pl v → ∀ x, x ≠ v → q ≤ pl x → Anc L v x → Anc L p x
  d : ∀ v x, L v ≠ none → dom v x → Anc L v x
section
variable {ord : List Nat} {pl : Nat → Nat} {pr : Nat → List Nat} {dom : Nat → Nat → Prop} {q : Nat} {L : Nat → Option Nat}
theorem LdInv.down (h : LdInv ord pl pr dom q L) : Down pl L := fun v l e => (h.i1 v l e).2.2.1
theorem Ahead.inj (g : Ahead ord pl pr dom) {u v : Nat} (hu : u ∈ ord) (hv : v ∈ ord) (e : pl u = pl v) : u = v := by
  have h1 := (g.place (pl v) u).2 ⟨hu, e⟩
  have h2 := (g.place (pl v) v).2 ⟨hv, rfl⟩
  rw [h1] at h2; cases h2; rfl
theorem Ahead.root (g : Ahead ord pl pr dom) : 0 ∈ ord ∧ pl 0 = 0 := (g.place 0 0).1 g.head
theorem Ahead.zero (g : Ahead ord pl pr dom) {v : Nat} (hv : v ∈ ord) (e : pl v = 0) : v = 0 := g.inj hv g.root.1 (by rw [e, g.root.2])
theorem LdInv.kin (g : Ahead ord pl pr dom) (h : LdInv ord pl pr dom q L) {v : Nat} (hk : Kn L v) : v ∈ ord := by
  rcases hk with rfl | hk
  · exact g.root.1
  · cases e : L v with
    | none => exact absurd e hk
    | some l => exact (h.i1 v l e).1
theorem LdInv.pos (h : LdInv ord pl pr dom q L) {v : Nat} (hk : L v ≠ none) : v ∈ ord ∧ 0 < pl v := by
  cases e : L v with
  | none => exact absurd e hk
  | some l => have := h.i1 v l e; exact ⟨this.1, by omega⟩
theorem LdInv.kanc (h : LdInv ord pl pr dom q L) {v x : Nat} (ha : Anc L v x) (hv : Kn L v) : Kn L x := by
  induction ha with
  | refl => exact hv
  | step e _ ih => exact ih (h.i1 _ _ e).2.2.2
theorem LdInv.start (g : Ahead ord pl pr dom) : LdInv ord pl pr dom 1 (fun _ => none) where
  i1 v l h := by cases h
  i2 v hv h := .inl (g.zero hv (by omega))
  k v u h := absurd rfl h
  m v x h := absurd rfl h
  a v hv h1 h2 := by omega
  b v h := absurd rfl h
  d v x h := absurd rfl h
theorem LdInv.again (g : Ahead ord pl pr dom) (h : LdInv ord pl pr dom ord.length L) : LdInv ord pl pr dom 1 L where
  i1 := h.i1
  i2 v hv e := .inl (g.zero hv (by omega))
  k := h.k
  m := h.m
  a v hv h1 h2 := by omega
  b v hv _ p hp ho hlt x hx _ ha := by
    have hpos := h.pos hv
    have : pl v < ord.length := (List.getElem?_eq_some_iff.1 ((g.place (pl v) v).2 ⟨hpos.1, rfl⟩)).1
    exact h.a v hpos.1 hpos.2 this p hp ho hlt x hx ha
  d := h.d
theorem LdInv.step (g : Ahead ord pl pr dom) (h : LdInv ord pl pr dom q L) (hq : 1 ≤ q) {b : Nat} (hb : ord[q]? = some b) {o : Option Nat} (hm : IsMeet L (pr b) o) :
    ∃ c, o = some c ∧ c ∈ ord ∧ LdInv ord pl pr dom (q + 1) (upd L b o) ∧ (L b = none ∨ ∃ c', L b = some c' ∧ c' ∈ ord ∧ (c = c' ∨ pl c < pl c')) := by
  obtain ⟨hbo, hbq⟩ := (g.place q b).1 hb
  obtain ⟨p0, hp0, hp0o, hp0l⟩ := g.fwd b hbo (by omega)
  have hdn := h.down
  have hk0 : Kn L p0 := h.i2 p0 hp0o (by omega)
  rcases hm with ⟨_, hm⟩ | ⟨c, rfl, hkc, _, hm⟩
  · exact absurd hk0 (hm p0 hp0)
  have hco : c ∈ ord := h.kin g hkc
  have hcl : pl c < q := by
    have := ((hm c).1 (.refl c) p0 hp0 hk0).le hdn
    omega
  have hb0 : b ≠ 0 := by
    rintro rfl
    have := g.root.2
    omega
  refine ⟨c, rfl, hco, ?_, ?_⟩
  rotate_left
  · cases e : L b with
    | none => exact .inl rfl
    | some c' =>
      right
      refine ⟨c', rfl, (h.i1 b c' e).2.1, ?_⟩
      have ha : Anc L b c := h.m b c (by rw [e]; simp) ((hm c).1 (.refl c))
      rcases ha.cases' with rfl | ⟨l, e', ha⟩
      · omega
      · rw [e] at e'; cases e'
        exact ha.place hdn
  -- the new lords
  have ub : upd L b (some c) b = some c := upd_same
  have un : ∀ {v : Nat}, v ≠ b → upd L b (some c) v = L v := fun hv => upd_ne hv
  have hdn' : Down pl (upd L b (some c)) := by
    intro v l e
    by_cases hv : v = b
    · subst hv; rw [ub] at e; cases e; omega
    · rw [un hv] at e; exact hdn v l e
  have f3 : ∀ {v x : Nat}, ¬ Anc L v b → (Anc (upd L b (some c)) v x ↔ Anc L v x) := by
    intro v x hv
    constructor
    · intro ha
      induction ha with
      | refl => exact .refl _
      | step e _ ih =>
        rename_i v l x _
        have hvb : v ≠ b := fun e => hv (e ▸ .refl _)
        rw [un hvb] at e
        exact .step e (ih fun hh => hv (.step e hh))
    · intro ha
      induction ha with
      | refl => exact .refl _
      | step e _ ih =>
        rename_i v l x _
        have hvb : v ≠ b := fun e => hv (e ▸ .refl _)
        exact .step (by rw [un hvb]; exact e) (ih fun hh => hv (.step e hh))
  have nab : ∀ {v : Nat}, pl v < q → ¬ Anc L v b := fun hv ha => by have := ha.le hdn; omega
  have f3' : ∀ {v x : Nat}, pl v < q → (Anc (upd L b (some c)) v x ↔ Anc L v x) := fun hv => f3 (nab hv)
  have f5a : ∀ {v x : Nat}, q ≤ pl x → (Anc (upd L b (some c)) v x ↔ Anc L v x) := by
    intro v x hx
    constructor
    · intro ha
      induction ha with
      | refl => exact .refl _
      | step e ha' ih =>
        rename_i v l x
        by_cases hv : v = b
        · subst hv; rw [ub] at e; cases e
          have := ha'.le hdn'; omega
        · rw [un hv] at e; exact .step e (ih hx)
    · intro ha
      induction ha with
      | refl => exact .refl _
      | step e ha' ih =>
        rename_i v l x
        by_cases hv : v = b
        · subst hv
          have := hdn _ _ e
          have := ha'.le hdn; omega
        · exact .step (by rw [un hv]; exact e) (ih hx)
  have f5k : ∀ (k v x : Nat), pl v ≤ k → Anc L v b → pl x < q → (Anc (upd L b (some c)) v x ↔ Anc L c x) := by
    intro k
    induction k using Nat.strongRecOn with
    | _ k ih =>
      intro v x hvk ha hx
      rcases ha.cases' with e | ⟨l, e, ha'⟩
      · subst e
        have hxv : x ≠ b := fun e => by subst e; omega
        constructor
        · intro ha
          rcases ha.cases' with e | ⟨l, e, ha⟩
          · exact absurd e hxv
          · rw [ub] at e; cases e; exact (f3' hcl).1 ha
        · intro ha; exact .step ub ((f3' hcl).2 ha)
      · have h1 := hdn _ _ e
        have h2 := ha'.le hdn
        have hv : v ≠ b := fun e => by subst e; omega
        have hxv : x ≠ v := fun e => by subst e; omega
        rw [← ih (pl l) (by omega) l x (Nat.le_refl _) ha' hx]
        constructor
        · intro ha
          rcases ha.cases' with e' | ⟨l', e', ha⟩
          · exact absurd e' hxv
          · rw [un hv, e] at e'; cases e'; exact ha
        · intro ha; exact .step (by rw [un hv]; exact e) ha
  have f5b : ∀ {v x : Nat}, Anc L v b → pl x < q → (Anc (upd L b (some c)) v x ↔ Anc L c x) := fun ha hx => f5k _ _ _ (Nat.le_refl _) ha hx
  have kmono : ∀ {v : Nat}, Kn L v → Kn (upd L b (some c)) v := by
    intro v hv
    rcases hv with rfl | hv
    · exact .inl rfl
    · right
      by_cases e : v = b
      · subst e; rw [ub]; simp
      · rw [un e]; exact hv
  have kb : Kn (upd L b (some c)) b := .inr (by rw [ub]; simp)
  have f6 : ∀ {v x : Nat}, Kn L v → Anc (upd L b (some c)) v x → Anc L v x := by
    intro v x hv ha
    by_cases hvb : Anc L v b
    · have hlb : L b ≠ none := by
        rcases h.kanc hvb hv with e | e
        · exact absurd e hb0
        · exact e
      by_cases hx : q ≤ pl x
      · exact (f5a hx).1 ha
      · have := (f5b hvb (by omega)).1 ha
        exact hvb.trans (h.m b x hlb ((hm x).1 this))
    · exact (f3 hvb).1 ha
  have fp : ∀ {v : Nat}, v ≠ b → L v ≠ none → Anc L v b → ∃ p, p ∈ pr v ∧ p ∈ ord ∧ pl p < pl v ∧ Kn L p ∧ Anc L p b := by
    intro v hv hl ha
    obtain ⟨hvo, hvp⟩ := h.pos hl
    obtain ⟨p, h1, h2, h3⟩ := g.fwd v hvo hvp
    have hbv : pl b ≤ pl v := ha.le hdn
    exact ⟨p, h1, h2, h3, h.k v p hl h2 h3, h.b v hl (by omega) p h1 h2 h3 b (fun e => hv e.symm) (by omega) ha⟩
  refine ⟨fun v l e => ?_, fun v hv hlt => ?_, fun v u hl hu hlt => ?_, fun v x hl hall => ?_, fun v hv h1 h2 p hp hpo hlt x hx ha => ?_, fun v hl hle p hp hpo hlt x hx hxq ha => ?_, ?_⟩
  · by_cases hv : v = b
    · subst hv; rw [ub] at e; cases e; exact ⟨hbo, hco, by omega, kmono hkc⟩
    · rw [un hv] at e
      obtain ⟨h1, h2, h3, h4⟩ := h.i1 v l e
      exact ⟨h1, h2, h3, kmono h4⟩
  · by_cases hv2 : pl v < q
    · exact kmono (h.i2 v hv hv2)
    · have : v = b := g.inj hv hbo (by omega)
      subst this; exact kb
  · by_cases hv : v = b
    · subst hv; exact kmono (h.i2 u hu (by omega))
    · rw [un hv] at hl; exact kmono (h.k v u hl hu hlt)
  · by_cases hv : v = b
    · subst hv
      refine .step ub ((f3' hcl).2 ((hm x).2 fun p hp hk => f6 hk (hall p hp (kmono hk))))
    · rw [un hv] at hl
      have ha : Anc L v x := h.m v x hl fun p hp hk => f6 hk (hall p hp (kmono hk))
      by_cases hvb : Anc L v b
      · by_cases hx : q ≤ pl x
        · exact (f5a hx).2 ha
        · obtain ⟨p, h1, h2, h3, h4, h5⟩ := fp hv hl hvb
          exact (f5b hvb (by omega)).2 ((f5b h5 (by omega)).1 (hall p h1 (kmono h4)))
      · exact (f3 hvb).2 ha
  · by_cases hvq : pl v < q
    · rw [f3' hvq] at ha
      rw [f3' (by omega)]
      exact h.a v hv h1 hvq p hp hpo hlt x hx ha
    · have : v = b := g.inj hv hbo (by omega)
      subst this
      rcases ha.cases' with rfl | ⟨l, e, ha⟩
      · exact absurd rfl hx
      · rw [ub] at e; cases e
        rw [f3' hcl] at ha
        rw [f3' (by omega)]
        exact (hm x).1 ha p hp (h.i2 p hpo (by omega))
  · have hv : v ≠ b := fun e => by subst e; omega
    rw [un hv] at hl
    rw [f5a (by omega)] at ha ⊢
    exact h.b v hl (by omega) p hp hpo hlt x hx (by omega) ha
  · have key : ∀ k v x, pl v ≤ k → Kn (upd L b (some c)) v → dom v x → Anc (upd L b (some c)) v x := by
      intro k
      induction k using Nat.strongRecOn with
      | _ k ih =>
        intro v x hvk hkv hdm
        by_cases hv0 : v = 0
        · subst hv0; rw [g.dom0 x hdm]; exact .refl _
        by_cases hv : v = b
        · subst hv
          by_cases hx : x = v
          · subst hx; exact .refl _
          · refine .step ub ((f3' hcl).2 ((hm x).2 fun p hp hk => ?_))
            have hdp := g.dom v x p hdm hx hp (h.kin g hk)
            rcases hk with rfl | hk
            · rw [g.dom0 x hdp]; exact .refl _
            · exact h.d p x hk hdp
        · have hl : L v ≠ none := by
            rcases hkv with e | e
            · exact absurd e hv0
            · rw [un hv] at e; exact e
          have ha := h.d v x hl hdm
          by_cases hvb : Anc L v b
          · by_cases hx : q ≤ pl x
            · exact (f5a hx).2 ha
            · obtain ⟨p, h1, h2, h3, h4, h5⟩ := fp hv hl hvb
              have hxv : x ≠ v := fun e => by
                subst e
                have := hvb.le hdn
                omega
              have := ih (pl p) (by omega) p x (Nat.le_refl _) (kmono h4) (g.dom v x p hdm hxv h1 h2)
              exact (f5b hvb (by omega)).2 ((f5b h5 (by omega)).1 this)
          · exact (f3 hvb).2 ha
    exact fun v x hl hdm => key _ v x (Nat.le_refl _) (.inr hl) hdm
structure DomOk (ord : List Nat) (pl : Nat → Nat) (pr : Nat → List Nat) (dom : Nat → Nat → Prop) (L : Nat → Option Nat) : Prop where
  i1 : ∀ v l, L v = some l → v ∈ ord ∧ l ∈ ord ∧ pl l < pl v
  kn : ∀ v, v ∈ ord → v = 0 ∨ L v ≠ none
  fix : ∀ v c, L v = some c → ∀ p ∈ pr v, p ∈ ord → Anc L p c
  d : ∀ v x, L v ≠ none → dom v x → Anc L v x
theorem LdInv.done (h : LdInv ord pl pr dom ord.length L) (g : Ahead ord pl pr dom) (hf : ∀ q b, 1 ≤ q → ord[q]? = some b → IsMeet L (pr b) (L b)) : DomOk ord pl pr dom L where
  i1 v l e := let ⟨a, b, c, _⟩ := h.i1 v l e; ⟨a, b, c⟩
  kn v hv := h.i2 v hv (List.getElem?_eq_some_iff.1 ((g.place (pl v) v).2 ⟨hv, rfl⟩)).1
  fix v c e p hp ho := by
    obtain ⟨hv, hpos⟩ := h.pos (v := v) (by rw [e]; simp)
    rcases hf (pl v) v hpos ((g.place _ _).2 ⟨hv, rfl⟩) with ⟨e2, _⟩ | ⟨c', e2, _, _, hm⟩
    · rw [e] at e2; cases e2
    · rw [e] at e2; cases e2
      exact (hm c).1 (.refl c) p hp (h.i2 p ho (List.getElem?_eq_some_iff.1 ((g.place (pl p) p).2 ⟨ho, rfl⟩)).1)
  d := h.d
theorem DomOk.few (h : ord.length ≤ 1) (g : ord = [] ∨ ord[0]? = some 0) : DomOk ord pl pr dom (fun _ => none) where
  i1 v l e := by cases e
  kn v hv := by
    left
    rcases g with rfl | g
    · cases hv
    · obtain ⟨i, hi, e⟩ := List.getElem_of_mem hv
      have : i = 0 := by omega
      subst this
      rw [List.getElem?_eq_getElem hi, e] at g
      cases g; rfl
  fix v c e := by cases e
  d v x e := absurd rfl e
/-! ### The last block that two ways have in common -/
theorem common_step (hd : Down pl L) {a b l : Nat} (hlt : pl b < pl a) (e : L a = some l) (x : Nat) : (Anc L a x ∧ Anc L b x) ↔ (Anc L l x ∧ Anc L b x) := by
  constructor
  · rintro ⟨h1, h2⟩
    rcases h1.cases' with rfl | ⟨l', e', h1⟩
    · have := h2.le hd; omega
    · rw [e] at e'; cases e'; exact ⟨h1, h2⟩
  · rintro ⟨h1, h2⟩; exact ⟨.step e h1, h2⟩
theorem LdInv.lord (h : LdInv ord pl pr dom q L) (g : Ahead ord pl pr dom) {a : Nat} (hk : Kn L a) (hp : 0 < pl a) : ∃ l, L a = some l ∧ Kn L l ∧ pl l < pl a := by
  rcases hk with rfl | hk
  · have := g.root.2; omega
  · cases e : L a with
    | none => exact absurd e hk
    | some l => have := h.i1 a l e; exact ⟨l, rfl, this.2.2.2, this.2.2.1⟩
theorem common_ex (g : Ahead ord pl pr dom) (h : LdInv ord pl pr dom q L) : ∀ (k a b : Nat), pl a + pl b ≤ k → Kn L a → Kn L b → ∃ c, Kn L c ∧ ∀ x, Anc L c x ↔ Anc L a x ∧ Anc L b x := by
  intro k
  induction k with
  | zero =>
    intro a b hk ha hb
    have e1 := g.zero (h.kin g ha) (by omega)
    have e2 := g.zero (h.kin g hb) (by omega)
    subst e1; subst e2
    exact ⟨0, ha, fun x => by simp⟩
  | succ k ih =>
    intro a b hk ha hb
    by_cases e : a = b
    · subst e; exact ⟨a, ha, fun x => by simp⟩
    · by_cases hlt : pl b < pl a
      · obtain ⟨l, e1, hl, hp⟩ := h.lord g ha (by omega)
        obtain ⟨c, hc, hx⟩ := ih l b (by omega) hl hb
        exact ⟨c, hc, fun x => by rw [hx, common_step h.down hlt e1]⟩
      · have hne : pl a ≠ pl b := fun e' => e (g.inj (h.kin g ha) (h.kin g hb) e')
        obtain ⟨l, e1, hl, hp⟩ := h.lord g hb (by omega)
        obtain ⟨c, hc, hx⟩ := ih a l (by omega) ha hl
        refine ⟨c, hc, fun x => ?_⟩
        have := common_step h.down (a := b) (b := a) (by omega) e1 x
        rw [hx]
        constructor
        · rintro ⟨h1, h2⟩; exact ⟨h1, (this.2 ⟨h2, h1⟩).1⟩
        · rintro ⟨h1, h2⟩; exact ⟨h1, (this.1 ⟨h2, h1⟩).1⟩
theorem same_anc (hd : Down pl L) {c c' : Nat} (h : ∀ x, Anc L c x ↔ Anc L c' x) : c = c' := by
  have h1 := (h c).1 (.refl c)
  have h2 := (h c').2 (.refl c')
  rcases h1.place hd with e | e
  · exact e
  · have := h2.le hd; omega
theorem IsMeet.nil : IsMeet L [] none := .inl ⟨rfl, fun p h => by cases h⟩
theorem IsMeet.skip {l : List Nat} {o : Option Nat} {p : Nat} (h : IsMeet L l o) (hp : ¬ Kn L p) : IsMeet L (l ++ [p]) o := by
  rcases h with ⟨e, h⟩ | ⟨c, e, hc, ⟨r0, hr0, hk0⟩, h⟩
  · refine .inl ⟨e, fun r hr => ?_⟩
    rcases List.mem_append.1 hr with hr | hr
    · exact h r hr
    · simp only [List.mem_cons, List.not_mem_nil, or_false] at hr; subst hr; exact hp
  · refine .inr ⟨c, e, hc, ⟨r0, List.mem_append_left _ hr0, hk0⟩, fun x => ?_⟩
    rw [h x]
    constructor
    · intro hh r hr hk
      rcases List.mem_append.1 hr with hr | hr
      · exact hh r hr hk
      · simp only [List.mem_cons, List.not_mem_nil, or_false] at hr; subst hr; exact absurd hk hp
    · intro hh r hr hk; exact hh r (List.mem_append_left _ hr) hk
theorem IsMeet.first {l : List Nat} {p : Nat} (h : IsMeet L l none) (hp : Kn L p) : IsMeet L (l ++ [p]) (some p) := by
  rcases h with ⟨_, h⟩ | ⟨c, e, _⟩
  · refine .inr ⟨p, rfl, hp, ⟨p, by simp, hp⟩, fun x => ⟨fun hx r hr hk => ?_, fun hh => hh p (by simp) hp⟩⟩
    rcases List.mem_append.1 hr with hr | hr
    · exact absurd hk (h r hr)
    · simp only [List.mem_cons, List.not_mem_nil, or_false] at hr; subst hr; exact hx
  · cases e
theorem IsMeet.more {l : List Nat} {p c c' : Nat} (h : IsMeet L l (some c)) (hp : Kn L p) (hc : Kn L c') (hx : ∀ x, Anc L c' x ↔ Anc L c x ∧ Anc L p x) : IsMeet L (l ++ [p]) (some c') := by
  rcases h with ⟨e, h⟩ | ⟨d, e, _, _, h⟩
  · cases e
  · cases e
    refine .inr ⟨c', rfl, hc, ⟨p, by simp, hp⟩, fun x => ?_⟩
    rw [hx, h x]
    constructor
    · rintro ⟨h1, h2⟩ r hr hk
      rcases List.mem_append.1 hr with hr | hr
      · exact h1 r hr hk
      · simp only [List.mem_cons, List.not_mem_nil, or_false] at hr; subst hr; exact h2
    · intro hh; exact ⟨fun r hr hk => hh r (List.mem_append_left _ hr) hk, hh p (by simp) hp⟩
theorem IsMeet.kn {l : List Nat} {c : Nat} (h : IsMeet L l (some c)) : Kn L c := by
  rcases h with ⟨e, _⟩ | ⟨d, e, h, _⟩
  · cases e
  · cases e; exact h
theorem IsMeet.unique (hd : Down pl L) {l : List Nat} {o o' : Option Nat} (h : IsMeet L l o) (h' : IsMeet L l o') : o = o' := by
  rcases h with ⟨rfl, h⟩ | ⟨c, rfl, hc, ⟨p, hp, hk⟩, h⟩ <;> rcases h' with ⟨rfl, h'⟩ | ⟨c', rfl, hc', ⟨p', hp', hk'⟩, h'⟩
  · rfl
  · exact absurd hk' (h p' hp')
  · exact absurd hk (h' p hp)
  · rw [same_anc (c := c) (c' := c') hd fun x => by rw [h x, h' x]]
theorem meet_ex (g : Ahead ord pl pr dom) (h : LdInv ord pl pr dom q L) (l : List Nat) : ∀ j, j ≤ l.length → ∃ o, IsMeet L (l.take j) o := by
  intro j
  induction j with
  | zero => intro _; exact ⟨none, by rw [List.take_zero]; exact .nil⟩
  | succ j ih =>
    intro hj
    obtain ⟨o, ho⟩ := ih (by omega)
    have e : l.take (j + 1) = l.take j ++ [l[j]] := by rw [List.take_add_one, List.getElem?_eq_getElem (by omega)]; rfl
    rw [e]
    by_cases hk : Kn L l[j]
    · cases o with
      | none => exact ⟨_, ho.first hk⟩
      | some c =>
        obtain ⟨c', h1, h2⟩ := common_ex g h _ c l[j] (Nat.le_refl _) ho.kn hk
        exact ⟨_, ho.more hk h1 h2⟩
    · exact ⟨o, ho.skip hk⟩
/-! ### How far the lords stand -/
def far (N : Nat) (pl : Nat → Nat) (L : Nat → Option Nat) (l : List Nat) : Nat := (l.map fun v => match L v with | none => N | some c => pl c).sum
theorem far_le {N : Nat} {L' : Nat → Option Nat} : ∀ (l : List Nat), (∀ v ∈ l, (match L' v with | none => N | some c => pl c) ≤ (match L v with | none => N | some c => pl c)) → far N pl L' l ≤ far N pl L l
  | [], _ => Nat.le_refl _
  | v :: l, h => by
    have h1 := h v (by simp)
    have h2 : far N pl L' l ≤ far N pl L l := far_le l fun u hu => h u (by simp [hu])
    unfold far at h2 ⊢
    simp only [List.map_cons, List.sum_cons]
    omega
theorem far_lt {N : Nat} {L' : Nat → Option Nat} {b : Nat} : ∀ (l : List Nat), b ∈ l → (∀ v ∈ l, (match L' v with | none => N | some c => pl c) ≤ (match L v with | none => N | some c => pl c)) →
    (match L' b with | none => N | some c => pl c) < (match L b with | none => N | some c => pl c) → far N pl L' l < far N pl L l
  | [], hb, _, _ => by cases hb
  | v :: l, hb, h, hlt => by
    have h1 := h v (by simp)
    have h2 : far N pl L' l ≤ far N pl L l := far_le l fun u hu => h u (by simp [hu])
    by_cases e : v = b
    · subst e
      unfold far at h2 ⊢
      simp only [List.map_cons, List.sum_cons]
      omega
    · have hb' : b ∈ l := by
        rcases List.mem_cons.1 hb with e' | hb
        · exact absurd e'.symm e
        · exact hb
      have h3 := far_lt l hb' (fun u hu => h u (by simp [hu])) hlt
      unfold far at h3 ⊢
      simp only [List.map_cons, List.sum_cons]
      omega
theorem far_upd {b c : Nat} (hb : b ∈ ord) (hc : pl c < ord.length) (h : L b = none ∨ ∃ c', L b = some c' ∧ (c = c' ∨ pl c < pl c')) (hne : L b ≠ some c) : far ord.length pl (upd L b (some c)) ord < far ord.length pl L ord := by
  refine far_lt ord hb (fun v hv => ?_) ?_
  · by_cases e : v = b
    · subst e
      rw [upd_same]
      rcases h with h | ⟨c', h, h2⟩
      · rw [h]; exact Nat.le_of_lt hc
      · rw [h]
        rcases h2 with rfl | h2
        · exact Nat.le_refl _
        · exact Nat.le_of_lt h2
    · rw [upd_ne e]; exact Nat.le_refl _
  · rw [upd_same]
    rcases h with h | ⟨c', h, h2⟩
    · rw [h]; exact hc
    · rw [h]
      rcases h2 with rfl | h2
      · exact absurd h hne
      · exact h2
/-! ### What comes of it -/
inductive Past (nx : Nat → List Nat) (o : Nat) : Nat → Prop
  | start (h : 0 ≠ o) : Past nx o 0
  | step {u k : Nat} (h : Past nx o u) (hk : k ∈ nx u) (ho : k ≠ o) : Past nx o k
theorem Past.ne {nx : Nat → List Nat} {o v : Nat} (h : Past nx o v) : v ≠ o := by
  cases h with
  | start h => exact h
  | step _ _ h => exact h
def Must (nx : Nat → List Nat) (v x : Nat) : Prop := ¬ Past nx x v
theorem ahead_of {nx : Nat → List Nat} {n : Nat} (ho : OrdOk nx n ord) (hpr : ∀ u k, u ∈ ord → (k ∈ nx u ↔ u ∈ pr k)) (hpl : ∀ q v, ord[q]? = some v ↔ v ∈ ord ∧ pl v = q) : Ahead ord pl pr (Must nx) where
  place := hpl
  head := ho.head
  fwd v hv hp := by
    obtain ⟨p, u, h1, h2, h3⟩ := ho.fwd (pl v) v ((hpl _ _).2 ⟨hv, rfl⟩) hp
    obtain ⟨h4, h5⟩ := (hpl p u).1 h2
    exact ⟨u, (hpr u v h4).1 h3, h4, by omega⟩
  dom0 x h := Classical.byContradiction fun e => h (.start fun e' => e e'.symm)
  dom v x p h hne hp hpo hq := h (.step hq ((hpr p v hpo).2 hp) fun e => hne e.symm)
theorem DomOk.down (h : DomOk ord pl pr dom L) : Down pl L := fun v l e => (h.i1 v l e).2.2
theorem DomOk.root (h : DomOk ord pl pr dom L) : ∀ (k v : Nat), pl v ≤ k → v ∈ ord → Anc L v 0 := by
  intro k
  induction k with
  | zero =>
    intro v hk hv
    rcases h.kn v hv with rfl | hl
    · exact .refl _
    · cases e : L v with
      | none => exact absurd e hl
      | some l => have := h.i1 v l e; omega
  | succ k ih =>
    intro v hk hv
    rcases h.kn v hv with rfl | hl
    · exact .refl _
    · cases e : L v with
      | none => exact absurd e hl
      | some l => have := h.i1 v l e; exact .step e (ih l (by omega) this.2.1)
theorem DomOk.past {nx : Nat → List Nat} {n : Nat} (ho : OrdOk nx n ord) (hpr : ∀ u k, u ∈ ord → (k ∈ nx u ↔ u ∈ pr k)) (h0 : L 0 = none) (h : DomOk ord pl pr (Must nx) L) {o b : Nat} (hb : b ∈ ord) : Anc L b o ↔ ¬ Past nx o b := by
  have h0o : 0 ∈ ord := List.mem_of_getElem? ho.head
  have fwd : ∀ b, Past nx o b → b ∈ ord ∧ ¬ Anc L b o := by
    intro b hp
    induction hp with
    | start hne =>
      refine ⟨h0o, fun ha => ?_⟩
      rcases ha.cases' with rfl | ⟨l, e, _⟩
      · exact hne rfl
      · rw [h0] at e; cases e
    | step hp hk hne ih =>
      rename_i u k
      have hko := ho.cl u ih.1 k hk
      refine ⟨hko, fun ha => ?_⟩
      rcases ha.cases' with rfl | ⟨l, e, ha⟩
      · exact hne rfl
      · exact ih.2 ((h.fix k l e u ((hpr u k ih.1).1 hk) ih.1).trans ha)
  constructor
  · intro ha hp; exact (fwd b hp).2 ha
  · intro hp
    cases e : L b with
    | none =>
      rcases h.kn b hb with rfl | hl
      · by_cases e0 : 0 = o
        · subst e0; exact .refl _
        · exact absurd (Past.start e0) hp
      · exact absurd e hl
    | some l => exact h.d b o (by rw [e]; simp) hp
end
end Go.AL
