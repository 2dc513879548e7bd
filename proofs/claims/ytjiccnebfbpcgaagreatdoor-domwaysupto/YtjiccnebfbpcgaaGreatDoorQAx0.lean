/- Memories as trees, for the reckoner. -/
import Derived.Test.YtjiccnebfbpcgaaGreatDoorQAx8
set_option linter.unusedSimpArgs false
set_option linter.unusedVariables false
set_option linter.unusedSectionVars false
namespace Go.AL
inductive HTab where
  | nil
  | node (l : HTab) (v : Option AObj) (r : HTab)
noncomputable def HTab.get (t : HTab) : Nat → Option AObj :=
  HTab.rec (fun _ => none) (fun _ v _ gl gr i => Bool.rec (Bool.rec (gl (Nat.div i 2)) (gr (Nat.sub (Nat.div i 2) 1)) (Nat.beq (Nat.mod i 2) 0)) v (Nat.beq i 0)) t
noncomputable def HTab.lft : HTab → HTab | .nil => .nil | .node l _ _ => l
noncomputable def HTab.rgt : HTab → HTab | .nil => .nil | .node _ _ r => r
noncomputable def HTab.top : HTab → Option AObj | .nil => none | .node _ v _ => v
noncomputable def HTab.setF (k : Nat) : HTab → Nat → Option AObj → HTab :=
  Nat.rec (fun t _ _ => t) (fun _ f t i v =>
    HTab.rec (Bool.rec (Bool.rec (.node (f .nil (Nat.div i 2) v) none .nil) (.node .nil none (f .nil (Nat.sub (Nat.div i 2) 1) v)) (Nat.beq (Nat.mod i 2) 0)) (.node .nil v .nil) (Nat.beq i 0))
      (fun l u r _ _ => Bool.rec (Bool.rec (.node (f l (Nat.div i 2) v) u r) (.node l u (f r (Nat.sub (Nat.div i 2) 1) v)) (Nat.beq (Nat.mod i 2) 0)) (.node l v r) (Nat.beq i 0)) t) k
theorem HTab.setF_succ (k : Nat) (t : HTab) (i : Nat) (v : Option AObj) : HTab.setF (k + 1) t i v = match Nat.beq i 0 with
    | true => .node t.lft v t.rgt
    | false => match Nat.beq (i % 2) 0 with
      | true => .node t.lft t.top (HTab.setF k t.rgt (i / 2 - 1) v)
      | false => .node (HTab.setF k t.lft (i / 2) v) t.top t.rgt := by
  cases t <;> (show _ = _; unfold HTab.setF; simp only []; cases Nat.beq i 0 <;> simp only [] <;> first | rfl | (cases h : Nat.beq (i % 2) 0 <;> (have h' : Nat.beq (Nat.mod i 2) 0 = _ := h; simp only [h']; rfl)))
noncomputable def HTab.set (t : HTab) (i : Nat) (v : Option AObj) : HTab := HTab.setF (i + 1) t i v
theorem HTab.get_zero (t : HTab) : t.get 0 = t.top := by cases t <;> rfl
theorem HTab.get_even (t : HTab) (j : Nat) : t.get (2 * j + 2) = t.rgt.get j := by
  cases t with
  | nil => rfl
  | node l v r =>
    have h1 : Nat.beq (2 * j + 2) 0 = false := rfl
    have h2 : (2 * j + 2) % 2 = 0 := by omega
    have h3 : (2 * j + 2) / 2 - 1 = j := by omega
    show Bool.rec (motive := fun _ => Option AObj) (Bool.rec (motive := fun _ => Option AObj) (l.get ((2 * j + 2) / 2)) (r.get ((2 * j + 2) / 2 - 1)) (Nat.beq ((2 * j + 2) % 2) 0)) v (Nat.beq (2 * j + 2) 0) = r.get j
    rw [h1, h2, h3]; rfl
theorem HTab.get_odd (t : HTab) (j : Nat) : t.get (2 * j + 1) = t.lft.get j := by
  cases t with
  | nil => rfl
  | node l v r =>
    have h1 : Nat.beq (2 * j + 1) 0 = false := rfl
    have h2 : (2 * j + 1) % 2 = 1 := by omega
    have h3 : (2 * j + 1) / 2 = j := by omega
    show Bool.rec (motive := fun _ => Option AObj) (Bool.rec (motive := fun _ => Option AObj) (l.get ((2 * j + 1) / 2)) (r.get ((2 * j + 1) / 2 - 1)) (Nat.beq ((2 * j + 1) % 2) 0)) v (Nat.beq (2 * j + 1) 0) = l.get j
    rw [h1, h2, h3]; rfl
theorem HTab.get_setF : ∀ (k : Nat) (t : HTab) (i j : Nat) (v : Option AObj), i < k → (HTab.setF k t i v).get j = if i = j then v else t.get j := by
  intro k
  induction k with
  | zero => intro t i j v h; omega
  | succ k ih =>
    intro t i j v h
    have three : ∀ m : Nat, m = 0 ∨ (∃ q, m = 2 * q + 1) ∨ ∃ q, m = 2 * q + 2 := by
      intro m
      rcases Nat.eq_zero_or_pos m with h | h
      · exact .inl h
      · rcases Nat.mod_two_eq_zero_or_one m with e | e
        · exact .inr (.inr ⟨m / 2 - 1, by omega⟩)
        · exact .inr (.inl ⟨m / 2, by omega⟩)
    rcases three i with rfl | ⟨q, rfl⟩ | ⟨q, rfl⟩
    · simp only [HTab.setF_succ, show Nat.beq 0 0 = true from rfl]
      rcases three j with rfl | ⟨p, rfl⟩ | ⟨p, rfl⟩
      · rfl
      · rw [if_neg (by omega), HTab.get_odd, HTab.get_odd]; rfl
      · rw [if_neg (by omega), HTab.get_even, HTab.get_even]; rfl
    · have h1 : Nat.beq (2 * q + 1) 0 = false := rfl
      have h2 : (2 * q + 1) % 2 = 1 := by omega
      have h3 : (2 * q + 1) / 2 = q := by omega
      simp only [HTab.setF_succ, h1, h2, h3, show Nat.beq 1 0 = false from rfl]
      rcases three j with rfl | ⟨p, rfl⟩ | ⟨p, rfl⟩
      · rw [if_neg (by omega), HTab.get_zero, HTab.get_zero]; rfl
      · rw [HTab.get_odd, HTab.get_odd]
        show (HTab.setF k t.lft q v).get p = _
        rw [ih _ _ _ _ (by omega)]
        by_cases e : q = p
        · rw [if_pos e, if_pos (by omega)]
        · rw [if_neg e, if_neg (by omega)]
      · rw [if_neg (by omega), HTab.get_even, HTab.get_even]; rfl
    · have h1 : Nat.beq (2 * q + 2) 0 = false := rfl
      have h2 : (2 * q + 2) % 2 = 0 := by omega
      have h3 : (2 * q + 2) / 2 - 1 = q := by omega
      simp only [HTab.setF_succ, h1, h2, h3, show Nat.beq 0 0 = true from rfl]
      rcases three j with rfl | ⟨p, rfl⟩ | ⟨p, rfl⟩
      · rw [if_neg (by omega), HTab.get_zero, HTab.get_zero]; rfl
      · rw [if_neg (by omega), HTab.get_odd, HTab.get_odd]; rfl
      · rw [HTab.get_even, HTab.get_even]
        show (HTab.setF k t.rgt q v).get p = _
        rw [ih _ _ _ _ (by omega)]
        by_cases e : q = p
        · rw [if_pos e, if_pos (by omega)]
        · rw [if_neg e, if_neg (by omega)]
theorem HTab.get_set {t : HTab} {i j : Nat} {v : Option AObj} : (t.set i v).get j = if i = j then v else t.get j := HTab.get_setF _ _ _ _ _ (by omega)
structure RH where
  n : Nat
  t : HTab
noncomputable def RH.abs (h : RH) : AHeap := (List.range h.n).map h.t.get
noncomputable def RH.get (h : RH) (a : Nat) : Option AObj := match Nat.ble h.n a with | true => none | false => h.t.get a
noncomputable def RH.put (h : RH) (a : Nat) (o : Option AObj) : RH := match Nat.ble h.n a with | true => h | false => ⟨h.n, h.t.set a o⟩
noncomputable def RH.push (h : RH) (o : Option AObj) : RH := ⟨h.n + 1, h.t.set h.n o⟩
noncomputable def RH.take (h : RH) (m : Nat) : RH := match Nat.ble m h.n with | true => ⟨m, h.t⟩ | false => h
noncomputable def RH.pushL (h : RH) : List (Option AObj) → RH
  | [] => h
  | o :: os => (h.push o).pushL os
noncomputable def RH.empty : RH := ⟨0, .nil⟩
theorem ble_false {a b : Nat} (h : Nat.ble a b = false) : b < a := by
  by_cases e : a ≤ b
  · rw [Nat.ble_eq_true_of_le e] at h; cases h
  · omega
theorem RH.n_eq (h : RH) : h.n = h.abs.length := by simp [RH.abs]
theorem RH.get_eq (h : RH) (a : Nat) : h.get a = hget h.abs a := by
  unfold RH.get hget RH.abs
  split
  · rename_i e
    have := Nat.le_of_ble_eq_true e
    rw [List.getElem?_eq_none (by simp; omega)]; rfl
  · rename_i e
    have := ble_false e
    rw [List.getElem?_map, List.getElem?_range this]; rfl
theorem RH.abs_push (h : RH) (o : Option AObj) : (h.push o).abs = h.abs ++ [o] := by
  unfold RH.abs RH.push
  rw [List.range_succ, List.map_append, List.map_singleton, HTab.get_set, if_pos rfl]
  congr 1
  refine List.map_congr_left fun i hi => ?_
  have := List.mem_range.1 hi
  rw [HTab.get_set, if_neg (by omega)]
theorem RH.abs_put (h : RH) (a : Nat) (o : Option AObj) : (h.put a o).abs = h.abs.set a o := by
  unfold RH.put
  split
  · rename_i e
    have := Nat.le_of_ble_eq_true e
    rw [List.set_eq_of_length_le (by simp [RH.abs]; omega)]
  · rename_i e
    have := ble_false e
    unfold RH.abs
    refine List.ext_getElem? fun i => ?_
    by_cases hi : i < h.n
    · rw [List.getElem?_map, List.getElem?_range hi]
      by_cases e2 : a = i
      · subst e2
        rw [List.getElem?_set_self (by simpa using hi)]
        simp only [Option.map_some, HTab.get_set, if_true]
      · rw [List.getElem?_set_ne e2, List.getElem?_map, List.getElem?_range hi]
        simp only [Option.map_some, HTab.get_set, if_neg e2]
    · rw [List.getElem?_eq_none (by simp; omega), List.getElem?_eq_none (by simp; omega)]
theorem RH.abs_put' (h : RH) (a : Nat) (o : AObj) : (h.put a (some o)).abs = hset h.abs a o := h.abs_put a (some o)
theorem RH.abs_take (h : RH) (m : Nat) : (h.take m).abs = h.abs.take m := by
  unfold RH.take
  split
  · rename_i e
    have := Nat.le_of_ble_eq_true e
    unfold RH.abs
    rw [← List.map_take, List.take_range, Nat.min_eq_left this]
  · rename_i e
    have := ble_false e
    rw [List.take_of_length_le (by simp [RH.abs]; omega)]
theorem RH.abs_pushL : ∀ (l : List (Option AObj)) (h : RH), (h.pushL l).abs = h.abs ++ l
  | [], h => by simp [RH.pushL]
  | o :: os, h => by rw [RH.pushL, RH.abs_pushL os, RH.abs_push]; simp
theorem RH.abs_empty : RH.empty.abs = [] := rfl
end Go.AL
