/- Is a function more than is looked at? Is a block reached, not through another one? -/
import Derived.Test.YtjiccnebfbpcgaaGreatDoorR11
set_option linter.unusedSimpArgs false
set_option linter.unusedVariables false
set_option linter.unusedSectionVars false
namespace Go.AL
open Go.Proofs
theorem Row.none {h : AHeap} {esz : Nat} {q : Nat → Nat → AVal} : Row h (.lit (.slice none 0 0)) esz [] q where
  form := rfl
  len K u := ZLen_ns
  idx j hj := by simp at hj
  fld j hj := by simp at hj
  rd j e he := by simp at he
structure FuncOk (f : GFunc) : Prop where
  fit : FuncFit f
  uses : (usesF f).length < 4294967296
  key : (progB [] [] [f]).length ≤ 4611686018427387904
theorem greatF_ok {f : GFunc} (ok : FuncOk f) (h : AHeap) : ACall Tryz.prog 15 [.agg f.cells] h fun r h' => (∃ b, r = .lit (.bool b) ∧ (b = false → f.blocks.length ≤ 20)) ∧ h' = h := by
  have hfl : f.cells.length = 6 := rfl
  have hfc1 : f.cells.all AVal.cell1 = true := rfl
  have hftk : f.cells.take 6 = f.cells := rfl
  have hf5 : f.cells.drop 5 = [.fslice (f.blocks.map GBlock.cells)] := rfl
  refine acall_z mixed xf15 rfl ?_
  unfold xc15 xr15 xn15
  simp -dsimp -implicitDefEqProofs only [go_sem, reduceIte, Nat.reduceEqDiff, Nat.reduceAdd, Nat.reduceSub, Nat.reduceLeDiff, Nat.reduceLT, Nat.reduceMul, Int.reduceToNat, Int.reduceLT, Int.reduceLE, Int.reduceEq, Int.reduceNeg, go_sem, hfc1, hfl, hf5, hftk, List.length_map]
  by_cases h20 : 20 < (f.blocks.length : Int)
  · simp -dsimp -implicitDefEqProofs only [go_sem, reduceIte, Nat.reduceEqDiff, Nat.reduceAdd, Nat.reduceSub, Nat.reduceLeDiff, Nat.reduceLT, Nat.reduceMul, Int.reduceToNat, Int.reduceLT, Int.reduceLE, Int.reduceEq, Int.reduceNeg, h20, decide_true]
    exact fend_cut (.lit _) ⟨⟨_, rfl, fun e => by cases e⟩, rfl⟩
  · simp -dsimp -implicitDefEqProofs only [go_sem, reduceIte, Nat.reduceEqDiff, Nat.reduceAdd, Nat.reduceSub, Nat.reduceLeDiff, Nat.reduceLT, Nat.reduceMul, Int.reduceToNat, Int.reduceLT, Int.reduceLE, Int.reduceEq, Int.reduceNeg, h20, decide_false, hfc1, hfl, hf5, hftk]
    have hA : ∀ h2, Over (h ++ [some (.rows [f.cells]), some (.rows [f.cells])]) h2 → hget h2 (h.length + 1) = some (.rows [f.cells]) := fun h2 o => by rw [o.old (by simp)]; simp -dsimp -implicitDefEqProofs only [go_sem, reduceIte, Nat.reduceEqDiff, Nat.reduceAdd, Nat.reduceSub, Nat.reduceLeDiff, Nat.reduceLT, Nat.reduceMul, Int.reduceToNat, Int.reduceLT, Int.reduceLE, Int.reduceEq, Int.reduceNeg, go_sem]
    refine zcall_any xf41 (great_ok (ss := []) (es := []) (fs := [f]) (qs := fun _ _ => .junk) (qe := fun _ _ => .junk) (qf := fun j o => .ptr (h.length + 1) j o) rfl rfl rfl (fun _ _ => Row.none) (fun _ _ => Row.none) (fun h2 o => Row.live (es := [f.cells]) (hA h2 o)) (by simp) (by simp) (by simp) (fun s hs => by cases hs) (fun s hs => by cases hs)
      (fun g hg => by simp at hg; subst hg; exact ok.fit) (fun g hg => by simp at hg; subst hg; exact ok.uses) ok.key) ?_
    rintro v h' ⟨⟨b, rfl⟩, rfl⟩
    refine ⟨Nat.le_refl _, ?_⟩
    simp -dsimp -implicitDefEqProofs only [go_sem, reduceIte, Nat.reduceEqDiff, Nat.reduceAdd, Nat.reduceSub, Nat.reduceLeDiff, Nat.reduceLT, Nat.reduceMul, Int.reduceToNat, Int.reduceLT, Int.reduceLE, Int.reduceEq, Int.reduceNeg, go_sem]
    exact fend_cut (.lit _) ⟨⟨_, rfl, fun _ => by omega⟩, rfl⟩
end Go.AL
namespace Go.AL
open Go.Proofs
theorem alive14_ok (h : AHeap) : ACall Tryz.prog 14 [] h fun r h' => r = .lit (.bool true) ∧ h' = h := (reck_flat (xR_ok 60) (fun v hv => by cases hv) alive14).2 h
def fbs (f : GFunc) : List FB := f.blocks.map fun b => (b.name, b.term.blocks, b.term.arms)
theorem nd_le {n : Nat} {l : List Nat} (nd : l.Nodup) (hl : ∀ i ∈ l, i < n) : l.length ≤ n := by
  have := nd.length_le_of_subset (l₂ := List.range n) fun i hi => List.mem_range.2 (hl i hi)
  rwa [List.length_range] at this
theorem GrOk.fit {bs : List FB} {g : Gr} (G : GrOk bs g) (hn : bs.length < 4294967296) : GrFit g bs.length := by
  have S := stN_sides (bs := bs) bs.length
  obtain ⟨l1, l2, tr, lt1, nd1, nd2⟩ := S
  rw [← G.next] at l1 tr lt1 nd1
  rw [← G.prev] at l2 tr nd2
  have r1 : ∀ l ∈ g.next, l.length < 4294967296 := by
    intro l hl
    obtain ⟨i, hi, rfl⟩ := List.getElem_of_mem hl
    have e : g.next.getD i [] = g.next[i] := by rw [List.getD_eq_getElem?_getD, List.getElem?_eq_getElem hi]; rfl
    have := nd_le (n := bs.length) (e ▸ nd1 i) fun k hk => (lt1 i k (by rw [e]; exact hk)).2
    omega
  have r2 : ∀ l ∈ g.prev, l.length < 4294967296 := by
    intro l hl
    obtain ⟨i, hi, rfl⟩ := List.getElem_of_mem hl
    have e : g.prev.getD i [] = g.prev[i] := by rw [List.getD_eq_getElem?_getD, List.getElem?_eq_getElem hi]; rfl
    have := nd_le (n := bs.length) (e ▸ nd2 i) fun k hk => (lt1 k i ((tr k i).2 (by rw [e]; exact hk))).1
    omega
  have ho : g.order.length ≤ bs.length := by
    rcases G.ord with ⟨_, e⟩ | o
    · rw [e]; exact Nat.zero_le _
    · exact nd_le o.nd o.lt
  exact {
    small := ⟨by omega, by omega, by have := G.rlen; omega, by omega, r1, r2⟩
    nlen := l1
    plen := l2
    n32 := hn
    ord := G.ord.imp (fun ⟨a, b⟩ => ⟨b, by rw [a]; rfl⟩) id
    tr := tr
    plt := fun i k hk => (lt1 k i ((tr k i).2 hk)).1 }
theorem GrOk.nlt {bs : List FB} {g : Gr} (G : GrOk bs g) : (∀ j, (g.next.getD j []).length ≤ bs.length) ∧ ∀ j x, x ∈ g.next.getD j [] → x < bs.length := by
  have S := stN_sides (bs := bs) bs.length
  obtain ⟨l1, l2, tr, lt1, nd1, nd2⟩ := S
  rw [← G.next] at l1 tr lt1 nd1
  rw [← G.prev] at l2 tr nd2
  exact ⟨fun j => nd_le (nd1 j) fun k hk => (lt1 j k hk).2, fun j x hx => (lt1 j x hx).2⟩
theorem blk_ok {f : GFunc} (fit : FuncFit f) : ∀ (i : Nat) e q, (f.blocks.map GBlock.cells)[i]? = some e → (fbs f)[i]? = some q → BlkC e q.1 q.2.1 q.2.2 := by
  intro i e q he hq
  simp only [fbs, List.getElem?_map] at he hq
  cases hb : f.blocks[i]? with
  | none => rw [hb] at he; cases he
  | some b =>
    rw [hb] at he hq
    cases he; cases hq
    have hbf := fit.bs b (List.mem_of_getElem? hb)
    exact ⟨rfl, rfl, rfl, ⟨_, rfl, fun h => Elts.fslice strs_one⟩, ⟨_, rfl, fun h => Elts.fslice armsV_three⟩, hbf.t.bl, hbf.t.ml⟩
end Go.AL
