/- The function that is handed over: its types; the memory that lies when the call begins. -/
import Derived.Test.YtjiccnebfbpcgaaGreatDoorPk
import Derived.Test.YtjiccnebfbpcgaaGreatDoorRows
import Derived.Lib.LaidTab
import Derived.ChangeStays
import Derived.ReadAgain
import Derived.LaidSub
set_option linter.unusedSimpArgs false
set_option linter.unusedVariables false
set_option linter.unusedSectionVars false
namespace Go.AL
open Go.Proofs Go.ChangeShapes Go.WideShapes Go.Proofs.YtjiccnebfbpcgaaGreatDoor
theorem u2 : Tryz.prog.underlying 2 = some (.int .i64) := by kernel_rfl
theorem u3 : Tryz.prog.underlying 3 = some (.int .i64) := by kernel_rfl
theorem u4 : Tryz.prog.underlying 4 = some .bool := by kernel_rfl
theorem u5 : Tryz.prog.underlying 5 = some (.int .u8) := by kernel_rfl
theorem u9 : Tryz.prog.underlying 9 = some .string := by kernel_rfl
theorem u22 : Tryz.prog.underlying 22 = some (.slice 160) := by kernel_rfl
theorem u23 : Tryz.prog.underlying 23 = some (.slice 92) := by kernel_rfl
theorem u81 : Tryz.prog.underlying 81 = some (.slice 9) := by kernel_rfl
theorem u84 : Tryz.prog.underlying 84 = some (.slice 83) := by kernel_rfl
theorem u87 : Tryz.prog.underlying 87 = some (.slice 173) := by kernel_rfl
theorem u90 : Tryz.prog.underlying 90 = some (.slice 86) := by kernel_rfl
theorem c2 : Tryz.prog.cellsOf 2 = 1 := by kernel_rfl
theorem c3 : Tryz.prog.cellsOf 3 = 1 := by kernel_rfl
theorem c9 : Tryz.prog.cellsOf 9 = 1 := by kernel_rfl
theorem c22 : Tryz.prog.cellsOf 22 = 1 := by kernel_rfl
theorem c23 : Tryz.prog.cellsOf 23 = 1 := by kernel_rfl
theorem c25 : Tryz.prog.cellsOf 25 = 6 := by kernel_rfl
theorem c81 : Tryz.prog.cellsOf 81 = 1 := by kernel_rfl
theorem c83 : Tryz.prog.cellsOf 83 = 2 := by kernel_rfl
theorem c84 : Tryz.prog.cellsOf 84 = 1 := by kernel_rfl
theorem c86 : Tryz.prog.cellsOf 86 = 8 := by kernel_rfl
theorem c87 : Tryz.prog.cellsOf 87 = 1 := by kernel_rfl
theorem c89 : Tryz.prog.cellsOf 89 = 8 := by kernel_rfl
theorem c90 : Tryz.prog.cellsOf 90 = 1 := by kernel_rfl
theorem c92 : Tryz.prog.cellsOf 92 = 11 := by kernel_rfl
theorem c160 : Tryz.prog.cellsOf 160 = 2 := by kernel_rfl
theorem c173 : Tryz.prog.cellsOf 173 = 3 := by kernel_rfl
theorem s25 : structT Tryz.prog 25 = some [(3, 0), (9, 1), (22, 2), (22, 3), (9, 4), (23, 5)] := by kernel_rfl
theorem s83 : structT Tryz.prog 83 = some [(9, 0), (81, 1)] := by kernel_rfl
theorem s86 : structT Tryz.prog 86 = some [(3, 0), (3, 1), (83, 2), (2, 4), (9, 5), (9, 6), (84, 7)] := by kernel_rfl
theorem s89 : structT Tryz.prog 89 = some [(3, 0), (3, 1), (83, 2), (9, 4), (84, 5), (81, 6), (87, 7)] := by kernel_rfl
theorem s92 : structT Tryz.prog 92 = some [(3, 0), (9, 1), (90, 2), (89, 3)] := by kernel_rfl
theorem s160 : structT Tryz.prog 160 = some [(9, 0), (9, 1)] := by kernel_rfl
theorem s173 : structT Tryz.prog 173 = some [(9, 0), (9, 1), (9, 2)] := by kernel_rfl
instance : Inhabited GStmt := ⟨⟨0, 0, ([], []), 0, [], [], []⟩⟩
instance : Inhabited GTerm := ⟨⟨0, 0, ([], []), [], [], [], []⟩⟩
instance : Inhabited GBlock := ⟨⟨0, [], [], default⟩⟩
section
variable {H : Type} {enc : TypeId × Value → H} {w : World} {held : Bool} {C : Ctx} {bulk : DataW H → Nat} {all : List (DataW H) → Nat}
  (hb : Bulk bulk all) (hC : ∀ b o v, w.cell? ⟨b, o, none⟩ = some v → v.oneCell' = true → C.fc b o = some v)
include hb hC
theorem rd_strs : Rd bulk enc Tryz.prog w held C 81 (fun l : List (List UInt8) => [.fslice (strs l)]) fun l => (l.map bStr).sum + 1 :=
  Rd.slice (f := fun l : List UInt8 => [.str l]) hb (Rd.str hb u9) u81 c9 (by omega) hC (fun _ => rfl)
theorem rd_place : Rd bulk enc Tryz.prog w held C 83 (fun p : Pl => [.str p.1, .fslice (strs p.2)]) bPl :=
  Rd.map hb (Rd.struct hb s83 c83 (RdF.cons (Rd.str hb u9) c9 (fun _ => rfl) (RdF.cons (rd_strs hb hC) c81 (fun _ => rfl) .nil)) (fun _ => rfl)) (fun q => (q.1, q.2.1)) (fun _ => rfl) fun q => by show bStr q.1 + _ ≤ _; unfold bStr; dsimp only; omega
theorem rd_places : Rd bulk enc Tryz.prog w held C 84 (fun l : List Pl => [.fslice (placesV l)]) fun l => (l.map bPl).sum + 1 :=
  Rd.slice hb (rd_place hb hC) u84 c83 (by omega) hC (fun _ => rfl)
theorem rd_var : Rd bulk enc Tryz.prog w held C 160 (fun p : List UInt8 × List UInt8 => [.str p.1, .str p.2]) bVar :=
  Rd.map hb (Rd.struct hb s160 c160 (RdF.cons (Rd.str hb u9) c9 (fun _ => rfl) (RdF.cons (Rd.str hb u9) c9 (fun _ => rfl) .nil)) (fun _ => rfl)) (fun q => (q.1, q.2.1)) (fun _ => rfl) fun q => by show bStr q.1 + _ ≤ _; unfold bStr; dsimp only; omega
theorem rd_vars : Rd bulk enc Tryz.prog w held C 22 (fun l : List (List UInt8 × List UInt8) => [.fslice (varsV l)]) fun l => (l.map bVar).sum + 1 :=
  Rd.slice hb (rd_var hb hC) u22 c160 (by omega) hC (fun _ => rfl)
theorem rd_arm : Rd bulk enc Tryz.prog w held C 173 (fun p : List UInt8 × List UInt8 × List UInt8 => [.str p.1, .str p.2.1, .str p.2.2]) bArm :=
  Rd.map hb (Rd.struct hb s173 c173 (RdF.cons (Rd.str hb u9) c9 (fun _ => rfl) (RdF.cons (Rd.str hb u9) c9 (fun _ => rfl) (RdF.cons (Rd.str hb u9) c9 (fun _ => rfl) .nil))) (fun _ => rfl)) (fun q => (q.1, q.2.1, q.2.2.1)) (fun _ => rfl) fun q => by show bStr q.1 + (bStr q.2.1 + _) ≤ _; unfold bStr; dsimp only; omega
theorem rd_arms : Rd bulk enc Tryz.prog w held C 87 (fun l : List (List UInt8 × List UInt8 × List UInt8) => [.fslice (armsV l)]) fun l => (l.map bArm).sum + 1 :=
  Rd.slice hb (rd_arm hb hC) u87 c173 (by omega) hC (fun _ => rfl)
theorem rd_stmt : Rd bulk enc Tryz.prog w held C 86 GStmt.cells bStmt :=
  Rd.map hb (Rd.struct hb s86 c86 (RdF.cons (Rd.int hb u3) c3 (fun _ => rfl) (RdF.cons (Rd.int hb u3) c3 (fun _ => rfl) (RdF.cons (rd_place hb hC) c83 (fun _ => rfl) (RdF.cons (Rd.int hb u2) c2 (fun _ => rfl) (RdF.cons (Rd.str hb u9) c9 (fun _ => rfl)
    (RdF.cons (Rd.str hb u9) c9 (fun _ => rfl) (RdF.cons (rd_places hb hC) c84 (fun _ => rfl) .nil))))))) (fun _ => rfl)) (fun q => ⟨q.1, q.2.1, q.2.2.1, q.2.2.2.1, q.2.2.2.2.1, q.2.2.2.2.2.1, q.2.2.2.2.2.2.1⟩) (fun _ => rfl) fun q => by
      show bPl q.2.2.1 + (bStr q.2.2.2.2.1 + (bStr q.2.2.2.2.2.1 + _)) ≤ _
      unfold bStr; dsimp only; omega
theorem rd_stmts : Rd bulk enc Tryz.prog w held C 90 (fun l : List GStmt => [.fslice (l.map GStmt.cells)]) fun l => (l.map bStmt).sum + 1 :=
  Rd.slice hb (rd_stmt hb hC) u90 c86 (by omega) hC (fun _ => rfl)
theorem rd_term : Rd bulk enc Tryz.prog w held C 89 GTerm.cells bTerm :=
  Rd.map hb (Rd.struct hb s89 c89 (RdF.cons (Rd.int hb u3) c3 (fun _ => rfl) (RdF.cons (Rd.int hb u3) c3 (fun _ => rfl) (RdF.cons (rd_place hb hC) c83 (fun _ => rfl) (RdF.cons (Rd.str hb u9) c9 (fun _ => rfl)
    (RdF.cons (rd_places hb hC) c84 (fun _ => rfl) (RdF.cons (rd_strs hb hC) c81 (fun _ => rfl) (RdF.cons (rd_arms hb hC) c87 (fun _ => rfl) .nil))))))) (fun _ => rfl)) (fun q => ⟨q.1, q.2.1, q.2.2.1, q.2.2.2.1, q.2.2.2.2.1, q.2.2.2.2.2.1, q.2.2.2.2.2.2.1⟩) (fun _ => rfl) fun q => by
      show bPl q.2.2.1 + (bStr q.2.2.2.1 + _) ≤ _
      unfold bStr; dsimp only; omega
theorem rd_block : Rd bulk enc Tryz.prog w held C 92 GBlock.cells bBlock :=
  Rd.map hb (Rd.struct hb s92 c92 (RdF.cons (Rd.int hb u3) c3 (fun _ => rfl) (RdF.cons (Rd.str hb u9) c9 (fun _ => rfl) (RdF.cons (rd_stmts hb hC) c90 (fun _ => rfl) (RdF.cons (rd_term hb hC) c89 (fun _ => rfl) .nil)))) (fun _ => rfl)) (fun q => ⟨q.1, q.2.1, q.2.2.1, q.2.2.2.1⟩) (fun _ => rfl) fun q => by
      show bStr q.2.1 + _ ≤ _
      unfold bStr; dsimp only; omega
theorem rd_blocks : Rd bulk enc Tryz.prog w held C 23 (fun l : List GBlock => [.fslice (l.map GBlock.cells)]) fun l => (l.map bBlock).sum + 1 :=
  Rd.slice hb (rd_block hb hC) u23 c92 (by omega) hC (fun _ => rfl)
theorem rd_func : Rd bulk enc Tryz.prog w held C 25 GFunc.cells bFunc :=
  Rd.map hb (Rd.struct hb s25 c25 (RdF.cons (Rd.int hb u3) c3 (fun _ => rfl) (RdF.cons (Rd.str hb u9) c9 (fun _ => rfl) (RdF.cons (rd_vars hb hC) c22 (fun _ => rfl) (RdF.cons (rd_vars hb hC) c22 (fun _ => rfl) (RdF.cons (Rd.str hb u9) c9 (fun _ => rfl)
    (RdF.cons (rd_blocks hb hC) c23 (fun _ => rfl) .nil)))))) (fun _ => rfl)) (fun q => ⟨q.1, q.2.1, q.2.2.1, q.2.2.2.1, q.2.2.2.2.1, q.2.2.2.2.2.1⟩) (fun _ => rfl) fun q => by
      show bStr q.2.1 + (_ + (_ + (bStr q.2.2.2.2.1 + _))) ≤ _
      unfold bStr; dsimp only; omega
end
def nums (l : List Value) : List Int := l.map fun v => match v with | .int _ n => n | _ => 0
theorem laid_cell {W : World} {l : List (String × DataW Unit)} (h : laidMetH Tryz.prog l W) {name : String} {g : Nat} {t e : TypeId} {n : Nat} {k : IntKind} {zs : List Int} {vs : List Value}
    (hf : (l.filter fun x => x.1 == name) = [(name, Lib.tabData k zs)]) (hg : Tryz.prog.globalNamed name = some g) (hty : (Tryz.prog.globals[g]?).map (·.type) = some t) (ht : Tryz.prog.underlying t = some (.array n e))
    (he : Tryz.prog.underlying e = some (.int k)) (hce : Tryz.prog.cellsOf e = 1) (hct : Tryz.prog.cellsOf t = n) (hv : (zs.map fun z => Value.int k z) = vs) {j : Nat} {v : Value} (hj : vs[j]? = some v) :
    W.cell? ⟨g, j, none⟩ = some v ∧ v.oneCell' = true := by
  have h1 := laidMetH.filter (fun x => x.1 == name) h
  rw [hf] at h1
  have h2 := (Lib.tabIs_of_head (rest := []) hg hty ht he hce hct h1).cell hg j
  subst hv
  rw [List.getElem?_map] at hj
  cases hz : zs[j]? with
  | none => rw [hz] at hj; cases hj
  | some z =>
    rw [hz] at hj
    cases hj
    rw [h2 (List.getElem?_eq_some_iff.1 hz).1, List.getD_eq_getElem?_getD, hz]
    exact ⟨rfl, rfl⟩
abbrev laidR : List (String × DataW Unit) := Rows.domLordsRow.laid
theorem laid_all {W : World} (h : laidMetH Tryz.prog laidR W) : ∀ b l, laidL b = some l → ∀ (j : Nat) v, l[j]? = some v → W.cell? ⟨b, j, none⟩ = some v ∧ v.oneCell' = true := by
  intro b l hl j v hj
  unfold laidL at hl
  split at hl
  · rename_i e; obtain rfl := Nat.eq_of_beq_eq_true e; cases hl
    exact laid_cell h (name := "math/bits.deBruijn64tab") (t := 200) (e := 5) (n := 64) (k := .u8) (zs := nums laid0) (by kernel_rfl) (by kernel_rfl) (by kernel_rfl) (by kernel_rfl) (by kernel_rfl) (by kernel_rfl) (by kernel_rfl) (by kernel_rfl) hj
  split at hl
  · rename_i e; obtain rfl := Nat.eq_of_beq_eq_true e; cases hl
    exact laid_cell h (name := "strings.asciiSpace") (t := 325) (e := 5) (n := 256) (k := .u8) (zs := nums laid1) (by kernel_rfl) (by kernel_rfl) (by kernel_rfl) (by kernel_rfl) (by kernel_rfl) (by kernel_rfl) (by kernel_rfl) (by kernel_rfl) hj
  split at hl
  · rename_i e; obtain rfl := Nat.eq_of_beq_eq_true e; cases hl
    exact laid_cell h (name := "internal/strconv.uint64pow10") (t := 336) (e := 126) (n := 20) (k := .u64) (zs := nums laid5) (by kernel_rfl) (by kernel_rfl) (by kernel_rfl) (by kernel_rfl) (by kernel_rfl) (by kernel_rfl) (by kernel_rfl) (by kernel_rfl) hj
  split at hl
  · rename_i e; obtain rfl := Nat.eq_of_beq_eq_true e; cases hl
    exact laid_cell h (name := "math/bits.deBruijn32tab") (t := 362) (e := 5) (n := 32) (k := .u8) (zs := nums laid7) (by kernel_rfl) (by kernel_rfl) (by kernel_rfl) (by kernel_rfl) (by kernel_rfl) (by kernel_rfl) (by kernel_rfl) (by kernel_rfl) hj
  cases hl
open Classical in
noncomputable def Ctx.start (W : World) (h : laidMetH Tryz.prog laidR W) : Ctx where
  μ _ := none
  τ _ _ := none
  fc b o := match W.cell? ⟨b, o, none⟩ with | some v => if v.oneCell' = true then some v else none | none => none
  g b := W.heap[b]?
  glob b l hl j v hj := by
    obtain ⟨h1, h2⟩ := laid_all h b l hl j v hj
    rw [h1]; exact if_pos h2
  io := (W.os, W.output)
theorem Ctx.start_fc {W : World} (h : laidMetH Tryz.prog laidR W) (b o : Nat) (v : Value) (hc : W.cell? ⟨b, o, none⟩ = some v) (ho : v.oneCell' = true) : (Ctx.start W h).fc b o = some v := by
  show (match W.cell? ⟨b, o, none⟩ with | some v => if v.oneCell' = true then some v else none | none => none) = some v
  rw [hc]; exact if_pos ho
theorem HRel.start {W : World} (h : laidMetH Tryz.prog laidR W) : HRel (Ctx.start W h) [] W where
  cells b o v hc := by
    change (match W.cell? ⟨b, o, none⟩ with | some v => if v.oneCell' = true then some v else none | none => none) = some v at hc
    split at hc
    · split at hc
      · rename_i u hu ho; cases hc; exact ⟨hu, ho⟩
      · cases hc
    · cases hc
  frozen b o hg := hg
  live a o L ho := by simp [hget] at ho
  inj a a' o o' L L' ho := by simp [hget] at ho
  fresh a _ := ⟨rfl, fun _ => rfl⟩
  there a L hL := by cases hL
  thereτ a k L hL := by cases hL
  top a e n ho := by simp [hget] at ho
  io := rfl
structure Still (W W' : World) : Prop where
  old : ∀ b, b < W.heap.size → W'.heap[b]? = W.heap[b]?
  size : W.heap.size ≤ W'.heap.size
  io : (W'.os, W'.output) = (W.os, W.output)
theorem Still.of {W W' : World} (h : laidMetH Tryz.prog laidR W) {D : Ctx} {h' : AHeap} (hD : (Ctx.start W h).le 0 D) (hr : HRel D h' W') : Still W W' := by
  have hold : ∀ b, b < W.heap.size → W'.heap[b]? = W.heap[b]? := fun b hlt => by
    have : (Ctx.start W h).g b = some (W.heap[b]) := by show W.heap[b]? = _; exact Array.getElem?_eq_getElem hlt
    rw [hr.frozen b _ (hD.g b _ this), Array.getElem?_eq_getElem hlt]
  refine ⟨hold, ?_, hr.io.trans hD.io⟩
  by_cases hz : W.heap.size = 0
  · omega
  · have h1 := hold (W.heap.size - 1) (by omega)
    have h2 : W.heap[W.heap.size - 1]? = some (W.heap[W.heap.size - 1]'(by omega)) := Array.getElem?_eq_getElem (by omega)
    rw [h2] at h1
    have := (Array.getElem?_eq_some_iff.1 h1).1
    omega
theorem Still.kept {W W' : World} (s : Still W W') (may : MemPlace → Prop) : W.keptBut W' may := by
  have h1 := congrArg Prod.fst s.io
  have h2 := congrArg Prod.snd s.io
  refine ⟨h1, h2, fun i hi => ?_⟩
  rw [s.old i hi]
  cases W.heap[i]? with
  | none => rfl
  | some o => cases o <;> first | rfl | exact ⟨rfl, rfl, rfl, fun _ _ => rfl⟩ | exact .inr ⟨rfl, rfl⟩
theorem full : ∀ t e, t < Tryz.prog.types.size → Tryz.prog.underlying t = some (.slice e) → 0 < Tryz.prog.cellsOf e := slices_full_of Tryz.prog (by kernel_rfl)
theorem kids : Kids Tryz.prog (· < Tryz.prog.types.size) := kids_rows (by kernel_rfl) (by kernel_rfl)
theorem Still.reads {H : Type} {enc : TypeId × Value → H} {W W' : World} (s : Still W W') : ∀ {ts : List TypeId} {vs : List Value} {ds : List (DataW H)} {ps : List MemPlace}, (∀ t ∈ ts, t < Tryz.prog.types.size) →
    DataW.TrodAll enc Tryz.prog W 0 (fun _ => true) true ts vs ds ps → DataW.TrodAll enc Tryz.prog W' 0 (fun b => decide (b < W.heap.size)) true ts vs ds ps
  | [], [], [], _, _, h => h
  | _ :: _, _ :: _, _ :: _, _, ht, ⟨p, q, ⟨n, h1⟩, h2, e⟩ => by
    refine ⟨p, q, ⟨n, DataW.trod_stays kids (fun ht hs => full _ _ ht hs) (fun e => by cases e) (ht _ (by simp)) h1 (fun x hx => ?_) fun x hx => ?_⟩, Still.reads s (fun t h => ht t (by simp [h])) h2, e⟩
    · have hlt := DataW.trod_lt _ _ _ _ h1 x hx
      cases x with
      | cell b off => exact cell_congr (s.old b hlt)
      | map b => exact s.old b hlt
    · simpa using DataW.trod_lt _ _ _ _ h1 x hx
end Go.AL
