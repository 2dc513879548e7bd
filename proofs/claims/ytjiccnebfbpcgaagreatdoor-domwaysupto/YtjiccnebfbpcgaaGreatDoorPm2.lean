/- droguelaw11.DomWays: for every function and every two numbers that together are of bulk at most 1048576 the law returns true, and each argument reads behind the call as it read before it; on condition that the row's package-level tables hold what the row lists when the call begins. -/
import Derived.Test.YtjiccnebfbpcgaaGreatDoorPj2
import Derived.Test.YtjiccnebfbpcgaaGreatDoorU4
import Derived.Test.YtjiccnebfbpcgaaGreatDoorCards
import Derived.Test.YtjiccnebfbpcgaaGreatDoorTie
import Derived.WalkKit
import Derived.ProofKit
import Derived.OpenShut
import Derived.Deep.DeepHandedRow
import Derived.Lay
import Derived.MakeChecks
set_option linter.unusedSimpArgs false
set_option linter.unusedVariables false
set_option linter.unusedSectionVars false
namespace Go.Proofs.YtjiccnebfbpcgaaGreatDoor.domWays
open Go.ChangeShapes Go.WideShapes Go.ChangeAt Go.RowKit
theorem own : ownKnob Tryz.prog.godebug = none := by kernel_rfl
theorem func : Tryz.prog.funcs[4]? = some Tryz.f4 := by kernel_rfl
theorem params : Tryz.f4.params = #[25, 3, 3] := by kernel_rfl
theorem results : Tryz.f4.resultTypes = #[4] := by kernel_rfl
theorem bulk (H : Type) : Go.AL.Bulk (H := H) Rows.uptoBulk Rows.uptoBulkAll where
  str _ := rfl
  int _ _ := rfl
  nil := rfl
  slice _ _ := rfl
  agg _ := rfl
  anil := rfl
  acons _ _ := rfl
set_option maxRecDepth 100000 in
theorem contract (H : Type) (enc : TypeId × Value → H) (W : World) (base : Nat) (args : Array Value) (ds gs : List (DataW H)) (before : List MemPlace)
    (hval : ∀ (j : Nat) t v, Tryz.f4.params[j]? = some t → args[j]? = some v → Value.okWide Tryz.prog W .any base t v)
    (hW : DataW.Whole enc Tryz.prog Tryz.f4.params.toList Rows.domWaysSpec.vars false W args.toList ds gs before) (hk : Rows.uptoSmall H (ds ++ gs) = true) (hL : laidMetH Tryz.prog Rows.domWaysRow.laid W) :
    Calls Tryz.prog 4 args W fun e W' => ∃ v, e = .returned v ∧ Rows.domWaysSpec.post enc Tryz.prog Tryz.f4 false true false false W args v W' := by
  have hW' := hW
  obtain ⟨p, q, hA, hV, rfl, hfz, hnd⟩ := hW
  rw [params] at hA hval
  obtain ⟨v0, vs0, d0, ds0, p0, q0, hargs, rfl, rfl, h0, r0⟩ := trodAll_cons hA
  obtain ⟨v1, vs1, d1, ds1, p1, q1, rfl, rfl, rfl, h1, r1⟩ := trodAll_cons r0
  obtain ⟨v2, vs2, d2, ds2, p2, q2, rfl, rfl, rfl, h2, r2⟩ := trodAll_cons r1
  obtain ⟨rfl, rfl, rfl⟩ := trodAll_nil r2
  obtain rfl : args = #[v0, v1, v2] := by cases args; simp_all
  obtain ⟨rfl, rfl⟩ := trodVars_none hV
  obtain ⟨a, rfl, rfl, rfl, _⟩ := open_int Go.AL.u3 (hval 1 3 v1 rfl rfl) h1
  obtain ⟨b, rfl, rfl, rfl, _⟩ := open_int Go.AL.u3 (hval 2 3 v2 rfl rfl) h2
  obtain ⟨fs, hu⟩ : ∃ fs, Tryz.prog.underlying 25 = some (.struct fs) := by
    have := Go.AL.s25
    unfold Go.AL.structT at this
    split at this
    · rename_i fs h; exact ⟨fs, h⟩
    · cases this
  obtain ⟨cs, rfl, hsz, _⟩ : ∃ cs, v0 = .agg cs ∧ cs.size = Tryz.prog.cellsOf 25 ∧ Row.okWide Tryz.prog W .any base 25 cs := by
    have := hval 0 25 v0 rfl rfl
    unfold Value.okWide at this
    rw [hu] at this
    exact this
  obtain ⟨fuel, hf⟩ := h0
  obtain ⟨f, hr, hbf⟩ := Go.AL.rd_func (bulk H) (C := Go.AL.Ctx.start W hL) (Go.AL.Ctx.start_fc hL) fuel _ _ _ hf
  have hsmall : Go.AL.bFunc f ≤ 1048576 := by
    have := of_decide_eq_true hk
    simp only [List.cons_append, Rows.uptoBulkAll] at this
    omega
  have hv : Go.AL.VRels (Go.AL.Ctx.start W hL) [.agg f.cells, .lit (.int .i64 a), .lit (.int .i64 b)] #[.agg cs, .int .i64 a, .int .i64 b] := by
    refine ⟨rfl, fun i v rv e1 e2 => ?_⟩
    match i, e1, e2 with
    | 0, e1, e2 =>
      cases e1; cases e2
      exact .agg _ _ (by rw [hr.len]; rfl) fun i v rv g1 g2 => hr.rel i v rv g1 (by rw [← g2]; exact Array.getElem?_toList)
    | 1, e1, e2 => cases e1; cases e2; exact .lit _
    | 2, e1, e2 => cases e1; cases e2; exact .lit _
    | i + 3, e1, e2 => simp at e1
  refine (Go.AL.domways_ok (Go.AL.func_ok hsmall) a b [] _ _ _ (Go.AL.HRel.start hL) hv).mono fun e W' ⟨v, rv, D, h', he, hD, hr', hrv, hv1, _⟩ => ?_
  subst he; subst hv1
  cases hrv
  have st := Go.AL.Still.of hL hD hr'
  refine ⟨_, rfl, _, _, _, [], _, [], hW', ?_, st.reads (fun t ht => ?_) hA, rfl, st.kept _, fun e => by cases e⟩
  · rw [results]
    exact trodAll_cons_mk (shut_bool Go.AL.u4 _) trodAll_mk0
  · rw [params] at ht
    simp only [List.mem_cons, List.not_mem_nil, or_false] at ht
    have hlt : 26 ≤ Tryz.prog.types.size := Nat.le_of_ble_eq_true (by kernel_rfl)
    rcases ht with rfl | rfl | rfl
    · exact Nat.lt_of_lt_of_le (show (25 : Nat) < 26 by omega) hlt
    all_goals exact Nat.lt_of_lt_of_le (show (3 : Nat) < 26 by omega) hlt
noncomputable def emptyArgs : Array Value := #[.agg #[.int .i64 0, .string ⟨#[]⟩, .slice none 0 0, .slice none 0 0, .string ⟨#[]⟩, .slice none 0 0], .int .i64 0, .int .i64 0]
noncomputable def laidWorld (os : Os) : World := World.laidAll Tryz.prog os Rows.domWaysRow.laid
theorem laid_met (os : Os) : laidMetH Tryz.prog Rows.domWaysRow.laid ((laidWorld os).forCall (fun _ _ => 0) ⟨#[], emptyArgs, []⟩).memory := by
  rw [MakeChecks.laidMetH_plain _ _ _ (by kernel_rfl)]
  exact laidMet_laidAll _ (by kernel_rfl) (by kernel_rfl)
noncomputable def emptyRead (H : Type) : List (DataW H) := [.agg [.lit (.int .i64 0), .lit (.string []), .nil, .nil, .lit (.string []), .nil], .lit (.int .i64 0), .lit (.int .i64 0)]
theorem reads (os : Os) {H : Type} (enc : TypeId × Value → H) : ∃ places, DataW.whole enc Tryz.prog ((laidWorld os).forCall (fun _ _ => 0) ⟨#[], emptyArgs, []⟩).memory Tryz.f4.params.toList Rows.domWaysSpec.vars false emptyArgs.toList 8 = some (emptyRead H, [], places) :=
  ⟨[], by kernel_rfl⟩
theorem shaped (os : Os) : ((laidWorld os).forCall (fun _ _ => 0) ⟨#[], emptyArgs, []⟩).Shaped Tryz.checked.prog := World.shaped_of_ZipB (by kernel_rfl) (by kernel_rfl)
theorem okArgs (os : Os) : Input.okWideB Tryz.checked.prog ((laidWorld os).forCall (fun _ _ => 0) ⟨#[], emptyArgs, []⟩) 4 ⟨#[], emptyArgs, []⟩ = true := by kernel_rfl
theorem sized (os : Os) {H : Type} (enc : TypeId × Value → H) : (Rows.OpenSpec.upto Rows.domWaysSpec).bare.sizedB enc Tryz.checked.prog Tryz.f4 false ((laidWorld os).forCall (fun _ _ => 0) ⟨#[], emptyArgs, []⟩).memory emptyArgs 8 = true := by kernel_rfl
theorem preRow (os : Os) {H : Type} (enc : TypeId × Value → H) : (Rows.OpenSpec.upto Rows.domWaysSpec).preRow enc Tryz.checked.prog Tryz.f4 Rows.domWaysUptoRow.domain false Rows.domWaysUptoRow.laid ((laidWorld os).forCall (fun _ _ => 0) ⟨#[], emptyArgs, []⟩).memory emptyArgs := by
  obtain ⟨places, hx⟩ := reads os enc
  exact OpenSpec.preRow_of_cond 8 hx rfl (fun k hk => by cases hk; kernel_rfl) (sized os enc) (laid_met os)
theorem witness (os : Os) {H : Type} (enc : TypeId × Value → H) :
    ∃ (w : World) (tape : Tape) (i : Input), w.os = os ∧ (w.forCall tape i).Shaped Tryz.checked.prog ∧ i.vars = [] ∧ Input.okWide Tryz.checked.prog (w.forCall tape i) .any w.heap.size 4 i ∧
      (Rows.OpenSpec.upto Rows.domWaysSpec).preRow enc Tryz.checked.prog Tryz.f4 Rows.domWaysUptoRow.domain false Rows.domWaysUptoRow.laid (w.forCall tape i).memory i.args ∧ ({} : Assume).holds Tryz.checked.prog (lone (Frame.enter Tryz.checked.prog 4 i.args .normal) [] (w.forCall tape i)) :=
  ⟨laidWorld os, fun _ _ => 0, ⟨#[], emptyArgs, []⟩, World.laidAll_os _ _ _, shaped os, (Input.okWide_of_okWideB (base := 0) (okArgs os)).1, (Input.okWide_of_okWideB (okArgs os)).2, preRow os enc, by
    simp only [Assume.holds]
    exact ⟨by simp, by simp, fun _ => Modest.zero, by simp, by simp⟩⟩
theorem noInit : Tryz.checked.prog.inits.idxOf? 4 = none := by kernel_rfl
set_option maxRecDepth 100000 in
theorem liftedUpto (os : Os) (started : os.Started) (H : Type) (enc : TypeId × Value → H) (F : Stop.Interp) :
    ReturnsInHanded {} Tryz.checked os 4 .any ((Rows.OpenSpec.upto Rows.domWaysSpec).preRow enc Tryz.prog Tryz.f4 Rows.domWaysUptoRow.domain false Rows.domWaysUptoRow.laid) (((Rows.OpenSpec.upto Rows.domWaysSpec).at F).post enc Tryz.prog Tryz.f4 false true false false) := by
  refine returnsInHanded_of_row (C := Tryz.checked) (s := Rows.OpenSpec.upto Rows.domWaysSpec) own started noInit func (witness os enc) ?_
  intro W base args ds gs before hval hW _ hcond _ hL _ _
  exact contract H enc W base args ds gs before hval hW (hcond _ rfl) hL
end Go.Proofs.YtjiccnebfbpcgaaGreatDoor.domWays
namespace Go.Proofs.YtjiccnebfbpcgaaGreatDoor.domWays
open Go.ChangeShapes Go.WideShapes Go.ChangeAt Go.RowKit
open Go.Proofs.YtjiccnebfbpcgaaGreatDoor.closed in
set_option maxRecDepth 100000 in
theorem joined : joinedFacts Tryz.pinned.checked.prog 4 Tryz.f4 (Rows.OpenSpec.upto Rows.domWaysSpec).bare Rows.domWaysUptoRow = true := by
  unfold joinedFacts
  exact (and2 (and2 (and2 (and2 (and2 (and2 (and2 (and2 (and2 (and2 (and2 (and2 (and2 (and2 (and2 (and2 (and2 (and2 (and2 (and2 (and2 (and2 (and2 (and2 (and2 (and2 (and2 (and2 (and2 (and2 (and2 j1 j2) j3) j4) j5) j6) j7) j8) j9) j10) j11) j12) j13) j14) j15) j16) j17) j17b) j18) j19) j20a) j20b) j20c) j20d) j21) j22) j23) j24) j25) j26) j27) j28)
theorem named : Tryz.pinned.checked.prog.funcNamed "drogue/droguelaw11.DomWays" = some 4 := by kernel_rfl
theorem wrapped : Tryz.f4.isWrapper Tryz.pinned.checked.prog Rows.domWaysUptoRow.wrapper Rows.domWaysUptoRow.mainSum := by unfold Func.isWrapper; first | (rw [if_pos (by decide +kernel)]; kernel_rfl) | (rw [if_neg (by decide +kernel)]; exact ⟨rfl, rfl⟩)
theorem inst : Tryz.f4.isInstance Tryz.pinned.checked.prog Rows.domWaysUptoRow.origin Rows.domWaysUptoRow.targs := of_decide_eq_true (by kernel_rfl)
theorem saidUpto : Rows.DomWaysUptoSaid :=
  OpenClaim.holds_of_cond 4 Tryz.f4 rfl rfl rfl rfl rfl rfl rfl ⟨rfl, rfl, rfl, rfl, rfl⟩ rfl rfl rfl rfl rfl named func joined
    inst wrapped
    (fun os started H enc _ F => by rw [OpenClaim.pre_eq_preRow]; exact liftedUpto os started H enc F)
theorem plain (f : FuncId) (fn : Func) (hf : Tryz.pinned.checked.prog.funcNamed "drogue/droguelaw11.DomWays" = some f) (hfn : Tryz.pinned.checked.prog.funcs[f]? = some fn) :
    true = Tryz.pinned.checked.prog.looks [] ∧ ∀ (j : Nat) t, fn.params[j]? = some t → Tryz.pinned.checked.prog.wantsStandIn t = false := by
  obtain rfl : f = 4 := Option.some.inj (named.symm.trans hf) |>.symm
  obtain rfl : fn = Tryz.f4 := (Option.some.inj (func.symm.trans hfn)).symm
  refine ⟨by kernel_rfl, fun j t ht => ?_⟩
  rw [params] at ht
  have : t = 25 ∨ t = 3 := by
    have := Array.mem_of_getElem? ht
    simp at this; omega
  rcases this with rfl | rfl
  · exact (show Tryz.prog.wantsStandIn 25 = false by kernel_rfl)
  · exact (show Tryz.prog.wantsStandIn 3 = false by kernel_rfl)
theorem cardUpto : Rows.DomWaysUptoCardSaid :=
  Claim7.holds_tied_plain_at .later [] _ _ _ _ saidUpto (fun _ h => by cases h) (by kernel_rfl) (fun _ h => by cases h) domWaysUpto_row_tie rfl ⟨rfl, rfl⟩ (by kernel_rfl) rfl plain (by kernel_rfl)
end Go.Proofs.YtjiccnebfbpcgaaGreatDoor.domWays
namespace Go.Proofs.YtjiccnebfbpcgaaGreatDoor
theorem domWays_upto : Rows.DomWaysUptoCardSaid := domWays.cardUpto
end Go.Proofs.YtjiccnebfbpcgaaGreatDoor
