/- Closed facts of DomWays' row. -/
import Derived.Test.YtjiccnebfbpcgaaGreatDoorU1
set_option linter.unusedSimpArgs false
set_option linter.unusedVariables false
set_option linter.unusedSectionVars false
namespace Go.Proofs.YtjiccnebfbpcgaaGreatDoor.domWays
open Go.Proofs.YtjiccnebfbpcgaaGreatDoor.closed
abbrev rowU := Rows.domWaysUptoRow
abbrev specU : ChangeSpec := (Rows.OpenSpec.upto Rows.domWaysSpec).bare
noncomputable abbrev prg := Tryz.pinned.checked.prog
theorem j1 : rowU.wf (OpenSpec.ofChange specU) = true := by kernel_rfl
theorem j4 : Tryz.f4.params.all (prg.readableRec ·) = true := by kernel_rfl
theorem j5 : namedTie prg rowU.named specU.vars = true := by kernel_rfl
theorem j6 : (rowU.stops == []) = true := by kernel_rfl
theorem j8 : (rowU.knobs == []) = true := by kernel_rfl
theorem j10 : (rowU.inPlace == prg.inPlace 4) = true := by kernel_rfl
theorem j11 : (rowU.unfollowed == prg.unfollowed 4) = true := by kernel_rfl
theorem j12 : (rowU.recurses == prg.recurses 4) = true := by kernel_rfl
theorem j13 : (rowU.named == prg.varsNamed 4) = true := by kernel_rfl
theorem j14 : (rowU.maps == (Tryz.f4.params.toList ++ specU.plain.varTypes prg).any (prg.mapsRec ·)) = true := by kernel_rfl
theorem j15 : (rowU.ifaces == (Tryz.f4.params.toList ++ specU.plain.varTypes prg).any (prg.ifacesRec ·)) = true := by kernel_rfl
theorem j16 : (rowU.mapsOut == prg.mapsAmong Tryz.f4.resultTypes.toList) = true := by kernel_rfl
theorem j17 : (rowU.loops == (Tryz.f4.params.toList ++ specU.plain.varTypes prg).any (prg.loopsFrom ·)) = true := by kernel_rfl
theorem j17b : (rowU.wideKeys == (Tryz.f4.params.toList ++ specU.plain.varTypes prg ++ Tryz.f4.resultTypes.toList).any (prg.wideKeysFrom ·)) = true := by kernel_rfl
theorem j18 : specU.vars.all (prg.varReadable ·) = true := by kernel_rfl
theorem j19 : Tryz.f4.resultTypes.all (fun t => prg.readableRec t && decide (t < prg.types.size)) = true := by kernel_rfl
theorem j20a : (rowU.ifacesOut == Tryz.f4.resultTypes.toList.any (prg.ifacesRec ·)) = true := by kernel_rfl
theorem j20b : (rowU.loopsOut == Tryz.f4.resultTypes.toList.any (prg.loopsFrom ·)) = true := by kernel_rfl
theorem j20c : (rowU.plainKeys == prg.plainKeys) = true := by kernel_rfl
theorem j20d : rowU.shortTexts.isNone = true := by kernel_rfl
theorem j23 : (rowU.lifted == prg.liftsFinal) = true := by kernel_rfl
theorem j24 : (prg.make == some rowU.make) = true := by kernel_rfl
theorem j25 : (rowU.kinds == (if rowU.domain.isEmpty then [] else Tryz.f4.params.toList.map fun t => match prg.underlying t with | some (.int k) => some k | _ => none)) = true := by kernel_rfl
theorem j26 : (rowU.pinned == rowU.pinnedBy) = true := by kernel_rfl
theorem j27 : (rowU.veiled == (Tryz.f4.params.toList ++ specU.plain.varTypes prg ++ Tryz.f4.resultTypes.toList).any (prg.veiledRec ·)) = true := by kernel_rfl
theorem j28 : rowU.veiledFits prg Tryz.f4.params.toList (Tryz.f4.params.toList ++ specU.plain.varTypes prg ++ Tryz.f4.resultTypes.toList) = true := by kernel_rfl
end Go.Proofs.YtjiccnebfbpcgaaGreatDoor.domWays
