/- The functions, with their types looked up. -/
import Derived.Test.YtjiccnebfbpcgaaGreatDoorQAx9
import Derived.KernelRfl
set_option linter.unusedSimpArgs false
set_option linter.unusedVariables false
set_option linter.unusedSectionVars false
namespace Go.AL
open Go.Proofs
noncomputable def xn14 : Nat := 77
noncomputable def xr14 : List XRes := [.tmp 0]
noncomputable def xa14_0 : XCode := .region [⟨(some 5), .move (.t 25), none⟩]
noncomputable def xb14_0 : XCode := .block 1 (.region [⟨(some 26), .load (.t 4) 1 false, none⟩,
 ⟨(some 27), .move (.t 5), none⟩,
 ⟨(some 28), .buildSlice [(.lit (.int .i64 0))] 1 [(0, (.t 27))], none⟩,
 ⟨(some 29), .append 1 (.t 26) (.t 28), none⟩,
 ⟨none, .store (.t 4) (.t 29) 1, none⟩])
theorem xaf14_0 : xcomp Tryz.prog 77 (bodyAt Tryz.prog 14 [1, 1, 1, 1, 1, 1, 0, 1, 0, 0]) = some xa14_0 := by kernel_rfl
theorem xbf14_0 : xcomp Tryz.prog 77 (bodyAt Tryz.prog 14 [1, 1, 1, 1, 1, 1, 0, 1, 0, 1]) = some xb14_0 := by kernel_rfl
noncomputable def xc14 : XCode := .seq (.region [⟨(some 0), .move (.v (.lit (.bool false))), none⟩])
  (.seq (.region [⟨(some 7), .call (.v (.func (.func 44) [] [])) [(.v (.str [102, 110, 32, 109, 97, 105, 110, 40, 41, 32, 105, 110, 116, 32, 123, 32, 108, 101, 116, 32, 120, 32, 105, 110, 116, 59, 32, 97, 58, 32, 105, 102, 32, 120, 32, 98, 32, 99, 59, 32, 98, 58, 32, 103, 111, 116, 111, 32, 100, 59, 32, 99, 58, 32, 103, 111, 116, 111, 32, 100, 59, 32, 100, 58, 32, 105, 102, 32, 120, 32, 97, 32, 101, 59, 32, 101, 58, 32, 114, 101, 116, 117, 114, 110, 32, 120, 59, 32, 102, 58, 32, 103, 111, 116, 111, 32, 101, 59, 32, 125]))], none⟩,
 ⟨(some 6), .move (.t 7), none⟩,
 ⟨(some 8), .extract (.t 6) 0, none⟩,
 ⟨(some 9), .extract (.t 6) 1, none⟩,
 ⟨(some 1), .alloc [(.lit (.slice none 0 0)), (.lit (.slice none 0 0)), (.lit (.slice none 0 0))], none⟩,
 ⟨none, .store (.t 1) (.t 8) 3, none⟩,
 ⟨(some 2), .move (.t 9), none⟩])
  (.seq (.seq (.region [⟨(some 10), .fieldAddr (.t 1) 2, none⟩,
 ⟨(some 11), .load (.t 10) 1 false, none⟩,
 ⟨(some 12), .len .slice (.t 11), none⟩,
 ⟨(some 13), .bin true .other .neq (.t 12) (.v (.lit (.int .i64 1))), none⟩])
  (.cond (.t 13)
    (.seq (.region [⟨(some 0), .move (.v (.lit (.bool false))), none⟩])
    (.ret))
    (.skip)))
  (.seq (.region [⟨(some 14), .fieldAddr (.t 1) 2, none⟩,
 ⟨(some 15), .load (.t 14) 1 false, none⟩,
 ⟨(some 16), .indexAddr (.t 15) (.v (.lit (.int .i64 0))) 6, none⟩,
 ⟨(some 17), .load (.t 16) 6 true, none⟩,
 ⟨(some 18), .call (.v (.func (.func 16) [] [])) [(.t 17)], none⟩,
 ⟨(some 19), .call (.v (.func (.func 17) [] [])) [(.t 18)], none⟩,
 ⟨(some 3), .move (.t 19), none⟩])
  (.seq (.seq (.region [⟨(some 20), .move (.t 3), none⟩,
 ⟨(some 21), .bin true .ptr .eql (.t 20) (.v (.lit (.pointer none))), none⟩])
  (.cond (.t 21)
    (.seq (.region [⟨(some 0), .move (.v (.lit (.bool false))), none⟩])
    (.ret))
    (.skip)))
  (.seq (.region [⟨(some 22), .buildSlice [(.lit (.int .i64 0))] 0 [], none⟩,
 ⟨(some 4), .alloc [(.lit (.slice none 0 0))], none⟩,
 ⟨none, .store (.t 4) (.t 22) 1, none⟩])
  (.seq (.seq (.region [⟨(some 23), .move (.t 3), none⟩,
 ⟨(some 24), .call (.v (.func (.func 18) [] [])) [(.t 23), (.v (.lit (.int .i64 4)))], none⟩])
  (.block 0 (.range (.t 24) #[25] (bodyAt Tryz.prog 14 [1, 1, 1, 1, 1, 1, 0, 1, 0, 0]) (bodyAt Tryz.prog 14 [1, 1, 1, 1, 1, 1, 0, 1, 0, 1]) xa14_0 xb14_0)))
  (.seq (.region [⟨(some 30), .move (.t 3), none⟩,
 ⟨(some 31), .call (.v (.func (.func 21) [] [])) [(.t 30), (.v (.lit (.int .i64 3)))], none⟩,
 ⟨(some 32), .bin true .other .eql (.t 31) (.v (.lit (.int .i64 0))), none⟩,
 ⟨(some 33), .move (.t 32), none⟩,
 ⟨(some 34), .move (.t 3), some (33, true)⟩,
 ⟨(some 35), .call (.v (.func (.func 21) [] [])) [(.t 34), (.v (.lit (.int .i64 4)))], some (33, true)⟩,
 ⟨(some 36), .bin true .other .eql (.t 35) (.v (.lit (.int .i64 3))), some (33, true)⟩,
 ⟨(some 37), .pick (.t 33) (.t 36) (.v (.lit (.bool false))), none⟩,
 ⟨(some 38), .move (.t 37), none⟩,
 ⟨(some 39), .move (.t 3), some (38, true)⟩,
 ⟨(some 40), .call (.v (.func (.func 21) [] [])) [(.t 39), (.v (.lit (.int .i64 0)))], some (38, true)⟩,
 ⟨(some 41), .bin true .other .eql (.t 40) (.v (.lit (.int .i64 (-1)))), some (38, true)⟩,
 ⟨(some 42), .pick (.t 38) (.t 41) (.v (.lit (.bool false))), none⟩,
 ⟨(some 43), .move (.t 42), none⟩,
 ⟨(some 44), .move (.t 3), some (43, true)⟩,
 ⟨(some 45), .call (.v (.func (.func 21) [] [])) [(.t 44), (.v (.lit (.int .i64 5)))], some (43, true)⟩,
 ⟨(some 46), .bin true .other .eql (.t 45) (.v (.lit (.int .i64 (-1)))), some (43, true)⟩,
 ⟨(some 47), .pick (.t 43) (.t 46) (.v (.lit (.bool false))), none⟩,
 ⟨(some 48), .move (.t 47), none⟩,
 ⟨(some 49), .move (.t 3), some (48, true)⟩,
 ⟨(some 50), .call (.v (.func (.func 19) [] [])) [(.t 49), (.v (.lit (.int .i64 0))), (.v (.lit (.int .i64 4)))], some (48, true)⟩,
 ⟨(some 51), .pick (.t 48) (.t 50) (.v (.lit (.bool false))), none⟩,
 ⟨(some 52), .move (.t 51), none⟩,
 ⟨(some 53), .move (.t 3), some (52, true)⟩,
 ⟨(some 54), .call (.v (.func (.func 19) [] [])) [(.t 53), (.v (.lit (.int .i64 1))), (.v (.lit (.int .i64 3)))], some (52, true)⟩,
 ⟨(some 55), .un .not (.t 54), some (52, true)⟩,
 ⟨(some 56), .pick (.t 52) (.t 55) (.v (.lit (.bool false))), none⟩,
 ⟨(some 57), .move (.t 56), none⟩,
 ⟨(some 58), .move (.t 3), some (57, true)⟩,
 ⟨(some 59), .call (.v (.func (.func 19) [] [])) [(.t 58), (.v (.lit (.int .i64 3))), (.v (.lit (.int .i64 3)))], some (57, true)⟩,
 ⟨(some 60), .pick (.t 57) (.t 59) (.v (.lit (.bool false))), none⟩,
 ⟨(some 61), .move (.t 60), none⟩,
 ⟨(some 62), .move (.t 3), some (61, true)⟩,
 ⟨(some 63), .call (.v (.func (.func 19) [] [])) [(.t 62), (.v (.lit (.int .i64 5))), (.v (.lit (.int .i64 5)))], some (61, true)⟩,
 ⟨(some 64), .un .not (.t 63), some (61, true)⟩,
 ⟨(some 65), .pick (.t 61) (.t 64) (.v (.lit (.bool false))), none⟩,
 ⟨(some 66), .move (.t 65), none⟩,
 ⟨(some 67), .load (.t 4) 1 false, some (66, true)⟩,
 ⟨(some 68), .buildSlice [(.lit (.int .i64 0))] 3 [(0, (.v (.lit (.int .i64 4)))), (1, (.v (.lit (.int .i64 3)))), (2, (.v (.lit (.int .i64 0))))], some (66, true)⟩,
 ⟨(some 69), .call (.v (.func (.func 30) [] [])) [(.t 67), (.t 68)], some (66, true)⟩,
 ⟨(some 70), .pick (.t 66) (.t 69) (.v (.lit (.bool false))), none⟩,
 ⟨(some 71), .move (.t 70), none⟩,
 ⟨(some 72), .move (.t 3), some (71, true)⟩,
 ⟨(some 73), .call (.v (.func (.func 50) [] [])) [(.t 72)], some (71, true)⟩,
 ⟨(some 74), .buildSlice [(.lit (.int .i64 0))] 1 [(0, (.v (.lit (.int .i64 0))))], some (71, true)⟩,
 ⟨(some 75), .call (.v (.func (.func 30) [] [])) [(.t 73), (.t 74)], some (71, true)⟩,
 ⟨(some 76), .pick (.t 71) (.t 75) (.v (.lit (.bool false))), none⟩,
 ⟨(some 0), .move (.t 76), none⟩])
  (.ret))))))))
theorem xf14 : xfunc Tryz.prog 14 = some ⟨xn14, xr14, xc14⟩ := by kernel_rfl
noncomputable def xn16 : Nat := 86
noncomputable def xr16 : List XRes := [.tmp 2]
noncomputable def xa16_0 : XCode := .region [⟨(some 7), .move (.t 31), none⟩]
noncomputable def xb16_0 : XCode := .block 3 (.seq (.region [⟨(some 32), .load (.t 1) 6 true, none⟩,
 ⟨(some 33), .move (.t 7), none⟩,
 ⟨(some 34), .call (.v (.func (.func 52) [] [])) [(.t 32), (.t 33)], none⟩,
 ⟨(some 8), .move (.t 34), none⟩])
  (.seq (.seq (.draw [⟨.pure, 0, 0⟩, ⟨.pure, 0, 0⟩, ⟨.pure, 0, 0⟩, ⟨.read, 0, 0⟩, ⟨.pure, 0, 0⟩, ⟨.pure, 0, 0⟩, ⟨.read, 0, 0⟩, ⟨.read, 0, 0⟩, ⟨.pure, 0, 0⟩, ⟨.read, 0, 0⟩, ⟨.pure, 0, 0⟩, ⟨.eff, 0, 1⟩, ⟨.pure, 1, 1⟩] [⟨(some 35), .move (.t 8), none⟩,
 ⟨(some 36), .bin true .other .lss (.t 35) (.v (.lit (.int .i64 0))), none⟩,
 ⟨(some 37), .move (.t 36), none⟩,
 ⟨(some 38), .load (.t 4) 1 false, some (37, false)⟩,
 ⟨(some 39), .nilCheck (.t 38), some (37, false)⟩,
 ⟨(some 40), .fieldAddr (.t 39) 0, some (37, false)⟩,
 ⟨(some 41), .load (.t 40) 1 false, some (37, false)⟩,
 ⟨(some 42), .load (.t 5) 1 false, some (37, false)⟩,
 ⟨(some 43), .indexAddr (.t 41) (.t 42) 1, some (37, false)⟩,
 ⟨(some 44), .load (.t 43) 1 false, some (37, false)⟩,
 ⟨(some 45), .move (.t 8), some (37, false)⟩,
 ⟨(some 46), .call (.v (.func (.func 53) [] [])) [(.t 44), (.t 45)], some (37, false)⟩,
 ⟨(some 47), .pick (.t 37) (.v (.lit (.bool true))) (.t 46), none⟩])
  (.cond (.t 47)
    (.exit 3)
    (.skip)))
  (.seq (.draw [⟨.read, 0, 1⟩, ⟨.pure, 0, 1⟩, ⟨.pure, 0, 1⟩, ⟨.read, 0, 1⟩, ⟨.read, 0, 1⟩, ⟨.read, 0, 0⟩, ⟨.pure, 0, 0⟩, ⟨.pure, 0, 0⟩, ⟨.read, 0, 0⟩, ⟨.read, 0, 0⟩, ⟨.pure, 0, 0⟩, ⟨.read, 0, 0⟩, ⟨.pure, 0, 0⟩, ⟨.fresh, 0, 0⟩, ⟨.eff, 0, 1⟩, ⟨.pure, 1, 1⟩, ⟨.eff, 1, 2⟩] [⟨(some 48), .load (.t 4) 1 false, none⟩,
 ⟨(some 49), .nilCheck (.t 48), none⟩,
 ⟨(some 50), .fieldAddr (.t 49) 0, none⟩,
 ⟨(some 51), .load (.t 50) 1 false, none⟩,
 ⟨(some 52), .load (.t 5) 1 false, none⟩,
 ⟨(some 53), .load (.t 4) 1 false, none⟩,
 ⟨(some 54), .nilCheck (.t 53), none⟩,
 ⟨(some 55), .fieldAddr (.t 54) 0, none⟩,
 ⟨(some 56), .load (.t 55) 1 false, none⟩,
 ⟨(some 57), .load (.t 5) 1 false, none⟩,
 ⟨(some 58), .indexAddr (.t 56) (.t 57) 1, none⟩,
 ⟨(some 59), .load (.t 58) 1 false, none⟩,
 ⟨(some 60), .move (.t 8), none⟩,
 ⟨(some 61), .buildSlice [(.lit (.int .i64 0))] 1 [(0, (.t 60))], none⟩,
 ⟨(some 62), .append 1 (.t 59) (.t 61), none⟩,
 ⟨(some 63), .indexAddr (.t 51) (.t 52) 1, none⟩,
 ⟨none, .store (.t 63) (.t 62) 1, none⟩])
  (.draw [⟨.read, 0, 1⟩, ⟨.pure, 0, 1⟩, ⟨.pure, 0, 1⟩, ⟨.read, 0, 1⟩, ⟨.pure, 0, 1⟩, ⟨.read, 0, 0⟩, ⟨.pure, 0, 0⟩, ⟨.pure, 0, 0⟩, ⟨.read, 0, 0⟩, ⟨.pure, 0, 0⟩, ⟨.pure, 0, 0⟩, ⟨.read, 0, 0⟩, ⟨.read, 0, 0⟩, ⟨.fresh, 0, 0⟩, ⟨.eff, 0, 1⟩, ⟨.pure, 1, 1⟩, ⟨.eff, 1, 2⟩] [⟨(some 64), .load (.t 4) 1 false, none⟩,
 ⟨(some 65), .nilCheck (.t 64), none⟩,
 ⟨(some 66), .fieldAddr (.t 65) 1, none⟩,
 ⟨(some 67), .load (.t 66) 1 false, none⟩,
 ⟨(some 68), .move (.t 8), none⟩,
 ⟨(some 69), .load (.t 4) 1 false, none⟩,
 ⟨(some 70), .nilCheck (.t 69), none⟩,
 ⟨(some 71), .fieldAddr (.t 70) 1, none⟩,
 ⟨(some 72), .load (.t 71) 1 false, none⟩,
 ⟨(some 73), .move (.t 8), none⟩,
 ⟨(some 74), .indexAddr (.t 72) (.t 73) 1, none⟩,
 ⟨(some 75), .load (.t 74) 1 false, none⟩,
 ⟨(some 76), .load (.t 5) 1 false, none⟩,
 ⟨(some 77), .buildSlice [(.lit (.int .i64 0))] 1 [(0, (.t 76))], none⟩,
 ⟨(some 78), .append 1 (.t 75) (.t 77), none⟩,
 ⟨(some 79), .indexAddr (.t 67) (.t 68) 1, none⟩,
 ⟨none, .store (.t 79) (.t 78) 1, none⟩]))))
theorem xaf16_0 : xcomp Tryz.prog 86 (bodyAt Tryz.prog 16 [1, 1, 1, 0, 1, 0, 0, 1, 1, 0, 0, 1, 1, 0, 0]) = some xa16_0 := by kernel_rfl
theorem xbf16_0 : xcomp Tryz.prog 86 (bodyAt Tryz.prog 16 [1, 1, 1, 0, 1, 0, 0, 1, 1, 0, 0, 1, 1, 0, 1]) = some xb16_0 := by kernel_rfl
noncomputable def xc16 : XCode := .seq (.region [⟨(some 1), .box (.t 0), none⟩,
 ⟨(some 2), .move (.v (.lit (.pointer none))), none⟩])
  (.seq (.region [⟨(some 9), .fieldAddr (.t 1) 5, none⟩,
 ⟨(some 10), .load (.t 9) 1 false, none⟩,
 ⟨(some 11), .len .slice (.t 10), none⟩,
 ⟨(some 3), .move (.t 11), none⟩])
  (.seq (.draw [⟨.pure, 0, 0⟩, ⟨.fresh, 0, 0⟩, ⟨.pure, 0, 0⟩, ⟨.fresh, 0, 0⟩, ⟨.pure, 0, 0⟩, ⟨.fresh, 0, 0⟩, ⟨.pure, 0, 0⟩, ⟨.fresh, 0, 0⟩, ⟨.fresh, 0, 0⟩, ⟨.eff, 0, 1⟩] [⟨(some 12), .move (.t 3), none⟩,
 ⟨(some 13), .makeSlice [(.lit (.slice none 0 0))] (.t 12) (.t 12), none⟩,
 ⟨(some 14), .move (.t 3), none⟩,
 ⟨(some 15), .makeSlice [(.lit (.slice none 0 0))] (.t 14) (.t 14), none⟩,
 ⟨(some 16), .move (.t 3), none⟩,
 ⟨(some 17), .makeSlice [(.lit (.bool false))] (.t 16) (.t 16), none⟩,
 ⟨(some 18), .build [(.lit (.slice none 0 0)), (.lit (.slice none 0 0)), (.lit (.slice none 0 0)), (.lit (.slice none 0 0))] [(0, 1), (1, 1), (2, 1), (3, 1)] [(0, (.t 13)), (1, (.t 15)), (2, (.v (.lit (.slice none 0 0)))), (3, (.t 17))], none⟩,
 ⟨(some 19), .box (.t 18), none⟩,
 ⟨(some 4), .alloc [(.lit (.pointer none))], none⟩,
 ⟨none, .store (.t 4) (.t 19) 1, none⟩])
  (.seq (.seq (.region [⟨(some 20), .fieldAddr (.t 1) 5, none⟩,
 ⟨(some 21), .load (.t 20) 1 false, none⟩,
 ⟨(some 22), .len .slice (.t 21), none⟩,
 ⟨(some 23), .move (.v (.lit (.int .i64 0))), none⟩])
  (.block 0 (.loop (.seq (.region [⟨(some 24), .bin false .other .lss (.t 23) (.t 22), none⟩])
  (.seq (.cond (.t 24)
    (.skip)
    (.exit 0))
  (.seq (.block 1 (.seq (.region [⟨(some 25), .move (.t 23), none⟩,
 ⟨(some 26), .indexAddr (.t 21) (.t 23) 11, none⟩,
 ⟨(some 27), .load (.t 26) 11 true, none⟩,
 ⟨(some 5), .alloc [(.lit (.int .i64 0))], none⟩,
 ⟨(some 6), .alloc [(.lit (.int .i64 0)), (.str []), (.lit (.slice none 0 0)), (.lit (.int .i64 0)), (.lit (.int .i64 0)), (.str []), (.lit (.slice none 0 0)), (.str []), (.lit (.slice none 0 0)), (.lit (.slice none 0 0)), (.lit (.slice none 0 0))], none⟩,
 ⟨none, .store (.t 5) (.t 25) 1, none⟩,
 ⟨none, .store (.t 6) (.t 27) 11, none⟩])
  (.seq (.region [⟨(some 28), .fieldAddr (.t 6) 3, none⟩,
 ⟨(some 29), .load (.t 28) 8 true, none⟩,
 ⟨(some 30), .call (.v (.func (.func 51) [] [])) [(.t 29)], none⟩])
  (.block 2 (.range (.t 30) #[31] (bodyAt Tryz.prog 16 [1, 1, 1, 0, 1, 0, 0, 1, 1, 0, 0, 1, 1, 0, 0]) (bodyAt Tryz.prog 16 [1, 1, 1, 0, 1, 0, 0, 1, 1, 0, 0, 1, 1, 0, 1]) xa16_0 xb16_0)))))
  (.region [⟨(some 80), .bin true .other .add (.t 23) (.v (.lit (.int .i64 1))), none⟩,
 ⟨(some 23), .move (.t 80), none⟩])))))))
  (.seq (.seq (.region [⟨(some 81), .move (.t 3), none⟩,
 ⟨(some 82), .bin true .other .gtr (.t 81) (.v (.lit (.int .i64 0))), none⟩])
  (.cond (.t 82)
    (.region [⟨(some 83), .load (.t 4) 1 false, none⟩,
      ⟨(some 84), .call (.v (.func (.func 54) [] [])) [(.t 83)], none⟩])
    (.skip)))
  (.seq (.region [⟨(some 85), .load (.t 4) 1 false, none⟩,
 ⟨(some 2), .move (.t 85), none⟩])
  (.ret))))))
theorem xf16 : xfunc Tryz.prog 16 = some ⟨xn16, xr16, xc16⟩ := by kernel_rfl
noncomputable def xn17 : Nat := 94
noncomputable def xr17 : List XRes := [.tmp 2]
noncomputable def xc17 : XCode := .seq (.region [⟨(some 2), .move (.v (.lit (.pointer none))), none⟩])
  (.seq (.region [⟨(some 12), .buildSlice [(.lit (.int .i64 0))] 1 [(0, (.v (.lit (.int .i64 (-1)))))], none⟩,
 ⟨(some 13), .move (.t 0), none⟩,
 ⟨(some 14), .call (.v (.func (.func 56) [] [])) [(.t 13)], none⟩,
 ⟨(some 15), .call (.v (.func (.func 55) [] [])) [(.t 12), (.t 14)], none⟩,
 ⟨(some 16), .buildSlice [(.lit (.int .i64 0))] 1 [(0, (.v (.lit (.int .i64 (-1)))))], none⟩,
 ⟨(some 17), .move (.t 0), none⟩,
 ⟨(some 18), .call (.v (.func (.func 56) [] [])) [(.t 17)], none⟩,
 ⟨(some 19), .call (.v (.func (.func 55) [] [])) [(.t 16), (.t 18)], none⟩,
 ⟨(some 20), .build [(.lit (.slice none 0 0)), (.lit (.slice none 0 0)), (.lit (.slice none 0 0))] [(0, 1), (1, 1), (2, 1)] [(0, (.t 15)), (1, (.t 19)), (2, (.v (.lit (.slice none 0 0))))], none⟩,
 ⟨(some 21), .box (.t 20), none⟩,
 ⟨(some 3), .alloc [(.lit (.pointer none))], none⟩,
 ⟨none, .store (.t 3) (.t 21) 1, none⟩])
  (.seq (.region [⟨(some 22), .move (.t 0), none⟩,
 ⟨(some 23), .call (.v (.func (.func 57) [] [])) [(.t 22)], none⟩,
 ⟨(some 4), .move (.t 23), none⟩])
  (.seq (.seq (.region [⟨(some 24), .move (.t 4), none⟩,
 ⟨(some 25), .len .slice (.t 24), none⟩,
 ⟨(some 26), .move (.v (.lit (.int .i64 0))), none⟩])
  (.block 0 (.loop (.seq (.region [⟨(some 27), .bin false .other .lss (.t 26) (.t 25), none⟩])
  (.seq (.cond (.t 27)
    (.skip)
    (.exit 0))
  (.seq (.block 1 (.seq (.region [⟨(some 28), .move (.t 26), none⟩,
 ⟨(some 29), .indexAddr (.t 24) (.t 26) 1, none⟩,
 ⟨(some 30), .load (.t 29) 1 false, none⟩,
 ⟨(some 5), .move (.t 28), none⟩,
 ⟨(some 6), .move (.t 30), none⟩])
  (.region [⟨(some 31), .load (.t 3) 1 false, none⟩,
 ⟨(some 32), .nilCheck (.t 31), none⟩,
 ⟨(some 33), .fieldAddr (.t 32) 1, none⟩,
 ⟨(some 34), .load (.t 33) 1 false, none⟩,
 ⟨(some 35), .move (.t 6), none⟩,
 ⟨(some 36), .move (.t 5), none⟩,
 ⟨(some 37), .indexAddr (.t 34) (.t 35) 1, none⟩,
 ⟨none, .store (.t 37) (.t 36) 1, none⟩])))
  (.region [⟨(some 38), .bin true .other .add (.t 26) (.v (.lit (.int .i64 1))), none⟩,
 ⟨(some 26), .move (.t 38), none⟩])))))))
  (.seq (.seq (.region [⟨(some 39), .move (.t 4), none⟩,
 ⟨(some 40), .len .slice (.t 39), none⟩,
 ⟨(some 41), .bin true .other .gtr (.t 40) (.v (.lit (.int .i64 1))), none⟩,
 ⟨(some 7), .move (.t 41), none⟩])
  (.block 2 (.loop (.seq (.seq (.region [⟨(some 42), .move (.t 7), none⟩])
  (.cond (.t 42)
    (.skip)
    (.exit 2)))
  (.block 3 (.seq (.region [⟨(some 7), .move (.v (.lit (.bool false))), none⟩])
  (.seq (.region [⟨(some 43), .move (.t 4), none⟩,
 ⟨(some 44), .slice false (.t 43) (some (.v (.lit (.int .i64 1)))) none 1, none⟩,
 ⟨(some 45), .len .slice (.t 44), none⟩,
 ⟨(some 46), .move (.v (.lit (.int .i64 0))), none⟩])
  (.block 4 (.loop (.seq (.region [⟨(some 47), .bin false .other .lss (.t 46) (.t 45), none⟩])
  (.seq (.cond (.t 47)
    (.skip)
    (.exit 4))
  (.seq (.block 5 (.seq (.region [⟨(some 48), .indexAddr (.t 44) (.t 46) 1, none⟩,
 ⟨(some 49), .load (.t 48) 1 false, none⟩,
 ⟨(some 9), .move (.t 49), none⟩])
  (.seq (.draw [⟨.read, 0, 1⟩, ⟨.pure, 0, 0⟩, ⟨.pure, 0, 0⟩, ⟨.eff, 0, 1⟩, ⟨.eff, 1, 2⟩, ⟨.pure, 2, 2⟩] [⟨(some 50), .load (.t 3) 1 false, none⟩,
 ⟨(some 51), .move (.t 0), none⟩,
 ⟨(some 52), .move (.t 9), none⟩,
 ⟨(some 53), .call (.v (.func (.func 22) [] [])) [(.t 51), (.t 52)], none⟩,
 ⟨(some 54), .call (.v (.func (.func 58) [] [])) [(.t 50), (.t 53)], none⟩,
 ⟨(some 10), .move (.t 54), none⟩])
  (.seq (.region [⟨(some 55), .move (.t 10), none⟩,
 ⟨(some 56), .load (.t 3) 1 false, none⟩,
 ⟨(some 57), .nilCheck (.t 56), none⟩,
 ⟨(some 58), .fieldAddr (.t 57) 0, none⟩,
 ⟨(some 59), .load (.t 58) 1 false, none⟩,
 ⟨(some 60), .move (.t 9), none⟩,
 ⟨(some 61), .indexAddr (.t 59) (.t 60) 1, none⟩,
 ⟨(some 62), .load (.t 61) 1 false, none⟩,
 ⟨(some 63), .bin false .other .neq (.t 55) (.t 62), none⟩])
  (.cond (.t 63)
    (.seq (.region [⟨(some 64), .load (.t 3) 1 false, none⟩,
      ⟨(some 65), .nilCheck (.t 64), none⟩,
      ⟨(some 66), .fieldAddr (.t 65) 0, none⟩,
      ⟨(some 67), .load (.t 66) 1 false, none⟩,
      ⟨(some 68), .move (.t 9), none⟩,
      ⟨(some 69), .move (.t 10), none⟩,
      ⟨(some 70), .indexAddr (.t 67) (.t 68) 1, none⟩,
      ⟨none, .store (.t 70) (.t 69) 1, none⟩])
    (.region [⟨(some 7), .move (.v (.lit (.bool true))), none⟩]))
    (.skip))))))
  (.region [⟨(some 71), .bin true .other .add (.t 46) (.v (.lit (.int .i64 1))), none⟩,
 ⟨(some 46), .move (.t 71), none⟩])))))))))))))
  (.seq (.seq (.region [⟨(some 72), .move (.t 0), none⟩,
 ⟨(some 73), .call (.v (.func (.func 56) [] [])) [(.t 72)], none⟩,
 ⟨(some 74), .move (.v (.lit (.int .i64 0))), none⟩])
  (.block 6 (.loop (.seq (.region [⟨(some 75), .bin false .other .lss (.t 74) (.t 73), none⟩])
  (.seq (.cond (.t 75)
    (.skip)
    (.exit 6))
  (.seq (.block 7 (.seq (.region [⟨(some 76), .move (.t 74), none⟩,
 ⟨(some 11), .alloc [(.lit (.int .i64 0))], none⟩,
 ⟨none, .store (.t 11) (.t 76) 1, none⟩])
  (.seq (.region [⟨(some 77), .move (.t 0), none⟩,
 ⟨(some 78), .load (.t 11) 1 false, none⟩,
 ⟨(some 79), .call (.v (.func (.func 22) [] [])) [(.t 77), (.t 78)], none⟩,
 ⟨(some 80), .func (.func 60) [] [(.t 3), (.t 11)], none⟩,
 ⟨(some 81), .call (.v (.func (.func 59) [] [])) [(.t 79), (.t 80)], none⟩])
  (.cond (.t 81)
    (.draw [⟨.read, 0, 1⟩, ⟨.read, 0, 0⟩, ⟨.pure, 0, 0⟩, ⟨.pure, 0, 0⟩, ⟨.read, 0, 0⟩, ⟨.read, 0, 0⟩, ⟨.fresh, 0, 0⟩, ⟨.eff, 0, 1⟩, ⟨.pure, 1, 1⟩, ⟨.pure, 1, 1⟩, ⟨.eff, 1, 2⟩] [⟨(some 82), .load (.t 3) 1 false, none⟩,
      ⟨(some 83), .load (.t 3) 1 false, none⟩,
      ⟨(some 84), .nilCheck (.t 83), none⟩,
      ⟨(some 85), .fieldAddr (.t 84) 2, none⟩,
      ⟨(some 86), .load (.t 85) 1 false, none⟩,
      ⟨(some 87), .load (.t 11) 1 false, none⟩,
      ⟨(some 88), .buildSlice [(.lit (.int .i64 0))] 1 [(0, (.t 87))], none⟩,
      ⟨(some 89), .append 1 (.t 86) (.t 88), none⟩,
      ⟨(some 90), .nilCheck (.t 82), none⟩,
      ⟨(some 91), .fieldAddr (.t 90) 2, none⟩,
      ⟨none, .store (.t 91) (.t 89) 1, none⟩])
    (.skip)))))
  (.region [⟨(some 92), .bin true .other .add (.t 74) (.v (.lit (.int .i64 1))), none⟩,
 ⟨(some 74), .move (.t 92), none⟩])))))))
  (.seq (.region [⟨(some 93), .load (.t 3) 1 false, none⟩,
 ⟨(some 2), .move (.t 93), none⟩])
  (.ret)))))))
theorem xf17 : xfunc Tryz.prog 17 = some ⟨xn17, xr17, xc17⟩ := by kernel_rfl
noncomputable def xn18 : Nat := 6
noncomputable def xr18 : List XRes := [.tmp 4]
noncomputable def xc18 : XCode := .seq (.region [⟨(some 2), .box (.t 0), none⟩,
 ⟨(some 3), .box (.t 1), none⟩,
 ⟨(some 4), .move (.v (.lit .nilFunc)), none⟩])
  (.seq (.region [⟨(some 5), .func (.func 61) [] [(.t 2), (.t 3)], none⟩,
 ⟨(some 4), .move (.t 5), none⟩])
  (.ret))
theorem xf18 : xfunc Tryz.prog 18 = some ⟨xn18, xr18, xc18⟩ := by kernel_rfl
noncomputable def xn19 : Nat := 15
noncomputable def xr19 : List XRes := [.cell 6 1 false]
noncomputable def xa19_0 : XCode := .region [⟨(some 7), .move (.t 11), none⟩]
noncomputable def xb19_0 : XCode := .block 1 (.seq (.region [⟨(some 12), .move (.t 7), none⟩,
 ⟨(some 13), .load (.t 4) 1 false, none⟩,
 ⟨(some 14), .bin false .other .eql (.t 12) (.t 13), none⟩])
  (.cond (.t 14)
    (.seq (.region [⟨none, .store (.t 6) (.v (.lit (.bool true))) 1, none⟩])
    (.ret))
    (.skip)))
theorem xaf19_0 : xcomp Tryz.prog 15 (bodyAt Tryz.prog 19 [1, 0, 1, 0, 0]) = some xa19_0 := by kernel_rfl
theorem xbf19_0 : xcomp Tryz.prog 15 (bodyAt Tryz.prog 19 [1, 0, 1, 0, 1]) = some xb19_0 := by kernel_rfl
noncomputable def xc19 : XCode := .seq (.region [⟨(some 4), .box (.t 1), none⟩,
 ⟨(some 6), .alloc [(.lit (.bool false))], none⟩])
  (.seq (.seq (.region [⟨(some 8), .move (.t 0), none⟩,
 ⟨(some 9), .move (.t 2), none⟩,
 ⟨(some 10), .call (.v (.func (.func 18) [] [])) [(.t 8), (.t 9)], none⟩])
  (.block 0 (.range (.t 10) #[11] (bodyAt Tryz.prog 19 [1, 0, 1, 0, 0]) (bodyAt Tryz.prog 19 [1, 0, 1, 0, 1]) xa19_0 xb19_0)))
  (.seq (.region [⟨none, .store (.t 6) (.v (.lit (.bool false))) 1, none⟩])
  (.ret)))
theorem xf19 : xfunc Tryz.prog 19 = some ⟨xn19, xr19, xc19⟩ := by kernel_rfl
noncomputable def xn20 : Nat := 25
noncomputable def xr20 : List XRes := [.tmp 4]
noncomputable def xc20 : XCode := .seq (.region [⟨(some 4), .move (.v (.lit (.bool false))), none⟩])
  (.seq (.region [⟨(some 5), .move (.t 1), none⟩,
 ⟨(some 6), .bin true .other .geq (.t 5) (.v (.lit (.int .i64 0))), none⟩,
 ⟨(some 7), .move (.t 6), none⟩,
 ⟨(some 8), .move (.t 1), some (7, true)⟩,
 ⟨(some 9), .move (.t 0), some (7, true)⟩,
 ⟨(some 10), .nilCheck (.t 9), some (7, true)⟩,
 ⟨(some 11), .fieldAddr (.t 10) 3, some (7, true)⟩,
 ⟨(some 12), .load (.t 11) 1 false, some (7, true)⟩,
 ⟨(some 13), .len .slice (.t 12), some (7, true)⟩,
 ⟨(some 14), .bin false .other .lss (.t 8) (.t 13), some (7, true)⟩,
 ⟨(some 15), .pick (.t 7) (.t 14) (.v (.lit (.bool false))), none⟩,
 ⟨(some 16), .move (.t 15), none⟩,
 ⟨(some 17), .move (.t 0), some (16, true)⟩,
 ⟨(some 18), .nilCheck (.t 17), some (16, true)⟩,
 ⟨(some 19), .fieldAddr (.t 18) 3, some (16, true)⟩,
 ⟨(some 20), .load (.t 19) 1 false, some (16, true)⟩,
 ⟨(some 21), .move (.t 1), some (16, true)⟩,
 ⟨(some 22), .indexAddr (.t 20) (.t 21) 1, some (16, true)⟩,
 ⟨(some 23), .load (.t 22) 1 false, some (16, true)⟩,
 ⟨(some 24), .pick (.t 16) (.t 23) (.v (.lit (.bool false))), none⟩,
 ⟨(some 4), .move (.t 24), none⟩])
  (.ret))
theorem xf20 : xfunc Tryz.prog 20 = some ⟨xn20, xr20, xc20⟩ := by kernel_rfl
noncomputable def xn21 : Nat := 16
noncomputable def xr21 : List XRes := [.tmp 4]
noncomputable def xc21 : XCode := .seq (.region [⟨(some 4), .move (.v (.lit (.int .i64 0))), none⟩])
  (.seq (.seq (.region [⟨(some 5), .move (.t 0), none⟩,
 ⟨(some 6), .move (.t 1), none⟩,
 ⟨(some 7), .call (.v (.func (.func 62) [] [])) [(.t 5), (.t 6)], none⟩,
 ⟨(some 8), .un .not (.t 7), none⟩])
  (.cond (.t 8)
    (.seq (.region [⟨(some 4), .move (.v (.lit (.int .i64 (-1)))), none⟩])
    (.ret))
    (.skip)))
  (.seq (.region [⟨(some 9), .move (.t 0), none⟩,
 ⟨(some 10), .nilCheck (.t 9), none⟩,
 ⟨(some 11), .fieldAddr (.t 10) 0, none⟩,
 ⟨(some 12), .load (.t 11) 1 false, none⟩,
 ⟨(some 13), .move (.t 1), none⟩,
 ⟨(some 14), .indexAddr (.t 12) (.t 13) 1, none⟩,
 ⟨(some 15), .load (.t 14) 1 false, none⟩,
 ⟨(some 4), .move (.t 15), none⟩])
  (.ret)))
theorem xf21 : xfunc Tryz.prog 21 = some ⟨xn21, xr21, xc21⟩ := by kernel_rfl
noncomputable def xn22 : Nat := 11
noncomputable def xr22 : List XRes := [.tmp 4]
noncomputable def xc22 : XCode := .seq (.region [⟨(some 4), .move (.v (.lit (.slice none 0 0))), none⟩])
  (.seq (.region [⟨(some 5), .move (.t 0), none⟩,
 ⟨(some 6), .nilCheck (.t 5), none⟩,
 ⟨(some 7), .fieldAddr (.t 6) 1, none⟩,
 ⟨(some 8), .load (.t 7) 1 false, none⟩,
 ⟨(some 9), .move (.t 1), none⟩,
 ⟨(some 10), .call (.v (.func (.func 63) [] [])) [(.t 8), (.t 9)], none⟩,
 ⟨(some 4), .move (.t 10), none⟩])
  (.ret))
theorem xf22 : xfunc Tryz.prog 22 = some ⟨xn22, xr22, xc22⟩ := by kernel_rfl
noncomputable def xn24 : Nat := 98
noncomputable def xr24 : List XRes := [.tmp 0]
noncomputable def xc24 : XCode := .seq (.region [⟨(some 0), .move (.v (.lit (.bool false))), none⟩])
  (.seq (.region [⟨(some 9), .call (.v (.func (.func 44) [] [])) [(.v (.str [102, 110, 32, 109, 97, 105, 110, 40, 41, 32, 105, 110, 116, 32, 123, 32, 108, 101, 116, 32, 120, 32, 105, 110, 116, 59, 32, 97, 58, 32, 105, 102, 32, 120, 32, 98, 32, 99, 59, 32, 98, 58, 32, 103, 111, 116, 111, 32, 100, 59, 32, 99, 58, 32, 103, 111, 116, 111, 32, 100, 59, 32, 100, 58, 32, 114, 101, 116, 117, 114, 110, 32, 120, 59, 32, 125]))], none⟩,
 ⟨(some 8), .move (.t 9), none⟩,
 ⟨(some 10), .extract (.t 8) 0, none⟩,
 ⟨(some 11), .extract (.t 8) 1, none⟩,
 ⟨(some 1), .alloc [(.lit (.slice none 0 0)), (.lit (.slice none 0 0)), (.lit (.slice none 0 0))], none⟩,
 ⟨none, .store (.t 1) (.t 10) 3, none⟩,
 ⟨(some 2), .move (.t 11), none⟩])
  (.seq (.seq (.region [⟨(some 12), .fieldAddr (.t 1) 2, none⟩,
 ⟨(some 13), .load (.t 12) 1 false, none⟩,
 ⟨(some 14), .len .slice (.t 13), none⟩,
 ⟨(some 15), .bin true .other .neq (.t 14) (.v (.lit (.int .i64 1))), none⟩])
  (.cond (.t 15)
    (.seq (.region [⟨(some 0), .move (.v (.lit (.bool false))), none⟩])
    (.ret))
    (.skip)))
  (.seq (.region [⟨(some 16), .fieldAddr (.t 1) 2, none⟩,
 ⟨(some 17), .load (.t 16) 1 false, none⟩,
 ⟨(some 18), .indexAddr (.t 17) (.v (.lit (.int .i64 0))) 6, none⟩,
 ⟨(some 19), .load (.t 18) 6 true, none⟩,
 ⟨(some 20), .call (.v (.func (.func 16) [] [])) [(.t 19)], none⟩,
 ⟨(some 3), .move (.t 20), none⟩])
  (.seq (.region [⟨(some 21), .buildSlice [(.lit (.int .i64 0))] 2 [(0, (.v (.lit (.int .i64 1)))), (1, (.v (.lit (.int .i64 2))))], none⟩,
 ⟨(some 22), .call (.v (.func (.func 37) [] [])) [(.v (.lit (.int .i64 9))), (.t 21)], none⟩,
 ⟨(some 23), .buildSlice [(.lit (.int .i64 0))] 1 [(0, (.v (.lit (.int .i64 2))))], none⟩,
 ⟨(some 24), .call (.v (.func (.func 37) [] [])) [(.v (.lit (.int .i64 9))), (.t 23)], none⟩,
 ⟨(some 25), .buildSlice [(.lit (.pointer none))] 3 [(0, (.v (.lit (.pointer none)))), (1, (.t 22)), (2, (.t 24))], none⟩,
 ⟨(some 26), .buildSlice [(.lit (.int .i64 0))] 1 [(0, (.v (.lit (.int .i64 5))))], none⟩,
 ⟨(some 27), .call (.v (.func (.func 37) [] [])) [(.v (.lit (.int .i64 9))), (.t 26)], none⟩,
 ⟨(some 28), .build [(.lit (.int .i64 0)), (.lit (.slice none 0 0)), (.lit (.slice none 0 0)), (.lit (.pointer none)), (.lit (.bool false)), (.lit (.bool false))] [(0, 1), (1, 1), (2, 1), (3, 1), (4, 1), (5, 1)] [(0, (.v (.lit (.int .i64 9)))), (1, (.t 25)), (3, (.t 27))], none⟩,
 ⟨(some 4), .alloc [(.lit (.int .i64 0)), (.lit (.slice none 0 0)), (.lit (.slice none 0 0)), (.lit (.pointer none)), (.lit (.bool false)), (.lit (.bool false))], none⟩,
 ⟨none, .store (.t 4) (.t 28) 6, none⟩])
  (.seq (.region [⟨(some 29), .move (.t 3), none⟩,
 ⟨(some 30), .load (.t 4) 6 true, none⟩,
 ⟨(some 31), .call (.v (.func (.func 27) [] [])) [(.t 29), (.t 30)], none⟩,
 ⟨(some 5), .alloc [(.lit (.slice none 0 0)), (.lit (.slice none 0 0))], none⟩,
 ⟨none, .store (.t 5) (.t 31) 2, none⟩])
  (.seq (.region [⟨(some 32), .fieldAddr (.t 4) 4, none⟩,
 ⟨none, .store (.t 32) (.v (.lit (.bool true))) 1, none⟩])
  (.seq (.region [⟨(some 33), .move (.t 3), none⟩,
 ⟨(some 34), .load (.t 4) 6 true, none⟩,
 ⟨(some 35), .call (.v (.func (.func 27) [] [])) [(.t 33), (.t 34)], none⟩,
 ⟨(some 6), .alloc [(.lit (.slice none 0 0)), (.lit (.slice none 0 0))], none⟩,
 ⟨none, .store (.t 6) (.t 35) 2, none⟩])
  (.seq (.region [⟨(some 36), .fieldAddr (.t 4) 5, none⟩,
 ⟨none, .store (.t 36) (.v (.lit (.bool true))) 1, none⟩])
  (.seq (.region [⟨(some 37), .move (.t 3), none⟩,
 ⟨(some 38), .load (.t 4) 6 true, none⟩,
 ⟨(some 39), .call (.v (.func (.func 27) [] [])) [(.t 37), (.t 38)], none⟩,
 ⟨(some 7), .alloc [(.lit (.slice none 0 0)), (.lit (.slice none 0 0))], none⟩,
 ⟨none, .store (.t 7) (.t 39) 2, none⟩])
  (.seq (.seq (.region [⟨(some 40), .fieldAddr (.t 5) 0, none⟩,
 ⟨(some 41), .load (.t 40) 1 false, none⟩,
 ⟨(some 42), .len .slice (.t 41), none⟩,
 ⟨(some 43), .bin true .other .neq (.t 42) (.v (.lit (.int .i64 4))), none⟩,
 ⟨(some 44), .move (.t 43), none⟩,
 ⟨(some 45), .fieldAddr (.t 6) 0, some (44, false)⟩,
 ⟨(some 46), .load (.t 45) 1 false, some (44, false)⟩,
 ⟨(some 47), .len .slice (.t 46), some (44, false)⟩,
 ⟨(some 48), .bin true .other .neq (.t 47) (.v (.lit (.int .i64 4))), some (44, false)⟩,
 ⟨(some 49), .pick (.t 44) (.v (.lit (.bool true))) (.t 48), none⟩,
 ⟨(some 50), .move (.t 49), none⟩,
 ⟨(some 51), .fieldAddr (.t 7) 0, some (50, false)⟩,
 ⟨(some 52), .load (.t 51) 1 false, some (50, false)⟩,
 ⟨(some 53), .len .slice (.t 52), some (50, false)⟩,
 ⟨(some 54), .bin true .other .neq (.t 53) (.v (.lit (.int .i64 4))), some (50, false)⟩,
 ⟨(some 55), .pick (.t 50) (.v (.lit (.bool true))) (.t 54), none⟩])
  (.cond (.t 55)
    (.seq (.region [⟨(some 0), .move (.v (.lit (.bool false))), none⟩])
    (.ret))
    (.skip)))
  (.seq (.region [⟨(some 56), .fieldAddr (.t 5) 0, none⟩,
 ⟨(some 57), .load (.t 56) 1 false, none⟩,
 ⟨(some 58), .indexAddr (.t 57) (.v (.lit (.int .i64 3))) 1, none⟩,
 ⟨(some 59), .load (.t 58) 1 false, none⟩,
 ⟨(some 60), .call (.v (.func (.func 31) [] [])) [(.t 59)], none⟩,
 ⟨(some 61), .buildSlice [(.lit (.int .i64 0))] 3 [(0, (.v (.lit (.int .i64 1)))), (1, (.v (.lit (.int .i64 2)))), (2, (.v (.lit (.int .i64 5))))], none⟩,
 ⟨(some 62), .call (.v (.func (.func 30) [] [])) [(.t 60), (.t 61)], none⟩,
 ⟨(some 63), .move (.t 62), none⟩,
 ⟨(some 64), .fieldAddr (.t 6) 0, some (63, true)⟩,
 ⟨(some 65), .load (.t 64) 1 false, some (63, true)⟩,
 ⟨(some 66), .indexAddr (.t 65) (.v (.lit (.int .i64 3))) 1, some (63, true)⟩,
 ⟨(some 67), .load (.t 66) 1 false, some (63, true)⟩,
 ⟨(some 68), .call (.v (.func (.func 31) [] [])) [(.t 67)], some (63, true)⟩,
 ⟨(some 69), .buildSlice [(.lit (.int .i64 0))] 2 [(0, (.v (.lit (.int .i64 2)))), (1, (.v (.lit (.int .i64 5))))], some (63, true)⟩,
 ⟨(some 70), .call (.v (.func (.func 30) [] [])) [(.t 68), (.t 69)], some (63, true)⟩,
 ⟨(some 71), .pick (.t 63) (.t 70) (.v (.lit (.bool false))), none⟩,
 ⟨(some 72), .move (.t 71), none⟩,
 ⟨(some 73), .fieldAddr (.t 7) 0, some (72, true)⟩,
 ⟨(some 74), .load (.t 73) 1 false, some (72, true)⟩,
 ⟨(some 75), .indexAddr (.t 74) (.v (.lit (.int .i64 0))) 1, some (72, true)⟩,
 ⟨(some 76), .load (.t 75) 1 false, some (72, true)⟩,
 ⟨(some 77), .call (.v (.func (.func 31) [] [])) [(.t 76)], some (72, true)⟩,
 ⟨(some 78), .buildSlice [(.lit (.int .i64 0))] 2 [(0, (.v (.lit (.int .i64 2)))), (1, (.v (.lit (.int .i64 5))))], some (72, true)⟩,
 ⟨(some 79), .call (.v (.func (.func 30) [] [])) [(.t 77), (.t 78)], some (72, true)⟩,
 ⟨(some 80), .pick (.t 72) (.t 79) (.v (.lit (.bool false))), none⟩,
 ⟨(some 81), .move (.t 80), none⟩,
 ⟨(some 82), .load (.t 4) 6 true, some (81, true)⟩,
 ⟨(some 83), .call (.v (.func (.func 28) [] [])) [(.t 82)], some (81, true)⟩,
 ⟨(some 84), .pick (.t 81) (.t 83) (.v (.lit (.bool false))), none⟩,
 ⟨(some 85), .move (.t 84), none⟩,
 ⟨(some 86), .build [(.lit (.int .i64 0)), (.lit (.slice none 0 0)), (.lit (.slice none 0 0)), (.lit (.pointer none)), (.lit (.bool false)), (.lit (.bool false))] [(0, 1), (1, 1), (2, 1), (3, 1), (4, 1), (5, 1)] [(0, (.v (.lit (.int .i64 (-1)))))], some (85, true)⟩,
 ⟨(some 87), .call (.v (.func (.func 28) [] [])) [(.t 86)], some (85, true)⟩,
 ⟨(some 88), .un .not (.t 87), some (85, true)⟩,
 ⟨(some 89), .pick (.t 85) (.t 88) (.v (.lit (.bool false))), none⟩,
 ⟨(some 90), .move (.t 89), none⟩,
 ⟨(some 91), .move (.t 3), some (90, true)⟩,
 ⟨(some 92), .build [(.lit (.int .i64 0)), (.lit (.slice none 0 0)), (.lit (.slice none 0 0)), (.lit (.pointer none)), (.lit (.bool false)), (.lit (.bool false))] [(0, 1), (1, 1), (2, 1), (3, 1), (4, 1), (5, 1)] [(0, (.v (.lit (.int .i64 (-1)))))], some (90, true)⟩,
 ⟨(some 93), .call (.v (.func (.func 27) [] [])) [(.t 91), (.t 92)], some (90, true)⟩,
 ⟨(some 94), .field (.t 93) 0 1 false, some (90, true)⟩,
 ⟨(some 95), .len .slice (.t 94), some (90, true)⟩,
 ⟨(some 96), .bin true .other .eql (.t 95) (.v (.lit (.int .i64 0))), some (90, true)⟩,
 ⟨(some 97), .pick (.t 90) (.t 96) (.v (.lit (.bool false))), none⟩,
 ⟨(some 0), .move (.t 97), none⟩])
  (.ret))))))))))))
theorem xf24 : xfunc Tryz.prog 24 = some ⟨xn24, xr24, xc24⟩ := by kernel_rfl
noncomputable def xn27 : Nat := 86
noncomputable def xr27 : List XRes := [.cell 4 2 true]
noncomputable def xa27_0 : XCode := .region [⟨(some 6), .move (.t 33), none⟩]
noncomputable def xb27_0 : XCode := .block 1 (.region [⟨(some 34), .load (.t 5) 1 false, none⟩,
 ⟨(some 35), .nilCheck (.t 34), none⟩,
 ⟨(some 36), .fieldAddr (.t 35) 8, none⟩,
 ⟨(some 37), .load (.t 36) 1 false, none⟩,
 ⟨(some 38), .move (.t 6), none⟩,
 ⟨(some 39), .indexAddr (.t 37) (.t 38) 1, none⟩,
 ⟨(some 40), .load (.t 39) 1 false, none⟩,
 ⟨(some 41), .call (.v (.func (.func 36) [] [])) [(.t 40)], none⟩])
theorem xaf27_0 : xcomp Tryz.prog 86 (bodyAt Tryz.prog 27 [1, 1, 1, 0, 1, 0, 1, 0, 0]) = some xa27_0 := by kernel_rfl
theorem xbf27_0 : xcomp Tryz.prog 86 (bodyAt Tryz.prog 27 [1, 1, 1, 0, 1, 0, 1, 0, 1]) = some xb27_0 := by kernel_rfl
noncomputable def xa27_1 : XCode := .region [⟨(some 8), .move (.t 47), none⟩]
noncomputable def xb27_1 : XCode := .block 5 (.seq (.draw [⟨.read, 0, 1⟩, ⟨.pure, 0, 1⟩, ⟨.pure, 0, 1⟩, ⟨.read, 0, 1⟩, ⟨.pure, 0, 1⟩, ⟨.read, 0, 0⟩, ⟨.pure, 0, 0⟩, ⟨.eff, 0, 1⟩, ⟨.pure, 1, 1⟩, ⟨.eff, 1, 2⟩] [⟨(some 48), .load (.t 5) 1 false, none⟩,
 ⟨(some 49), .nilCheck (.t 48), none⟩,
 ⟨(some 50), .fieldAddr (.t 49) 7, none⟩,
 ⟨(some 51), .load (.t 50) 1 false, none⟩,
 ⟨(some 52), .move (.t 8), none⟩,
 ⟨(some 53), .load (.t 5) 1 false, none⟩,
 ⟨(some 54), .move (.t 8), none⟩,
 ⟨(some 55), .call (.v (.func (.func 68) [] [])) [(.t 53), (.t 54)], none⟩,
 ⟨(some 56), .indexAddr (.t 51) (.t 52) 1, none⟩,
 ⟨none, .store (.t 56) (.t 55) 1, none⟩])
  (.region [⟨(some 57), .load (.t 5) 1 false, none⟩,
 ⟨(some 58), .move (.t 8), none⟩,
 ⟨(some 59), .call (.v (.func (.func 69) [] [])) [(.t 57), (.t 58)], none⟩,
 ⟨(some 60), .move (.t 59), none⟩,
 ⟨(some 61), .load (.t 7) 1 false, some (60, false)⟩,
 ⟨(some 62), .pick (.t 60) (.v (.lit (.bool true))) (.t 61), none⟩,
 ⟨none, .store (.t 7) (.t 62) 1, none⟩]))
theorem xaf27_1 : xcomp Tryz.prog 86 (bodyAt Tryz.prog 27 [1, 1, 1, 1, 0, 1, 0, 0, 1, 0, 0, 1, 1, 0, 0]) = some xa27_1 := by kernel_rfl
theorem xbf27_1 : xcomp Tryz.prog 86 (bodyAt Tryz.prog 27 [1, 1, 1, 1, 0, 1, 0, 0, 1, 0, 0, 1, 1, 0, 1]) = some xb27_1 := by kernel_rfl
noncomputable def xc27 : XCode := .seq (.region [⟨(some 3), .box (.t 1), none⟩,
 ⟨(some 4), .alloc [(.lit (.slice none 0 0)), (.lit (.slice none 0 0))], none⟩])
  (.seq (.seq (.region [⟨(some 9), .load (.t 3) 6 true, none⟩,
 ⟨(some 10), .call (.v (.func (.func 28) [] [])) [(.t 9)], none⟩,
 ⟨(some 11), .un .not (.t 10), none⟩])
  (.cond (.t 11)
    (.seq (.region [⟨(some 12), .build [(.lit (.slice none 0 0)), (.lit (.slice none 0 0))] [(0, 1), (1, 1)] [], none⟩,
      ⟨none, .store (.t 4) (.t 12) 2, none⟩])
    (.ret))
    (.skip)))
  (.seq (.draw [⟨.read, 0, 4⟩, ⟨.pure, 0, 4⟩, ⟨.pure, 0, 0⟩, ⟨.eff, 0, 1⟩, ⟨.pure, 0, 1⟩, ⟨.read, 0, 1⟩, ⟨.eff, 1, 2⟩, ⟨.pure, 0, 2⟩, ⟨.eff, 2, 3⟩, ⟨.pure, 0, 3⟩, ⟨.read, 0, 3⟩, ⟨.eff, 3, 4⟩, ⟨.pure, 4, 4⟩, ⟨.fresh, 4, 4⟩, ⟨.fresh, 0, 4⟩, ⟨.eff, 4, 5⟩] [⟨(some 13), .load (.t 3) 6 true, none⟩,
 ⟨(some 14), .move (.t 0), none⟩,
 ⟨(some 15), .move (.t 0), none⟩,
 ⟨(some 16), .call (.v (.func (.func 56) [] [])) [(.t 15)], none⟩,
 ⟨(some 17), .fieldAddr (.t 3) 0, none⟩,
 ⟨(some 18), .load (.t 17) 1 false, none⟩,
 ⟨(some 19), .call (.v (.func (.func 66) [] [])) [(.t 16), (.t 18)], none⟩,
 ⟨(some 20), .move (.t 0), none⟩,
 ⟨(some 21), .call (.v (.func (.func 56) [] [])) [(.t 20)], none⟩,
 ⟨(some 22), .fieldAddr (.t 3) 0, none⟩,
 ⟨(some 23), .load (.t 22) 1 false, none⟩,
 ⟨(some 24), .call (.v (.func (.func 66) [] [])) [(.t 21), (.t 23)], none⟩,
 ⟨(some 25), .build [(.lit (.int .i64 0)), (.lit (.slice none 0 0)), (.lit (.slice none 0 0)), (.lit (.pointer none)), (.lit (.bool false)), (.lit (.bool false)), (.lit (.pointer none)), (.lit (.slice none 0 0)), (.lit (.slice none 0 0))] [(0, 6), (6, 1), (7, 1), (8, 1)] [(0, (.t 13)), (1, (.t 14)), (2, (.t 19)), (3, (.t 24))], none⟩,
 ⟨(some 26), .box (.t 25), none⟩,
 ⟨(some 5), .alloc [(.lit (.pointer none))], none⟩,
 ⟨none, .store (.t 5) (.t 26) 1, none⟩])
  (.seq (.seq (.region [⟨(some 27), .fieldAddr (.t 3) 4, none⟩,
 ⟨(some 28), .load (.t 27) 1 false, none⟩])
  (.cond (.t 28)
    (.seq (.region [⟨(some 29), .move (.t 0), none⟩,
      ⟨(some 30), .fieldAddr (.t 3) 5, none⟩,
      ⟨(some 31), .load (.t 30) 1 false, none⟩,
      ⟨(some 32), .call (.v (.func (.func 67) [] [])) [(.t 29), (.t 31)], none⟩])
    (.block 0 (.range (.t 32) #[33] (bodyAt Tryz.prog 27 [1, 1, 1, 0, 1, 0, 1, 0, 0]) (bodyAt Tryz.prog 27 [1, 1, 1, 0, 1, 0, 1, 0, 1]) xa27_0 xb27_0)))
    (.skip)))
  (.seq (.seq (.region [⟨(some 7), .alloc [(.lit (.bool false))], none⟩,
 ⟨none, .store (.t 7) (.v (.lit (.bool true))) 1, none⟩])
  (.block 2 (.loop (.seq (.seq (.region [⟨(some 42), .load (.t 7) 1 false, none⟩])
  (.cond (.t 42)
    (.skip)
    (.exit 2)))
  (.seq (.block 3 (.seq (.region [⟨none, .store (.t 7) (.v (.lit (.bool false))) 1, none⟩])
  (.seq (.region [⟨(some 43), .move (.t 0), none⟩,
 ⟨(some 44), .fieldAddr (.t 3) 5, none⟩,
 ⟨(some 45), .load (.t 44) 1 false, none⟩,
 ⟨(some 46), .call (.v (.func (.func 67) [] [])) [(.t 43), (.t 45)], none⟩])
  (.block 4 (.range (.t 46) #[47] (bodyAt Tryz.prog 27 [1, 1, 1, 1, 0, 1, 0, 0, 1, 0, 0, 1, 1, 0, 0]) (bodyAt Tryz.prog 27 [1, 1, 1, 1, 0, 1, 0, 0, 1, 0, 0, 1, 1, 0, 1]) xa27_1 xb27_1)))))
  (.seq (.region [⟨(some 63), .load (.t 7) 1 false, none⟩])
  (.region [⟨(some 7), .alloc [(.lit (.bool false))], none⟩,
 ⟨none, .store (.t 7) (.t 63) 1, none⟩])))))))
  (.seq (.seq (.region [⟨(some 64), .fieldAddr (.t 3) 5, none⟩,
 ⟨(some 65), .load (.t 64) 1 false, none⟩])
  (.cond (.t 65)
    (.seq (.region [⟨(some 66), .load (.t 5) 1 false, none⟩,
      ⟨(some 67), .nilCheck (.t 66), none⟩,
      ⟨(some 68), .fieldAddr (.t 67) 8, none⟩,
      ⟨(some 69), .load (.t 68) 1 false, none⟩,
      ⟨(some 70), .load (.t 5) 1 false, none⟩,
      ⟨(some 71), .nilCheck (.t 70), none⟩,
      ⟨(some 72), .fieldAddr (.t 71) 7, none⟩,
      ⟨(some 73), .load (.t 72) 1 false, none⟩,
      ⟨(some 74), .build [(.lit (.slice none 0 0)), (.lit (.slice none 0 0))] [(0, 1), (1, 1)] [(0, (.t 69)), (1, (.t 73))], none⟩,
      ⟨none, .store (.t 4) (.t 74) 2, none⟩])
    (.ret))
    (.skip)))
  (.seq (.draw [⟨.read, 0, 0⟩, ⟨.pure, 0, 0⟩, ⟨.pure, 0, 0⟩, ⟨.read, 0, 0⟩, ⟨.eff, 0, 1⟩, ⟨.read, 0, 1⟩, ⟨.pure, 0, 1⟩, ⟨.pure, 0, 1⟩, ⟨.read, 0, 1⟩, ⟨.eff, 1, 2⟩, ⟨.pure, 2, 2⟩, ⟨.eff, 2, 3⟩] [⟨(some 75), .load (.t 5) 1 false, none⟩,
 ⟨(some 76), .nilCheck (.t 75), none⟩,
 ⟨(some 77), .fieldAddr (.t 76) 7, none⟩,
 ⟨(some 78), .load (.t 77) 1 false, none⟩,
 ⟨(some 79), .call (.v (.func (.func 70) [] [])) [(.t 78)], none⟩,
 ⟨(some 80), .load (.t 5) 1 false, none⟩,
 ⟨(some 81), .nilCheck (.t 80), none⟩,
 ⟨(some 82), .fieldAddr (.t 81) 8, none⟩,
 ⟨(some 83), .load (.t 82) 1 false, none⟩,
 ⟨(some 84), .call (.v (.func (.func 70) [] [])) [(.t 83)], none⟩,
 ⟨(some 85), .build [(.lit (.slice none 0 0)), (.lit (.slice none 0 0))] [(0, 1), (1, 1)] [(0, (.t 79)), (1, (.t 84))], none⟩,
 ⟨none, .store (.t 4) (.t 85) 2, none⟩])
  (.ret)))))))
theorem xf27 : xfunc Tryz.prog 27 = some ⟨xn27, xr27, xc27⟩ := by kernel_rfl
noncomputable def xn28 : Nat := 11
noncomputable def xr28 : List XRes := [.tmp 2]
noncomputable def xc28 : XCode := .seq (.region [⟨(some 1), .box (.t 0), none⟩,
 ⟨(some 2), .move (.v (.lit (.bool false))), none⟩])
  (.seq (.region [⟨(some 3), .fieldAddr (.t 1) 0, none⟩,
 ⟨(some 4), .load (.t 3) 1 false, none⟩,
 ⟨(some 5), .bin true .other .geq (.t 4) (.v (.lit (.int .i64 0))), none⟩,
 ⟨(some 6), .move (.t 5), none⟩,
 ⟨(some 7), .fieldAddr (.t 1) 0, some (6, true)⟩,
 ⟨(some 8), .load (.t 7) 1 false, some (6, true)⟩,
 ⟨(some 9), .bin true .other .leq (.t 8) (.v (.lit (.int .i64 65536))), some (6, true)⟩,
 ⟨(some 10), .pick (.t 6) (.t 9) (.v (.lit (.bool false))), none⟩,
 ⟨(some 2), .move (.t 10), none⟩])
  (.ret))
theorem xf28 : xfunc Tryz.prog 28 = some ⟨xn28, xr28, xc28⟩ := by kernel_rfl
noncomputable def xn30 : Nat := 26
noncomputable def xr30 : List XRes := [.tmp 4]
noncomputable def xc30 : XCode := .seq (.region [⟨(some 4), .move (.v (.lit (.bool false))), none⟩])
  (.seq (.seq (.region [⟨(some 6), .move (.t 0), none⟩,
 ⟨(some 7), .len .slice (.t 6), none⟩,
 ⟨(some 8), .move (.t 1), none⟩,
 ⟨(some 9), .len .slice (.t 8), none⟩,
 ⟨(some 10), .bin false .other .neq (.t 7) (.t 9), none⟩])
  (.cond (.t 10)
    (.seq (.region [⟨(some 4), .move (.v (.lit (.bool false))), none⟩])
    (.ret))
    (.skip)))
  (.seq (.seq (.region [⟨(some 5), .move (.v (.lit (.int .i64 0))), none⟩])
  (.block 0 (.loop (.seq (.seq (.region [⟨(some 11), .move (.t 5), none⟩,
 ⟨(some 12), .move (.t 0), none⟩,
 ⟨(some 13), .len .slice (.t 12), none⟩,
 ⟨(some 14), .bin false .other .lss (.t 11) (.t 13), none⟩])
  (.cond (.t 14)
    (.skip)
    (.exit 0)))
  (.seq (.block 1 (.seq (.region [⟨(some 17), .move (.t 0), none⟩,
 ⟨(some 18), .move (.t 5), none⟩,
 ⟨(some 19), .indexAddr (.t 17) (.t 18) 1, none⟩,
 ⟨(some 20), .load (.t 19) 1 false, none⟩,
 ⟨(some 21), .move (.t 1), none⟩,
 ⟨(some 22), .move (.t 5), none⟩,
 ⟨(some 23), .indexAddr (.t 21) (.t 22) 1, none⟩,
 ⟨(some 24), .load (.t 23) 1 false, none⟩,
 ⟨(some 25), .bin false .other .neq (.t 20) (.t 24), none⟩])
  (.cond (.t 25)
    (.seq (.region [⟨(some 4), .move (.v (.lit (.bool false))), none⟩])
    (.ret))
    (.skip))))
  (.region [⟨(some 15), .move (.t 5), none⟩,
 ⟨(some 16), .bin true .other .add (.t 15) (.v (.lit (.int .i64 1))), none⟩,
 ⟨(some 5), .move (.t 16), none⟩]))))))
  (.seq (.region [⟨(some 4), .move (.v (.lit (.bool true))), none⟩])
  (.ret))))
theorem xf30 : xfunc Tryz.prog 30 = some ⟨xn30, xr30, xc30⟩ := by kernel_rfl
noncomputable def xn31 : Nat := 19
noncomputable def xr31 : List XRes := [.tmp 2]
noncomputable def xa31_0 : XCode := .region [⟨(some 4), .move (.t 13), none⟩]
noncomputable def xb31_0 : XCode := .block 1 (.region [⟨(some 14), .load (.t 3) 1 false, none⟩,
 ⟨(some 15), .move (.t 4), none⟩,
 ⟨(some 16), .buildSlice [(.lit (.int .i64 0))] 1 [(0, (.t 15))], none⟩,
 ⟨(some 17), .append 1 (.t 14) (.t 16), none⟩,
 ⟨none, .store (.t 3) (.t 17) 1, none⟩])
theorem xaf31_0 : xcomp Tryz.prog 19 (bodyAt Tryz.prog 31 [1, 1, 1, 0, 1, 0, 0]) = some xa31_0 := by kernel_rfl
theorem xbf31_0 : xcomp Tryz.prog 19 (bodyAt Tryz.prog 31 [1, 1, 1, 0, 1, 0, 1]) = some xb31_0 := by kernel_rfl
noncomputable def xc31 : XCode := .seq (.region [⟨(some 2), .move (.v (.lit (.slice none 0 0))), none⟩])
  (.seq (.region [⟨(some 5), .buildSlice [(.lit (.int .i64 0))] 0 [], none⟩,
 ⟨(some 3), .alloc [(.lit (.slice none 0 0))], none⟩,
 ⟨none, .store (.t 3) (.t 5) 1, none⟩])
  (.seq (.seq (.region [⟨(some 6), .move (.t 0), none⟩,
 ⟨(some 7), .bin true .ptr .eql (.t 6) (.v (.lit (.pointer none))), none⟩])
  (.cond (.t 7)
    (.seq (.region [⟨(some 8), .load (.t 3) 1 false, none⟩,
      ⟨(some 9), .buildSlice [(.lit (.int .i64 0))] 1 [(0, (.v (.lit (.int .i64 (-1)))))], none⟩,
      ⟨(some 10), .append 1 (.t 8) (.t 9), none⟩,
      ⟨(some 2), .move (.t 10), none⟩])
    (.ret))
    (.skip)))
  (.seq (.seq (.region [⟨(some 11), .move (.t 0), none⟩,
 ⟨(some 12), .call (.v (.func (.func 33) [] [])) [(.t 11)], none⟩])
  (.block 0 (.range (.t 12) #[13] (bodyAt Tryz.prog 31 [1, 1, 1, 0, 1, 0, 0]) (bodyAt Tryz.prog 31 [1, 1, 1, 0, 1, 0, 1]) xa31_0 xb31_0)))
  (.seq (.region [⟨(some 18), .load (.t 3) 1 false, none⟩,
 ⟨(some 2), .move (.t 18), none⟩])
  (.ret)))))
theorem xf31 : xfunc Tryz.prog 31 = some ⟨xn31, xr31, xc31⟩ := by kernel_rfl
noncomputable def xn33 : Nat := 4
noncomputable def xr33 : List XRes := [.tmp 2]
noncomputable def xc33 : XCode := .seq (.region [⟨(some 1), .box (.t 0), none⟩,
 ⟨(some 2), .move (.v (.lit .nilFunc)), none⟩])
  (.seq (.region [⟨(some 3), .func (.func 78) [] [(.t 1)], none⟩,
 ⟨(some 2), .move (.t 3), none⟩])
  (.ret))
theorem xf33 : xfunc Tryz.prog 33 = some ⟨xn33, xr33, xc33⟩ := by kernel_rfl
noncomputable def xn34 : Nat := 23
noncomputable def xr34 : List XRes := [.tmp 4]
noncomputable def xc34 : XCode := .seq (.region [⟨(some 4), .move (.v (.lit (.bool false))), none⟩])
  (.seq (.region [⟨(some 5), .move (.t 0), none⟩,
 ⟨(some 6), .move (.t 1), none⟩,
 ⟨(some 7), .call (.v (.func (.func 81) [] [])) [(.t 5), (.t 6)], none⟩,
 ⟨(some 8), .move (.t 7), none⟩,
 ⟨(some 9), .move (.t 0), some (8, true)⟩,
 ⟨(some 10), .nilCheck (.t 9), some (8, true)⟩,
 ⟨(some 11), .fieldAddr (.t 10) 1, some (8, true)⟩,
 ⟨(some 12), .load (.t 11) 1 false, some (8, true)⟩,
 ⟨(some 13), .move (.t 1), some (8, true)⟩,
 ⟨(some 14), .bin true .other .quo (.t 13) (.v (.lit (.int .i64 64))), some (8, true)⟩,
 ⟨(some 15), .indexAddr (.t 12) (.t 14) 1, some (8, true)⟩,
 ⟨(some 16), .load (.t 15) 1 false, some (8, true)⟩,
 ⟨(some 17), .move (.t 1), some (8, true)⟩,
 ⟨(some 18), .bin true .other .rem (.t 17) (.v (.lit (.int .i64 64))), some (8, true)⟩,
 ⟨(some 19), .bin false .other .shr (.t 16) (.t 18), some (8, true)⟩,
 ⟨(some 20), .bin true .other .and (.t 19) (.v (.lit (.int .u64 1))), some (8, true)⟩,
 ⟨(some 21), .bin true .other .neq (.t 20) (.v (.lit (.int .u64 0))), some (8, true)⟩,
 ⟨(some 22), .pick (.t 8) (.t 21) (.v (.lit (.bool false))), none⟩,
 ⟨(some 4), .move (.t 22), none⟩])
  (.ret))
theorem xf34 : xfunc Tryz.prog 34 = some ⟨xn34, xr34, xc34⟩ := by kernel_rfl
noncomputable def xn36 : Nat := 5
noncomputable def xr36 : List XRes := []
noncomputable def xc36 : XCode := .region [⟨(some 2), .move (.t 0), none⟩,
 ⟨(some 3), .move (.t 0), none⟩,
 ⟨(some 4), .call (.v (.func (.func 83) [] [])) [(.t 2), (.t 3), (.v (.func (.func 84) [] []))], none⟩]
theorem xf36 : xfunc Tryz.prog 36 = some ⟨xn36, xr36, xc36⟩ := by kernel_rfl
noncomputable def xn37 : Nat := 30
noncomputable def xr37 : List XRes := [.tmp 4]
noncomputable def xc37 : XCode := .seq (.region [⟨(some 4), .move (.v (.lit (.pointer none))), none⟩])
  (.seq (.region [⟨(some 8), .move (.t 0), none⟩,
 ⟨(some 9), .minMax false [(.t 8), (.v (.lit (.int .i64 65536)))], none⟩,
 ⟨(some 10), .minMax true [(.v (.lit (.int .i64 0))), (.t 9)], none⟩,
 ⟨(some 0), .move (.t 10), none⟩])
  (.seq (.region [⟨(some 11), .move (.t 0), none⟩,
 ⟨(some 12), .move (.t 0), none⟩,
 ⟨(some 13), .bin true .other .add (.t 12) (.v (.lit (.int .i64 64))), none⟩,
 ⟨(some 14), .bin true .other .sub (.t 13) (.v (.lit (.int .i64 1))), none⟩,
 ⟨(some 15), .bin true .other .quo (.t 14) (.v (.lit (.int .i64 64))), none⟩,
 ⟨(some 16), .makeSlice [(.lit (.int .u64 0))] (.t 15) (.t 15), none⟩,
 ⟨(some 17), .build [(.lit (.int .i64 0)), (.lit (.slice none 0 0))] [(0, 1), (1, 1)] [(0, (.t 11)), (1, (.t 16))], none⟩,
 ⟨(some 18), .box (.t 17), none⟩,
 ⟨(some 5), .move (.t 18), none⟩])
  (.seq (.seq (.region [⟨(some 19), .move (.t 1), none⟩,
 ⟨(some 20), .len .slice (.t 19), none⟩,
 ⟨(some 21), .move (.v (.lit (.int .i64 0))), none⟩])
  (.block 0 (.loop (.seq (.region [⟨(some 22), .bin false .other .lss (.t 21) (.t 20), none⟩])
  (.seq (.cond (.t 22)
    (.skip)
    (.exit 0))
  (.seq (.block 1 (.seq (.region [⟨(some 23), .indexAddr (.t 19) (.t 21) 1, none⟩,
 ⟨(some 24), .load (.t 23) 1 false, none⟩,
 ⟨(some 7), .move (.t 24), none⟩])
  (.region [⟨(some 25), .move (.t 5), none⟩,
 ⟨(some 26), .move (.t 7), none⟩,
 ⟨(some 27), .call (.v (.func (.func 39) [] [])) [(.t 25), (.t 26)], none⟩])))
  (.region [⟨(some 28), .bin true .other .add (.t 21) (.v (.lit (.int .i64 1))), none⟩,
 ⟨(some 21), .move (.t 28), none⟩])))))))
  (.seq (.region [⟨(some 29), .move (.t 5), none⟩,
 ⟨(some 4), .move (.t 29), none⟩])
  (.ret)))))
theorem xf37 : xfunc Tryz.prog 37 = some ⟨xn37, xr37, xc37⟩ := by kernel_rfl
noncomputable def xn39 : Nat := 17
noncomputable def xr39 : List XRes := [.tmp 4]
noncomputable def xc39 : XCode := .seq (.region [⟨(some 4), .move (.v (.lit (.bool false))), none⟩])
  (.seq (.seq (.region [⟨(some 5), .move (.t 0), none⟩,
 ⟨(some 6), .move (.t 1), none⟩,
 ⟨(some 7), .call (.v (.func (.func 81) [] [])) [(.t 5), (.t 6)], none⟩,
 ⟨(some 8), .un .not (.t 7), none⟩,
 ⟨(some 9), .move (.t 8), none⟩,
 ⟨(some 10), .move (.t 0), some (9, false)⟩,
 ⟨(some 11), .move (.t 1), some (9, false)⟩,
 ⟨(some 12), .call (.v (.func (.func 34) [] [])) [(.t 10), (.t 11)], some (9, false)⟩,
 ⟨(some 13), .pick (.t 9) (.v (.lit (.bool true))) (.t 12), none⟩])
  (.cond (.t 13)
    (.seq (.region [⟨(some 4), .move (.v (.lit (.bool false))), none⟩])
    (.ret))
    (.skip)))
  (.seq (.region [⟨(some 14), .move (.t 0), none⟩,
 ⟨(some 15), .move (.t 1), none⟩,
 ⟨(some 16), .call (.v (.func (.func 85) [] [])) [(.t 14), (.t 15)], none⟩])
  (.seq (.region [⟨(some 4), .move (.v (.lit (.bool true))), none⟩])
  (.ret))))
theorem xf39 : xfunc Tryz.prog 39 = some ⟨xn39, xr39, xc39⟩ := by kernel_rfl
noncomputable def xn44 : Nat := 53
noncomputable def xr44 : List XRes := [.cell 2 3 true, .tmp 3]
noncomputable def xc44 : XCode := .seq (.region [⟨(some 2), .alloc [(.lit (.slice none 0 0)), (.lit (.slice none 0 0)), (.lit (.slice none 0 0))], none⟩,
 ⟨(some 3), .move (.v (.lit (.slice none 0 0))), none⟩])
  (.seq (.region [⟨(some 9), .move (.t 0), none⟩,
 ⟨(some 10), .call (.v (.func (.func 99) [] [])) [(.t 9)], none⟩,
 ⟨(some 8), .move (.t 10), none⟩,
 ⟨(some 11), .extract (.t 8) 0, none⟩,
 ⟨(some 12), .extract (.t 8) 1, none⟩,
 ⟨(some 5), .alloc [(.lit (.int .i64 0)), (.lit (.int .i64 0))], none⟩,
 ⟨(some 4), .move (.t 11), none⟩,
 ⟨none, .store (.t 5) (.t 12) 2, none⟩])
  (.seq (.seq (.region [⟨(some 13), .fieldAddr (.t 5) 1, none⟩,
 ⟨(some 14), .load (.t 13) 1 false, none⟩,
 ⟨(some 15), .bin true .other .neq (.t 14) (.v (.lit (.int .i64 0))), none⟩])
  (.cond (.t 15)
    (.seq (.draw [⟨.pure, 0, 0⟩, ⟨.read, 0, 1⟩, ⟨.fresh, 0, 1⟩, ⟨.eff, 0, 1⟩, ⟨.pure, 1, 1⟩] [⟨(some 16), .build [(.lit (.slice none 0 0)), (.lit (.slice none 0 0)), (.lit (.slice none 0 0))] [(0, 1), (1, 1), (2, 1)] [], none⟩,
      ⟨(some 17), .load (.t 5) 2 true, none⟩,
      ⟨(some 18), .buildSlice [(.lit (.int .i64 0)), (.lit (.int .i64 0))] 1 [(0, (.t 17))], none⟩,
      ⟨none, .store (.t 2) (.t 16) 3, none⟩,
      ⟨(some 3), .move (.t 18), none⟩])
    (.ret))
    (.skip)))
  (.seq (.region [⟨(some 19), .move (.t 4), none⟩,
 ⟨(some 20), .move (.t 0), none⟩,
 ⟨(some 21), .len .other (.t 20), none⟩,
 ⟨(some 22), .build [(.lit (.slice none 0 0)), (.lit (.int .i64 0)), (.lit (.int .i64 0)), (.lit (.int .i64 0))] [(0, 1), (1, 1), (2, 1), (3, 1)] [(0, (.t 19)), (1, (.t 21)), (2, (.v (.lit (.int .i64 (-1))))), (3, (.v (.lit (.int .i64 (-1)))))], none⟩,
 ⟨(some 23), .box (.t 22), none⟩,
 ⟨(some 6), .move (.t 23), none⟩])
  (.seq (.region [⟨(some 24), .move (.t 6), none⟩,
 ⟨(some 25), .call (.v (.func (.func 100) [] [])) [(.t 24)], none⟩,
 ⟨(some 7), .alloc [(.lit (.slice none 0 0)), (.lit (.slice none 0 0)), (.lit (.slice none 0 0))], none⟩,
 ⟨none, .store (.t 7) (.t 25) 3, none⟩])
  (.seq (.block 0 (.seq (.region [⟨(some 27), .move (.t 6), none⟩,
 ⟨(some 28), .nilCheck (.t 27), none⟩,
 ⟨(some 29), .fieldAddr (.t 28) 2, none⟩,
 ⟨(some 30), .load (.t 29) 1 false, none⟩,
 ⟨(some 31), .bin true .other .neq (.t 30) (.v (.lit (.int .i64 (-1)))), none⟩,
 ⟨(some 26), .move (.t 31), none⟩])
  (.cond (.t 26)
    (.seq (.draw [⟨.pure, 0, 0⟩, ⟨.pure, 0, 1⟩, ⟨.pure, 0, 1⟩, ⟨.pure, 0, 1⟩, ⟨.read, 0, 1⟩, ⟨.pure, 0, 1⟩, ⟨.fresh, 0, 1⟩, ⟨.eff, 0, 1⟩, ⟨.pure, 1, 1⟩] [⟨(some 32), .build [(.lit (.slice none 0 0)), (.lit (.slice none 0 0)), (.lit (.slice none 0 0))] [(0, 1), (1, 1), (2, 1)] [], none⟩,
      ⟨(some 33), .move (.t 6), none⟩,
      ⟨(some 34), .nilCheck (.t 33), none⟩,
      ⟨(some 35), .fieldAddr (.t 34) 2, none⟩,
      ⟨(some 36), .load (.t 35) 1 false, none⟩,
      ⟨(some 37), .build [(.lit (.int .i64 0)), (.lit (.int .i64 0))] [(0, 1), (1, 1)] [(0, (.t 36)), (1, (.v (.lit (.int .i64 2))))], none⟩,
      ⟨(some 38), .buildSlice [(.lit (.int .i64 0)), (.lit (.int .i64 0))] 1 [(0, (.t 37))], none⟩,
      ⟨none, .store (.t 2) (.t 32) 3, none⟩,
      ⟨(some 3), .move (.t 38), none⟩])
    (.ret))
    (.seq (.region [⟨(some 40), .move (.t 6), none⟩,
      ⟨(some 41), .nilCheck (.t 40), none⟩,
      ⟨(some 42), .fieldAddr (.t 41) 3, none⟩,
      ⟨(some 43), .load (.t 42) 1 false, none⟩,
      ⟨(some 44), .bin true .other .neq (.t 43) (.v (.lit (.int .i64 (-1)))), none⟩,
      ⟨(some 39), .move (.t 44), none⟩])
    (.cond (.t 39)
      (.seq (.draw [⟨.pure, 0, 0⟩, ⟨.pure, 0, 1⟩, ⟨.pure, 0, 1⟩, ⟨.pure, 0, 1⟩, ⟨.read, 0, 1⟩, ⟨.pure, 0, 1⟩, ⟨.fresh, 0, 1⟩, ⟨.eff, 0, 1⟩, ⟨.pure, 1, 1⟩] [⟨(some 45), .build [(.lit (.slice none 0 0)), (.lit (.slice none 0 0)), (.lit (.slice none 0 0))] [(0, 1), (1, 1), (2, 1)] [], none⟩,
        ⟨(some 46), .move (.t 6), none⟩,
        ⟨(some 47), .nilCheck (.t 46), none⟩,
        ⟨(some 48), .fieldAddr (.t 47) 3, none⟩,
        ⟨(some 49), .load (.t 48) 1 false, none⟩,
        ⟨(some 50), .build [(.lit (.int .i64 0)), (.lit (.int .i64 0))] [(0, 1), (1, 1)] [(0, (.t 49)), (1, (.v (.lit (.int .i64 3))))], none⟩,
        ⟨(some 51), .buildSlice [(.lit (.int .i64 0)), (.lit (.int .i64 0))] 1 [(0, (.t 50))], none⟩,
        ⟨none, .store (.t 2) (.t 45) 3, none⟩,
        ⟨(some 3), .move (.t 51), none⟩])
      (.ret))
      (.skip))))))
  (.seq (.region [⟨(some 52), .load (.t 7) 3 true, none⟩,
 ⟨none, .store (.t 2) (.t 52) 3, none⟩,
 ⟨(some 3), .move (.v (.lit (.slice none 0 0))), none⟩])
  (.ret)))))))
theorem xf44 : xfunc Tryz.prog 44 = some ⟨xn44, xr44, xc44⟩ := by kernel_rfl
noncomputable def xn50 : Nat := 8
noncomputable def xr50 : List XRes := [.tmp 2]
noncomputable def xc50 : XCode := .seq (.region [⟨(some 2), .move (.v (.lit (.slice none 0 0))), none⟩])
  (.seq (.region [⟨(some 3), .move (.t 0), none⟩,
 ⟨(some 4), .nilCheck (.t 3), none⟩,
 ⟨(some 5), .fieldAddr (.t 4) 2, none⟩,
 ⟨(some 6), .load (.t 5) 1 false, none⟩,
 ⟨(some 7), .call (.v (.func (.func 116) [] [])) [(.t 6)], none⟩,
 ⟨(some 2), .move (.t 7), none⟩])
  (.ret))
theorem xf50 : xfunc Tryz.prog 50 = some ⟨xn50, xr50, xc50⟩ := by kernel_rfl
noncomputable def xn51 : Nat := 4
noncomputable def xr51 : List XRes := [.tmp 2]
noncomputable def xc51 : XCode := .seq (.region [⟨(some 1), .box (.t 0), none⟩,
 ⟨(some 2), .move (.v (.lit .nilFunc)), none⟩])
  (.seq (.region [⟨(some 3), .func (.func 117) [] [(.t 1)], none⟩,
 ⟨(some 2), .move (.t 3), none⟩])
  (.ret))
theorem xf51 : xfunc Tryz.prog 51 = some ⟨xn51, xr51, xc51⟩ := by kernel_rfl
noncomputable def xn52 : Nat := 9
noncomputable def xr52 : List XRes := [.tmp 4]
noncomputable def xc52 : XCode := .seq (.region [⟨(some 2), .box (.t 0), none⟩,
 ⟨(some 3), .box (.t 1), none⟩,
 ⟨(some 4), .move (.v (.lit (.int .i64 0))), none⟩])
  (.seq (.region [⟨(some 5), .fieldAddr (.t 2) 5, none⟩,
 ⟨(some 6), .load (.t 5) 1 false, none⟩,
 ⟨(some 7), .func (.func 119) [] [(.t 3)], none⟩,
 ⟨(some 8), .call (.v (.func (.func 118) [] [])) [(.t 6), (.t 7)], none⟩,
 ⟨(some 4), .move (.t 8), none⟩])
  (.ret))
theorem xf52 : xfunc Tryz.prog 52 = some ⟨xn52, xr52, xc52⟩ := by kernel_rfl
noncomputable def xn53 : Nat := 9
noncomputable def xr53 : List XRes := [.tmp 4]
noncomputable def xc53 : XCode := .seq (.region [⟨(some 4), .move (.v (.lit (.bool false))), none⟩])
  (.seq (.region [⟨(some 5), .move (.t 0), none⟩,
 ⟨(some 6), .move (.t 1), none⟩,
 ⟨(some 7), .call (.v (.func (.func 120) [] [])) [(.t 5), (.t 6)], none⟩,
 ⟨(some 8), .bin true .other .geq (.t 7) (.v (.lit (.int .i64 0))), none⟩,
 ⟨(some 4), .move (.t 8), none⟩])
  (.ret))
theorem xf53 : xfunc Tryz.prog 53 = some ⟨xn53, xr53, xc53⟩ := by kernel_rfl
noncomputable def xn54 : Nat := 101
noncomputable def xr54 : List XRes := []
noncomputable def xc54 : XCode := .seq (.region [⟨(some 5), .build [(.lit (.int .i64 0)), (.lit (.int .i64 0))] [(0, 1), (1, 1)] [], none⟩,
 ⟨(some 6), .buildSlice [(.lit (.int .i64 0)), (.lit (.int .i64 0))] 1 [(0, (.t 5))], none⟩,
 ⟨(some 2), .move (.t 6), none⟩])
  (.seq (.region [⟨(some 7), .move (.t 0), none⟩,
 ⟨(some 8), .nilCheck (.t 7), none⟩,
 ⟨(some 9), .fieldAddr (.t 8) 3, none⟩,
 ⟨(some 10), .load (.t 9) 1 false, none⟩,
 ⟨(some 11), .indexAddr (.t 10) (.v (.lit (.int .i64 0))) 1, none⟩,
 ⟨none, .store (.t 11) (.v (.lit (.bool true))) 1, none⟩])
  (.seq (.skip)
  (.seq (.block 0 (.loop (.seq (.seq (.region [⟨(some 12), .move (.t 2), none⟩,
 ⟨(some 13), .len .slice (.t 12), none⟩,
 ⟨(some 14), .bin true .other .gtr (.t 13) (.v (.lit (.int .i64 0))), none⟩])
  (.cond (.t 14)
    (.skip)
    (.exit 0)))
  (.block 1 (.seq (.region [⟨(some 15), .move (.t 2), none⟩,
 ⟨(some 16), .move (.t 2), none⟩,
 ⟨(some 17), .len .slice (.t 16), none⟩,
 ⟨(some 18), .bin true .other .sub (.t 17) (.v (.lit (.int .i64 1))), none⟩,
 ⟨(some 19), .indexAddr (.t 15) (.t 18) 2, none⟩,
 ⟨(some 3), .move (.t 19), none⟩])
  (.seq (.block 2 (.loop (.seq (.seq (.region [⟨(some 20), .move (.t 3), none⟩,
 ⟨(some 21), .nilCheck (.t 20), none⟩,
 ⟨(some 22), .fieldAddr (.t 21) 1, none⟩,
 ⟨(some 23), .load (.t 22) 1 false, none⟩,
 ⟨(some 24), .move (.t 0), none⟩,
 ⟨(some 25), .nilCheck (.t 24), none⟩,
 ⟨(some 26), .fieldAddr (.t 25) 0, none⟩,
 ⟨(some 27), .load (.t 26) 1 false, none⟩,
 ⟨(some 28), .move (.t 3), none⟩,
 ⟨(some 29), .nilCheck (.t 28), none⟩,
 ⟨(some 30), .fieldAddr (.t 29) 0, none⟩,
 ⟨(some 31), .load (.t 30) 1 false, none⟩,
 ⟨(some 32), .indexAddr (.t 27) (.t 31) 1, none⟩,
 ⟨(some 33), .load (.t 32) 1 false, none⟩,
 ⟨(some 34), .len .slice (.t 33), none⟩,
 ⟨(some 35), .bin false .other .lss (.t 23) (.t 34), none⟩])
  (.cond (.t 35)
    (.skip)
    (.exit 2)))
  (.block 3 (.seq (.region [⟨(some 36), .move (.t 0), none⟩,
 ⟨(some 37), .nilCheck (.t 36), none⟩,
 ⟨(some 38), .fieldAddr (.t 37) 0, none⟩,
 ⟨(some 39), .load (.t 38) 1 false, none⟩,
 ⟨(some 40), .move (.t 3), none⟩,
 ⟨(some 41), .nilCheck (.t 40), none⟩,
 ⟨(some 42), .fieldAddr (.t 41) 0, none⟩,
 ⟨(some 43), .load (.t 42) 1 false, none⟩,
 ⟨(some 44), .indexAddr (.t 39) (.t 43) 1, none⟩,
 ⟨(some 45), .load (.t 44) 1 false, none⟩,
 ⟨(some 46), .move (.t 3), none⟩,
 ⟨(some 47), .nilCheck (.t 46), none⟩,
 ⟨(some 48), .fieldAddr (.t 47) 1, none⟩,
 ⟨(some 49), .load (.t 48) 1 false, none⟩,
 ⟨(some 50), .indexAddr (.t 45) (.t 49) 1, none⟩,
 ⟨(some 51), .load (.t 50) 1 false, none⟩,
 ⟨(some 4), .move (.t 51), none⟩])
  (.seq (.region [⟨(some 52), .move (.t 3), none⟩,
 ⟨(some 53), .nilCheck (.t 52), none⟩,
 ⟨(some 54), .fieldAddr (.t 53) 1, none⟩,
 ⟨(some 55), .load (.t 54) 1 false, none⟩,
 ⟨(some 56), .bin true .other .add (.t 55) (.v (.lit (.int .i64 1))), none⟩,
 ⟨(some 57), .nilCheck (.t 52), none⟩,
 ⟨(some 58), .fieldAddr (.t 57) 1, none⟩,
 ⟨none, .store (.t 58) (.t 56) 1, none⟩])
  (.seq (.region [⟨(some 59), .move (.t 0), none⟩,
 ⟨(some 60), .nilCheck (.t 59), none⟩,
 ⟨(some 61), .fieldAddr (.t 60) 3, none⟩,
 ⟨(some 62), .load (.t 61) 1 false, none⟩,
 ⟨(some 63), .move (.t 4), none⟩,
 ⟨(some 64), .indexAddr (.t 62) (.t 63) 1, none⟩,
 ⟨(some 65), .load (.t 64) 1 false, none⟩,
 ⟨(some 66), .un .not (.t 65), none⟩])
  (.cond (.t 66)
    (.seq (.region [⟨(some 67), .move (.t 0), none⟩,
      ⟨(some 68), .nilCheck (.t 67), none⟩,
      ⟨(some 69), .fieldAddr (.t 68) 3, none⟩,
      ⟨(some 70), .load (.t 69) 1 false, none⟩,
      ⟨(some 71), .move (.t 4), none⟩,
      ⟨(some 72), .indexAddr (.t 70) (.t 71) 1, none⟩,
      ⟨none, .store (.t 72) (.v (.lit (.bool true))) 1, none⟩])
    (.seq (.region [⟨(some 73), .move (.t 2), none⟩,
      ⟨(some 74), .move (.t 4), none⟩,
      ⟨(some 75), .build [(.lit (.int .i64 0)), (.lit (.int .i64 0))] [(0, 1), (1, 1)] [(0, (.t 74))], none⟩,
      ⟨(some 76), .buildSlice [(.lit (.int .i64 0)), (.lit (.int .i64 0))] 1 [(0, (.t 75))], none⟩,
      ⟨(some 77), .append 2 (.t 73) (.t 76), none⟩,
      ⟨(some 2), .move (.t 77), none⟩])
    (.exit 1)))
    (.skip)))))))))
  (.seq (.draw [⟨.pure, 0, 1⟩, ⟨.pure, 0, 0⟩, ⟨.pure, 0, 0⟩, ⟨.pure, 0, 0⟩, ⟨.read, 0, 0⟩, ⟨.pure, 0, 0⟩, ⟨.pure, 0, 0⟩, ⟨.pure, 0, 0⟩, ⟨.read, 0, 0⟩, ⟨.fresh, 0, 0⟩, ⟨.eff, 0, 1⟩, ⟨.pure, 1, 1⟩, ⟨.pure, 1, 1⟩, ⟨.eff, 1, 2⟩] [⟨(some 78), .move (.t 0), none⟩,
 ⟨(some 79), .move (.t 0), none⟩,
 ⟨(some 80), .nilCheck (.t 79), none⟩,
 ⟨(some 81), .fieldAddr (.t 80) 2, none⟩,
 ⟨(some 82), .load (.t 81) 1 false, none⟩,
 ⟨(some 83), .move (.t 3), none⟩,
 ⟨(some 84), .nilCheck (.t 83), none⟩,
 ⟨(some 85), .fieldAddr (.t 84) 0, none⟩,
 ⟨(some 86), .load (.t 85) 1 false, none⟩,
 ⟨(some 87), .buildSlice [(.lit (.int .i64 0))] 1 [(0, (.t 86))], none⟩,
 ⟨(some 88), .append 1 (.t 82) (.t 87), none⟩,
 ⟨(some 89), .nilCheck (.t 78), none⟩,
 ⟨(some 90), .fieldAddr (.t 89) 2, none⟩,
 ⟨none, .store (.t 90) (.t 88) 1, none⟩])
  (.region [⟨(some 91), .move (.t 2), none⟩,
 ⟨(some 92), .move (.t 2), none⟩,
 ⟨(some 93), .len .slice (.t 92), none⟩,
 ⟨(some 94), .bin true .other .sub (.t 93) (.v (.lit (.int .i64 1))), none⟩,
 ⟨(some 95), .slice false (.t 91) none (some (.t 94)) 2, none⟩,
 ⟨(some 2), .move (.t 95), none⟩]))))))))
  (.region [⟨(some 96), .move (.t 0), none⟩,
 ⟨(some 97), .nilCheck (.t 96), none⟩,
 ⟨(some 98), .fieldAddr (.t 97) 2, none⟩,
 ⟨(some 99), .load (.t 98) 1 false, none⟩,
 ⟨(some 100), .call (.v (.func (.func 121) [] [])) [(.t 99)], none⟩]))))
theorem xf54 : xfunc Tryz.prog 54 = some ⟨xn54, xr54, xc54⟩ := by kernel_rfl
noncomputable def xn55 : Nat := 48
noncomputable def xr55 : List XRes := [.tmp 4]
noncomputable def xc55 : XCode := .seq (.region [⟨(some 4), .move (.v (.lit (.slice none 0 0))), none⟩])
  (.seq (.seq (.region [⟨(some 9), .move (.t 1), none⟩,
 ⟨(some 10), .bin true .other .lss (.t 9) (.v (.lit (.int .i64 0))), none⟩])
  (.cond (.t 10)
    (.region [⟨(some 11), .iface 9 (.v (.str [99, 97, 110, 110, 111, 116, 32, 98, 101, 32, 110, 101, 103, 97, 116, 105, 118, 101])), none⟩,
      ⟨none, .bad, none⟩])
    (.skip)))
  (.seq (.region [⟨(some 13), .move (.t 0), none⟩,
 ⟨(some 14), .len .slice (.t 13), none⟩,
 ⟨(some 15), .conv (.int .u64) (.t 14), none⟩,
 ⟨(some 16), .move (.t 1), none⟩,
 ⟨(some 17), .conv (.int .u64) (.t 16), none⟩,
 ⟨(some 18), .call (.v (.func (.func 122) [] [])) [(.t 15), (.t 17)], none⟩,
 ⟨(some 12), .move (.t 18), none⟩,
 ⟨(some 19), .extract (.t 12) 0, none⟩,
 ⟨(some 20), .extract (.t 12) 1, none⟩,
 ⟨(some 5), .move (.t 19), none⟩,
 ⟨(some 6), .move (.t 20), none⟩])
  (.seq (.seq (.region [⟨(some 21), .move (.t 5), none⟩,
 ⟨(some 22), .bin true .other .gtr (.t 21) (.v (.lit (.int .u64 0))), none⟩,
 ⟨(some 23), .move (.t 22), none⟩,
 ⟨(some 24), .move (.t 6), some (23, false)⟩,
 ⟨(some 25), .bin true .other .gtr (.t 24) (.v (.lit (.int .u64 9223372036854775807))), some (23, false)⟩,
 ⟨(some 26), .pick (.t 23) (.v (.lit (.bool true))) (.t 25), none⟩])
  (.cond (.t 26)
    (.region [⟨(some 27), .iface 9 (.v (.str [116, 104, 101, 32, 114, 101, 115, 117, 108, 116, 32, 111, 102, 32, 40, 108, 101, 110, 40, 120, 41, 32, 42, 32, 99, 111, 117, 110, 116, 41, 32, 111, 118, 101, 114, 102, 108, 111, 119, 115])), none⟩,
      ⟨none, .bad, none⟩])
    (.skip)))
  (.seq (.region [⟨(some 28), .move (.t 6), none⟩,
 ⟨(some 29), .conv (.int .i64) (.t 28), none⟩,
 ⟨(some 30), .makeSlice [(.lit (.int .i64 0))] (.t 29) (.t 29), none⟩,
 ⟨(some 7), .move (.t 30), none⟩])
  (.seq (.region [⟨(some 31), .move (.t 7), none⟩,
 ⟨(some 32), .move (.t 0), none⟩,
 ⟨(some 33), .copy 1 (.t 31) (.t 32), none⟩,
 ⟨(some 8), .move (.t 33), none⟩])
  (.seq (.block 0 (.loop (.seq (.seq (.region [⟨(some 34), .move (.t 8), none⟩,
 ⟨(some 35), .move (.t 7), none⟩,
 ⟨(some 36), .len .slice (.t 35), none⟩,
 ⟨(some 37), .bin false .other .lss (.t 34) (.t 36), none⟩])
  (.cond (.t 37)
    (.skip)
    (.exit 0)))
  (.block 1 (.region [⟨(some 38), .move (.t 8), none⟩,
 ⟨(some 39), .move (.t 7), none⟩,
 ⟨(some 40), .move (.t 8), none⟩,
 ⟨(some 41), .slice false (.t 39) (some (.t 40)) none 1, none⟩,
 ⟨(some 42), .move (.t 7), none⟩,
 ⟨(some 43), .move (.t 8), none⟩,
 ⟨(some 44), .slice false (.t 42) none (some (.t 43)) 1, none⟩,
 ⟨(some 45), .copy 1 (.t 41) (.t 44), none⟩,
 ⟨(some 46), .bin false .other .add (.t 38) (.t 45), none⟩,
 ⟨(some 8), .move (.t 46), none⟩])))))
  (.seq (.region [⟨(some 47), .move (.t 7), none⟩,
 ⟨(some 4), .move (.t 47), none⟩])
  (.ret))))))))
theorem xf55 : xfunc Tryz.prog 55 = some ⟨xn55, xr55, xc55⟩ := by kernel_rfl
noncomputable def xn56 : Nat := 8
noncomputable def xr56 : List XRes := [.tmp 2]
noncomputable def xc56 : XCode := .seq (.region [⟨(some 2), .move (.v (.lit (.int .i64 0))), none⟩])
  (.seq (.region [⟨(some 3), .move (.t 0), none⟩,
 ⟨(some 4), .nilCheck (.t 3), none⟩,
 ⟨(some 5), .fieldAddr (.t 4) 0, none⟩,
 ⟨(some 6), .load (.t 5) 1 false, none⟩,
 ⟨(some 7), .len .slice (.t 6), none⟩,
 ⟨(some 2), .move (.t 7), none⟩])
  (.ret))
theorem xf56 : xfunc Tryz.prog 56 = some ⟨xn56, xr56, xc56⟩ := by kernel_rfl
noncomputable def xn57 : Nat := 8
noncomputable def xr57 : List XRes := [.tmp 2]
noncomputable def xc57 : XCode := .seq (.region [⟨(some 2), .move (.v (.lit (.slice none 0 0))), none⟩])
  (.seq (.region [⟨(some 3), .move (.t 0), none⟩,
 ⟨(some 4), .nilCheck (.t 3), none⟩,
 ⟨(some 5), .fieldAddr (.t 4) 2, none⟩,
 ⟨(some 6), .load (.t 5) 1 false, none⟩,
 ⟨(some 7), .call (.v (.func (.func 116) [] [])) [(.t 6)], none⟩,
 ⟨(some 2), .move (.t 7), none⟩])
  (.ret))
theorem xf57 : xfunc Tryz.prog 57 = some ⟨xn57, xr57, xc57⟩ := by kernel_rfl
noncomputable def xn58 : Nat := 29
noncomputable def xr58 : List XRes := [.tmp 4]
noncomputable def xc58 : XCode := .seq (.region [⟨(some 4), .move (.v (.lit (.int .i64 0))), none⟩])
  (.seq (.region [⟨(some 5), .move (.v (.lit (.int .i64 (-1)))), none⟩])
  (.seq (.seq (.region [⟨(some 8), .move (.t 1), none⟩,
 ⟨(some 9), .len .slice (.t 8), none⟩,
 ⟨(some 10), .move (.v (.lit (.int .i64 0))), none⟩])
  (.block 0 (.loop (.seq (.region [⟨(some 11), .bin false .other .lss (.t 10) (.t 9), none⟩])
  (.seq (.cond (.t 11)
    (.skip)
    (.exit 0))
  (.seq (.block 1 (.seq (.region [⟨(some 12), .indexAddr (.t 8) (.t 10) 1, none⟩,
 ⟨(some 13), .load (.t 12) 1 false, none⟩,
 ⟨(some 7), .move (.t 13), none⟩])
  (.block 2 (.seq (.region [⟨(some 19), .move (.t 0), none⟩,
 ⟨(some 20), .move (.t 7), none⟩,
 ⟨(some 21), .call (.v (.func (.func 123) [] [])) [(.t 19), (.t 20)], none⟩,
 ⟨(some 22), .un .not (.t 21), none⟩,
 ⟨(some 18), .move (.t 22), none⟩])
  (.cond (.t 18)
    (.exit 1)
    (.seq (.region [⟨(some 24), .move (.t 5), none⟩,
      ⟨(some 25), .bin true .other .eql (.t 24) (.v (.lit (.int .i64 (-1)))), none⟩,
      ⟨(some 23), .move (.t 25), none⟩])
    (.cond (.t 23)
      (.region [⟨(some 26), .move (.t 7), none⟩,
        ⟨(some 5), .move (.t 26), none⟩])
      (.region [⟨(some 14), .move (.t 0), none⟩,
        ⟨(some 15), .move (.t 5), none⟩,
        ⟨(some 16), .move (.t 7), none⟩,
        ⟨(some 17), .call (.v (.func (.func 124) [] [])) [(.t 14), (.t 15), (.t 16)], none⟩,
        ⟨(some 5), .move (.t 17), none⟩]))))))))
  (.region [⟨(some 27), .bin true .other .add (.t 10) (.v (.lit (.int .i64 1))), none⟩,
 ⟨(some 10), .move (.t 27), none⟩])))))))
  (.seq (.region [⟨(some 28), .move (.t 5), none⟩,
 ⟨(some 4), .move (.t 28), none⟩])
  (.ret))))
theorem xf58 : xfunc Tryz.prog 58 = some ⟨xn58, xr58, xc58⟩ := by kernel_rfl
noncomputable def xn59 : Nat := 9
noncomputable def xr59 : List XRes := [.tmp 4]
noncomputable def xc59 : XCode := .seq (.region [⟨(some 4), .move (.v (.lit (.bool false))), none⟩])
  (.seq (.region [⟨(some 5), .move (.t 0), none⟩,
 ⟨(some 6), .move (.t 1), none⟩,
 ⟨(some 7), .call (.v (.func (.func 125) [] [])) [(.t 5), (.t 6)], none⟩,
 ⟨(some 8), .bin true .other .geq (.t 7) (.v (.lit (.int .i64 0))), none⟩,
 ⟨(some 4), .move (.t 8), none⟩])
  (.ret))
theorem xf59 : xfunc Tryz.prog 59 = some ⟨xn59, xr59, xc59⟩ := by kernel_rfl
noncomputable def xn60 : Nat := 9
noncomputable def xr60 : List XRes := [.tmp 4]
noncomputable def xc60 : XCode := .seq (.region [⟨(some 4), .move (.v (.lit (.bool false))), none⟩])
  (.seq (.region [⟨(some 5), .load (.t 1) 1 false, none⟩,
 ⟨(some 6), .load (.t 2) 1 false, none⟩,
 ⟨(some 7), .move (.t 0), none⟩,
 ⟨(some 8), .call (.v (.func (.func 19) [] [])) [(.t 5), (.t 6), (.t 7)], none⟩,
 ⟨(some 4), .move (.t 8), none⟩])
  (.ret))
theorem xf60 : xfunc Tryz.prog 60 = some ⟨xn60, xr60, xc60⟩ := by kernel_rfl
noncomputable def xn61 : Nat := 29
noncomputable def xr61 : List XRes := []
noncomputable def xc61 : XCode := .block 0 (.loop (.seq (.seq (.draw [⟨.read, 0, 0⟩, ⟨.read, 0, 0⟩, ⟨.eff, 0, 1⟩, ⟨.pure, 1, 1⟩, ⟨.pure, 1, 1⟩, ⟨.read, 1, 1⟩, ⟨.eff, 1, 2⟩, ⟨.pure, 2, 2⟩, ⟨.pure, 2, 2⟩, ⟨.read, 2, 2⟩, ⟨.pure, 2, 2⟩, ⟨.pure, 2, 2⟩, ⟨.read, 2, 2⟩, ⟨.read, 2, 2⟩, ⟨.pure, 2, 2⟩, ⟨.read, 2, 2⟩, ⟨.pure, 2, 2⟩, ⟨.pure, 2, 2⟩] [⟨(some 4), .load (.t 1) 1 false, none⟩,
 ⟨(some 5), .load (.t 2) 1 false, none⟩,
 ⟨(some 6), .call (.v (.func (.func 62) [] [])) [(.t 4), (.t 5)], none⟩,
 ⟨(some 7), .move (.t 6), none⟩,
 ⟨(some 8), .move (.t 0), some (7, true)⟩,
 ⟨(some 9), .load (.t 2) 1 false, some (7, true)⟩,
 ⟨(some 10), .call (.t 8) [(.t 9)], some (7, true)⟩,
 ⟨(some 11), .pick (.t 7) (.t 10) (.v (.lit (.bool false))), none⟩,
 ⟨(some 12), .move (.t 11), none⟩,
 ⟨(some 13), .load (.t 1) 1 false, some (12, true)⟩,
 ⟨(some 14), .nilCheck (.t 13), some (12, true)⟩,
 ⟨(some 15), .fieldAddr (.t 14) 0, some (12, true)⟩,
 ⟨(some 16), .load (.t 15) 1 false, some (12, true)⟩,
 ⟨(some 17), .load (.t 2) 1 false, some (12, true)⟩,
 ⟨(some 18), .indexAddr (.t 16) (.t 17) 1, some (12, true)⟩,
 ⟨(some 19), .load (.t 18) 1 false, some (12, true)⟩,
 ⟨(some 20), .bin true .other .neq (.t 19) (.v (.lit (.int .i64 (-1)))), some (12, true)⟩,
 ⟨(some 21), .pick (.t 12) (.t 20) (.v (.lit (.bool false))), none⟩])
  (.cond (.t 21)
    (.skip)
    (.exit 0)))
  (.block 1 (.region [⟨(some 22), .load (.t 1) 1 false, none⟩,
 ⟨(some 23), .nilCheck (.t 22), none⟩,
 ⟨(some 24), .fieldAddr (.t 23) 0, none⟩,
 ⟨(some 25), .load (.t 24) 1 false, none⟩,
 ⟨(some 26), .load (.t 2) 1 false, none⟩,
 ⟨(some 27), .indexAddr (.t 25) (.t 26) 1, none⟩,
 ⟨(some 28), .load (.t 27) 1 false, none⟩,
 ⟨none, .store (.t 2) (.t 28) 1, none⟩]))))
theorem xf61 : xfunc Tryz.prog 61 = some ⟨xn61, xr61, xc61⟩ := by kernel_rfl
noncomputable def xn62 : Nat := 26
noncomputable def xr62 : List XRes := [.tmp 4]
noncomputable def xc62 : XCode := .seq (.region [⟨(some 4), .move (.v (.lit (.bool false))), none⟩])
  (.seq (.region [⟨(some 5), .move (.t 1), none⟩,
 ⟨(some 6), .bin true .other .geq (.t 5) (.v (.lit (.int .i64 0))), none⟩,
 ⟨(some 7), .move (.t 6), none⟩,
 ⟨(some 8), .move (.t 1), some (7, true)⟩,
 ⟨(some 9), .move (.t 0), some (7, true)⟩,
 ⟨(some 10), .nilCheck (.t 9), some (7, true)⟩,
 ⟨(some 11), .fieldAddr (.t 10) 1, some (7, true)⟩,
 ⟨(some 12), .load (.t 11) 1 false, some (7, true)⟩,
 ⟨(some 13), .len .slice (.t 12), some (7, true)⟩,
 ⟨(some 14), .bin false .other .lss (.t 8) (.t 13), some (7, true)⟩,
 ⟨(some 15), .pick (.t 7) (.t 14) (.v (.lit (.bool false))), none⟩,
 ⟨(some 16), .move (.t 15), none⟩,
 ⟨(some 17), .move (.t 0), some (16, true)⟩,
 ⟨(some 18), .nilCheck (.t 17), some (16, true)⟩,
 ⟨(some 19), .fieldAddr (.t 18) 1, some (16, true)⟩,
 ⟨(some 20), .load (.t 19) 1 false, some (16, true)⟩,
 ⟨(some 21), .move (.t 1), some (16, true)⟩,
 ⟨(some 22), .indexAddr (.t 20) (.t 21) 1, some (16, true)⟩,
 ⟨(some 23), .load (.t 22) 1 false, some (16, true)⟩,
 ⟨(some 24), .bin true .other .neq (.t 23) (.v (.lit (.int .i64 (-1)))), some (16, true)⟩,
 ⟨(some 25), .pick (.t 16) (.t 24) (.v (.lit (.bool false))), none⟩,
 ⟨(some 4), .move (.t 25), none⟩])
  (.ret))
theorem xf62 : xfunc Tryz.prog 62 = some ⟨xn62, xr62, xc62⟩ := by kernel_rfl
noncomputable def xn63 : Nat := 18
noncomputable def xr63 : List XRes := [.tmp 4]
noncomputable def xc63 : XCode := .seq (.region [⟨(some 4), .move (.v (.lit (.slice none 0 0))), none⟩])
  (.seq (.seq (.region [⟨(some 5), .move (.t 1), none⟩,
 ⟨(some 6), .bin true .other .lss (.t 5) (.v (.lit (.int .i64 0))), none⟩,
 ⟨(some 7), .move (.t 6), none⟩,
 ⟨(some 8), .move (.t 1), some (7, false)⟩,
 ⟨(some 9), .move (.t 0), some (7, false)⟩,
 ⟨(some 10), .len .slice (.t 9), some (7, false)⟩,
 ⟨(some 11), .bin false .other .geq (.t 8) (.t 10), some (7, false)⟩,
 ⟨(some 12), .pick (.t 7) (.v (.lit (.bool true))) (.t 11), none⟩])
  (.cond (.t 12)
    (.seq (.region [⟨(some 4), .move (.v (.lit (.slice none 0 0))), none⟩])
    (.ret))
    (.skip)))
  (.seq (.region [⟨(some 13), .move (.t 0), none⟩,
 ⟨(some 14), .move (.t 1), none⟩,
 ⟨(some 15), .indexAddr (.t 13) (.t 14) 1, none⟩,
 ⟨(some 16), .load (.t 15) 1 false, none⟩,
 ⟨(some 17), .call (.v (.func (.func 116) [] [])) [(.t 16)], none⟩,
 ⟨(some 4), .move (.t 17), none⟩])
  (.ret)))
theorem xf63 : xfunc Tryz.prog 63 = some ⟨xn63, xr63, xc63⟩ := by kernel_rfl
noncomputable def xn64 : Nat := 11
noncomputable def xr64 : List XRes := [.tmp 4]
noncomputable def xc64 : XCode := .seq (.region [⟨(some 4), .move (.v (.lit (.slice none 0 0))), none⟩])
  (.seq (.region [⟨(some 5), .move (.t 0), none⟩,
 ⟨(some 6), .nilCheck (.t 5), none⟩,
 ⟨(some 7), .fieldAddr (.t 6) 0, none⟩,
 ⟨(some 8), .load (.t 7) 1 false, none⟩,
 ⟨(some 9), .move (.t 1), none⟩,
 ⟨(some 10), .call (.v (.func (.func 63) [] [])) [(.t 8), (.t 9)], none⟩,
 ⟨(some 4), .move (.t 10), none⟩])
  (.ret))
theorem xf64 : xfunc Tryz.prog 64 = some ⟨xn64, xr64, xc64⟩ := by kernel_rfl
noncomputable def xn66 : Nat := 21
noncomputable def xr66 : List XRes := [.tmp 4]
noncomputable def xc66 : XCode := .seq (.region [⟨(some 4), .move (.v (.lit (.slice none 0 0))), none⟩])
  (.seq (.region [⟨(some 7), .move (.t 0), none⟩,
 ⟨(some 8), .makeSlice [(.lit (.pointer none))] (.t 7) (.t 7), none⟩,
 ⟨(some 5), .move (.t 8), none⟩])
  (.seq (.seq (.region [⟨(some 9), .move (.t 5), none⟩,
 ⟨(some 10), .len .slice (.t 9), none⟩,
 ⟨(some 11), .move (.v (.lit (.int .i64 0))), none⟩])
  (.block 0 (.loop (.seq (.region [⟨(some 12), .bin false .other .lss (.t 11) (.t 10), none⟩])
  (.seq (.cond (.t 12)
    (.skip)
    (.exit 0))
  (.seq (.block 1 (.seq (.region [⟨(some 13), .move (.t 11), none⟩,
 ⟨(some 6), .move (.t 13), none⟩])
  (.region [⟨(some 14), .move (.t 5), none⟩,
 ⟨(some 15), .move (.t 6), none⟩,
 ⟨(some 16), .move (.t 1), none⟩,
 ⟨(some 17), .call (.v (.func (.func 37) [] [])) [(.t 16), (.v (.lit (.slice none 0 0)))], none⟩,
 ⟨(some 18), .indexAddr (.t 14) (.t 15) 1, none⟩,
 ⟨none, .store (.t 18) (.t 17) 1, none⟩])))
  (.region [⟨(some 19), .bin true .other .add (.t 11) (.v (.lit (.int .i64 1))), none⟩,
 ⟨(some 11), .move (.t 19), none⟩])))))))
  (.seq (.region [⟨(some 20), .move (.t 5), none⟩,
 ⟨(some 4), .move (.t 20), none⟩])
  (.ret))))
theorem xf66 : xfunc Tryz.prog 66 = some ⟨xn66, xr66, xc66⟩ := by kernel_rfl
noncomputable def xn67 : Nat := 13
noncomputable def xr67 : List XRes := [.tmp 4]
noncomputable def xc67 : XCode := .seq (.region [⟨(some 2), .box (.t 0), none⟩,
 ⟨(some 4), .move (.v (.lit .nilFunc)), none⟩])
  (.seq (.seq (.region [⟨(some 5), .move (.t 1), none⟩,
 ⟨(some 6), .un .not (.t 5), none⟩])
  (.cond (.t 6)
    (.seq (.region [⟨(some 7), .load (.t 2) 1 false, none⟩,
      ⟨(some 8), .nilCheck (.t 7), none⟩,
      ⟨(some 9), .fieldAddr (.t 8) 2, none⟩,
      ⟨(some 10), .load (.t 9) 1 false, none⟩,
      ⟨(some 11), .call (.v (.func (.func 126) [] [])) [(.t 10)], none⟩,
      ⟨(some 4), .move (.t 11), none⟩])
    (.ret))
    (.skip)))
  (.seq (.region [⟨(some 12), .func (.func 127) [] [(.t 2)], none⟩,
 ⟨(some 4), .move (.t 12), none⟩])
  (.ret)))
theorem xf67 : xfunc Tryz.prog 67 = some ⟨xn67, xr67, xc67⟩ := by kernel_rfl
noncomputable def xn68 : Nat := 56
noncomputable def xr68 : List XRes := [.tmp 4]
noncomputable def xa68_0 : XCode := .region [⟨(some 6), .move (.t 23), none⟩]
noncomputable def xb68_0 : XCode := .block 1 (.block 2 (.seq (.region [⟨(some 28), .move (.t 6), none⟩,
 ⟨(some 29), .bin true .ptr .eql (.t 28) (.v (.lit (.pointer none))), none⟩,
 ⟨(some 30), .move (.t 29), none⟩,
 ⟨(some 31), .load (.t 2) 1 false, some (30, true)⟩,
 ⟨(some 32), .nilCheck (.t 31), some (30, true)⟩,
 ⟨(some 33), .fieldAddr (.t 32) 0, some (30, true)⟩,
 ⟨(some 34), .fieldAddr (.t 33) 4, some (30, true)⟩,
 ⟨(some 35), .load (.t 34) 1 false, some (30, true)⟩,
 ⟨(some 36), .pick (.t 30) (.t 35) (.v (.lit (.bool false))), none⟩,
 ⟨(some 27), .move (.t 36), none⟩])
  (.cond (.t 27)
    (.region [⟨(some 37), .load (.t 2) 1 false, none⟩,
      ⟨(some 38), .nilCheck (.t 37), none⟩,
      ⟨(some 39), .fieldAddr (.t 38) 0, none⟩,
      ⟨(some 40), .fieldAddr (.t 39) 0, none⟩,
      ⟨(some 41), .load (.t 40) 1 false, none⟩,
      ⟨(some 42), .call (.v (.func (.func 37) [] [])) [(.t 41), (.v (.lit (.slice none 0 0)))], none⟩,
      ⟨none, .store (.t 5) (.t 42) 1, none⟩])
    (.seq (.region [⟨(some 44), .move (.t 6), none⟩,
      ⟨(some 45), .bin true .ptr .eql (.t 44) (.v (.lit (.pointer none))), none⟩,
      ⟨(some 43), .move (.t 45), none⟩])
    (.cond (.t 43)
      (.skip)
      (.seq (.region [⟨(some 47), .load (.t 2) 1 false, none⟩,
        ⟨(some 48), .nilCheck (.t 47), none⟩,
        ⟨(some 49), .fieldAddr (.t 48) 0, none⟩,
        ⟨(some 50), .fieldAddr (.t 49) 4, none⟩,
        ⟨(some 51), .load (.t 50) 1 false, none⟩,
        ⟨(some 46), .move (.t 51), none⟩])
      (.cond (.t 46)
        (.region [⟨(some 52), .load (.t 5) 1 false, none⟩,
          ⟨(some 53), .move (.t 6), none⟩,
          ⟨(some 54), .call (.v (.func (.func 130) [] [])) [(.t 52), (.t 53)], none⟩])
        (.region [⟨(some 24), .load (.t 5) 1 false, none⟩,
          ⟨(some 25), .move (.t 6), none⟩,
          ⟨(some 26), .call (.v (.func (.func 76) [] [])) [(.t 24), (.t 25)], none⟩]))))))))
theorem xaf68_0 : xcomp Tryz.prog 56 (bodyAt Tryz.prog 68 [1, 1, 1, 0, 1, 0, 0]) = some xa68_0 := by kernel_rfl
theorem xbf68_0 : xcomp Tryz.prog 56 (bodyAt Tryz.prog 68 [1, 1, 1, 0, 1, 0, 1]) = some xb68_0 := by kernel_rfl
noncomputable def xc68 : XCode := .seq (.region [⟨(some 2), .box (.t 0), none⟩,
 ⟨(some 4), .move (.v (.lit (.pointer none))), none⟩])
  (.seq (.region [⟨(some 7), .load (.t 2) 1 false, none⟩,
 ⟨(some 8), .nilCheck (.t 7), none⟩,
 ⟨(some 9), .fieldAddr (.t 8) 0, none⟩,
 ⟨(some 10), .fieldAddr (.t 9) 0, none⟩,
 ⟨(some 11), .load (.t 10) 1 false, none⟩,
 ⟨(some 12), .call (.v (.func (.func 37) [] [])) [(.t 11), (.v (.lit (.slice none 0 0)))], none⟩,
 ⟨(some 5), .alloc [(.lit (.pointer none))], none⟩,
 ⟨none, .store (.t 5) (.t 12) 1, none⟩])
  (.seq (.seq (.region [⟨(some 13), .load (.t 2) 1 false, none⟩,
 ⟨(some 14), .nilCheck (.t 13), none⟩,
 ⟨(some 15), .fieldAddr (.t 14) 0, none⟩,
 ⟨(some 16), .fieldAddr (.t 15) 4, none⟩,
 ⟨(some 17), .load (.t 16) 1 false, none⟩])
  (.cond (.t 17)
    (.region [⟨(some 18), .load (.t 5) 1 false, none⟩,
      ⟨(some 19), .call (.v (.func (.func 36) [] [])) [(.t 18)], none⟩])
    (.skip)))
  (.seq (.seq (.region [⟨(some 20), .load (.t 2) 1 false, none⟩,
 ⟨(some 21), .move (.t 1), none⟩,
 ⟨(some 22), .call (.v (.func (.func 129) [] [])) [(.t 20), (.t 21)], none⟩])
  (.block 0 (.range (.t 22) #[23] (bodyAt Tryz.prog 68 [1, 1, 1, 0, 1, 0, 0]) (bodyAt Tryz.prog 68 [1, 1, 1, 0, 1, 0, 1]) xa68_0 xb68_0)))
  (.seq (.region [⟨(some 55), .load (.t 5) 1 false, none⟩,
 ⟨(some 4), .move (.t 55), none⟩])
  (.ret)))))
theorem xf68 : xfunc Tryz.prog 68 = some ⟨xn68, xr68, xc68⟩ := by kernel_rfl
noncomputable def xn69 : Nat := 59
noncomputable def xr69 : List XRes := [.tmp 4]
noncomputable def xc69 : XCode := .seq (.region [⟨(some 4), .move (.v (.lit (.bool false))), none⟩])
  (.seq (.region [⟨(some 9), .move (.t 0), none⟩,
 ⟨(some 10), .nilCheck (.t 9), none⟩,
 ⟨(some 11), .fieldAddr (.t 10) 7, none⟩,
 ⟨(some 12), .load (.t 11) 1 false, none⟩,
 ⟨(some 13), .move (.t 1), none⟩,
 ⟨(some 14), .indexAddr (.t 12) (.t 13) 1, none⟩,
 ⟨(some 15), .load (.t 14) 1 false, none⟩,
 ⟨(some 16), .call (.v (.func (.func 74) [] [])) [(.t 15)], none⟩,
 ⟨(some 5), .move (.t 16), none⟩])
  (.seq (.seq (.region [⟨(some 17), .move (.t 0), none⟩,
 ⟨(some 18), .nilCheck (.t 17), none⟩,
 ⟨(some 19), .fieldAddr (.t 18) 0, none⟩,
 ⟨(some 20), .fieldAddr (.t 19) 2, none⟩,
 ⟨(some 21), .load (.t 20) 1 false, none⟩,
 ⟨(some 22), .move (.t 1), none⟩,
 ⟨(some 23), .call (.v (.func (.func 131) [] [])) [(.t 21), (.t 22)], none⟩,
 ⟨(some 6), .move (.t 23), none⟩])
  (.seq (.region [⟨(some 24), .move (.t 6), none⟩,
 ⟨(some 25), .bin true .ptr .neq (.t 24) (.v (.lit (.pointer none))), none⟩])
  (.cond (.t 25)
    (.region [⟨(some 26), .move (.t 5), none⟩,
      ⟨(some 27), .move (.t 6), none⟩,
      ⟨(some 28), .call (.v (.func (.func 75) [] [])) [(.t 26), (.t 27)], none⟩])
    (.skip))))
  (.seq (.seq (.region [⟨(some 29), .move (.t 0), none⟩,
 ⟨(some 30), .nilCheck (.t 29), none⟩,
 ⟨(some 31), .fieldAddr (.t 30) 0, none⟩,
 ⟨(some 32), .fieldAddr (.t 31) 1, none⟩,
 ⟨(some 33), .load (.t 32) 1 false, none⟩,
 ⟨(some 34), .move (.t 1), none⟩,
 ⟨(some 35), .call (.v (.func (.func 131) [] [])) [(.t 33), (.t 34)], none⟩,
 ⟨(some 7), .move (.t 35), none⟩])
  (.seq (.region [⟨(some 36), .move (.t 7), none⟩,
 ⟨(some 37), .bin true .ptr .neq (.t 36) (.v (.lit (.pointer none))), none⟩])
  (.cond (.t 37)
    (.region [⟨(some 38), .move (.t 5), none⟩,
      ⟨(some 39), .move (.t 7), none⟩,
      ⟨(some 40), .call (.v (.func (.func 76) [] [])) [(.t 38), (.t 39)], none⟩])
    (.skip))))
  (.seq (.region [⟨(some 41), .move (.t 0), none⟩,
 ⟨(some 42), .nilCheck (.t 41), none⟩,
 ⟨(some 43), .fieldAddr (.t 42) 8, none⟩,
 ⟨(some 44), .load (.t 43) 1 false, none⟩,
 ⟨(some 45), .move (.t 1), none⟩,
 ⟨(some 46), .indexAddr (.t 44) (.t 45) 1, none⟩,
 ⟨(some 47), .load (.t 46) 1 false, none⟩,
 ⟨(some 8), .move (.t 47), none⟩])
  (.seq (.region [⟨(some 48), .move (.t 0), none⟩,
 ⟨(some 49), .nilCheck (.t 48), none⟩,
 ⟨(some 50), .fieldAddr (.t 49) 8, none⟩,
 ⟨(some 51), .load (.t 50) 1 false, none⟩,
 ⟨(some 52), .move (.t 1), none⟩,
 ⟨(some 53), .move (.t 5), none⟩,
 ⟨(some 54), .indexAddr (.t 51) (.t 52) 1, none⟩,
 ⟨none, .store (.t 54) (.t 53) 1, none⟩])
  (.seq (.region [⟨(some 55), .move (.t 8), none⟩,
 ⟨(some 56), .move (.t 5), none⟩,
 ⟨(some 57), .call (.v (.func (.func 77) [] [])) [(.t 55), (.t 56)], none⟩,
 ⟨(some 58), .un .not (.t 57), none⟩,
 ⟨(some 4), .move (.t 58), none⟩])
  (.ret)))))))
theorem xf69 : xfunc Tryz.prog 69 = some ⟨xn69, xr69, xc69⟩ := by kernel_rfl
noncomputable def xn70 : Nat := 8
noncomputable def xr70 : List XRes := [.tmp 2]
noncomputable def xc70 : XCode := .seq (.region [⟨(some 2), .move (.v (.lit (.slice none 0 0))), none⟩])
  (.seq (.seq (.region [⟨(some 3), .move (.t 0), none⟩,
 ⟨(some 4), .bin true .slice .eql (.t 3) (.v (.lit (.slice none 0 0))), none⟩])
  (.cond (.t 4)
    (.seq (.region [⟨(some 2), .move (.v (.lit (.slice none 0 0))), none⟩])
    (.ret))
    (.skip)))
  (.seq (.region [⟨(some 5), .buildSlice [(.lit (.pointer none))] 0 [], none⟩,
 ⟨(some 6), .move (.t 0), none⟩,
 ⟨(some 7), .append 1 (.t 5) (.t 6), none⟩,
 ⟨(some 2), .move (.t 7), none⟩])
  (.ret)))
theorem xf70 : xfunc Tryz.prog 70 = some ⟨xn70, xr70, xc70⟩ := by kernel_rfl
noncomputable def xn74 : Nat := 19
noncomputable def xr74 : List XRes := [.tmp 2]
noncomputable def xc74 : XCode := .seq (.region [⟨(some 2), .move (.v (.lit (.pointer none))), none⟩])
  (.seq (.region [⟨(some 4), .move (.t 0), none⟩,
 ⟨(some 5), .nilCheck (.t 4), none⟩,
 ⟨(some 6), .fieldAddr (.t 5) 0, none⟩,
 ⟨(some 7), .load (.t 6) 1 false, none⟩,
 ⟨(some 8), .call (.v (.func (.func 37) [] [])) [(.t 7), (.v (.lit (.slice none 0 0)))], none⟩,
 ⟨(some 3), .move (.t 8), none⟩])
  (.seq (.region [⟨(some 9), .move (.t 3), none⟩,
 ⟨(some 10), .nilCheck (.t 9), none⟩,
 ⟨(some 11), .fieldAddr (.t 10) 1, none⟩,
 ⟨(some 12), .load (.t 11) 1 false, none⟩,
 ⟨(some 13), .move (.t 0), none⟩,
 ⟨(some 14), .nilCheck (.t 13), none⟩,
 ⟨(some 15), .fieldAddr (.t 14) 1, none⟩,
 ⟨(some 16), .load (.t 15) 1 false, none⟩,
 ⟨(some 17), .copy 1 (.t 12) (.t 16), none⟩])
  (.seq (.region [⟨(some 18), .move (.t 3), none⟩,
 ⟨(some 2), .move (.t 18), none⟩])
  (.ret))))
theorem xf74 : xfunc Tryz.prog 74 = some ⟨xn74, xr74, xc74⟩ := by kernel_rfl
noncomputable def xn76 : Nat := 8
noncomputable def xr76 : List XRes := [.tmp 4]
noncomputable def xc76 : XCode := .seq (.region [⟨(some 4), .move (.v (.lit (.bool false))), none⟩])
  (.seq (.region [⟨(some 5), .move (.t 0), none⟩,
 ⟨(some 6), .move (.t 1), none⟩,
 ⟨(some 7), .call (.v (.func (.func 83) [] [])) [(.t 5), (.t 6), (.v (.func (.func 136) [] []))], none⟩,
 ⟨(some 4), .move (.t 7), none⟩])
  (.ret))
theorem xf76 : xfunc Tryz.prog 76 = some ⟨xn76, xr76, xc76⟩ := by kernel_rfl
noncomputable def xn77 : Nat := 15
noncomputable def xr77 : List XRes := [.cell 4 1 false]
noncomputable def xa77_0 : XCode := .seq (.region [⟨(some 5), .move (.t 10), none⟩])
  (.region [⟨(some 6), .move (.t 11), none⟩])
noncomputable def xb77_0 : XCode := .block 1 (.seq (.region [⟨(some 12), .move (.t 5), none⟩,
 ⟨(some 13), .move (.t 6), none⟩,
 ⟨(some 14), .bin false .other .neq (.t 12) (.t 13), none⟩])
  (.cond (.t 14)
    (.seq (.region [⟨none, .store (.t 4) (.v (.lit (.bool false))) 1, none⟩])
    (.ret))
    (.skip)))
theorem xaf77_0 : xcomp Tryz.prog 15 (bodyAt Tryz.prog 77 [1, 0, 1, 0, 0]) = some xa77_0 := by kernel_rfl
theorem xbf77_0 : xcomp Tryz.prog 15 (bodyAt Tryz.prog 77 [1, 0, 1, 0, 1]) = some xb77_0 := by kernel_rfl
noncomputable def xc77 : XCode := .seq (.region [⟨(some 4), .alloc [(.lit (.bool false))], none⟩])
  (.seq (.seq (.region [⟨(some 7), .move (.t 0), none⟩,
 ⟨(some 8), .move (.t 1), none⟩,
 ⟨(some 9), .call (.v (.func (.func 137) [] [])) [(.t 7), (.t 8)], none⟩])
  (.block 0 (.range (.t 9) #[10, 11] (bodyAt Tryz.prog 77 [1, 0, 1, 0, 0]) (bodyAt Tryz.prog 77 [1, 0, 1, 0, 1]) xa77_0 xb77_0)))
  (.seq (.region [⟨none, .store (.t 4) (.v (.lit (.bool true))) 1, none⟩])
  (.ret)))
theorem xf77 : xfunc Tryz.prog 77 = some ⟨xn77, xr77, xc77⟩ := by kernel_rfl
noncomputable def xn78 : Nat := 31
noncomputable def xr78 : List XRes := []
noncomputable def xc78 : XCode := .seq (.region [⟨(some 5), .load (.t 1) 1 false, none⟩,
 ⟨(some 6), .nilCheck (.t 5), none⟩,
 ⟨(some 7), .fieldAddr (.t 6) 1, none⟩,
 ⟨(some 8), .load (.t 7) 1 false, none⟩,
 ⟨(some 9), .call (.v (.func (.func 79) [] [])) [(.t 8)], none⟩,
 ⟨(some 10), .len .slice (.t 9), none⟩,
 ⟨(some 11), .move (.v (.lit (.int .i64 0))), none⟩])
  (.block 0 (.loop (.seq (.region [⟨(some 12), .bin false .other .lss (.t 11) (.t 10), none⟩])
  (.seq (.cond (.t 12)
    (.skip)
    (.exit 0))
  (.seq (.block 1 (.seq (.region [⟨(some 13), .move (.t 11), none⟩,
 ⟨(some 14), .indexAddr (.t 9) (.t 11) 1, none⟩,
 ⟨(some 15), .load (.t 14) 1 false, none⟩,
 ⟨(some 3), .move (.t 13), none⟩,
 ⟨(some 4), .move (.t 15), none⟩])
  (.block 2 (.loop (.seq (.seq (.region [⟨(some 16), .move (.t 4), none⟩,
 ⟨(some 17), .bin true .other .neq (.t 16) (.v (.lit (.int .u64 0))), none⟩])
  (.cond (.t 17)
    (.skip)
    (.exit 2)))
  (.seq (.block 3 (.seq (.region [⟨(some 22), .move (.t 0), none⟩,
 ⟨(some 23), .move (.t 3), none⟩,
 ⟨(some 24), .bin true .other .mul (.t 23) (.v (.lit (.int .i64 64))), none⟩,
 ⟨(some 25), .move (.t 4), none⟩,
 ⟨(some 26), .call (.v (.func (.func 80) [] [])) [(.t 25)], none⟩,
 ⟨(some 27), .bin false .other .add (.t 24) (.t 26), none⟩,
 ⟨(some 28), .call (.t 22) [(.t 27)], none⟩,
 ⟨(some 29), .un .not (.t 28), none⟩])
  (.cond (.t 29)
    (.ret)
    (.skip))))
  (.region [⟨(some 18), .move (.t 4), none⟩,
 ⟨(some 19), .move (.t 4), none⟩,
 ⟨(some 20), .bin true .other .sub (.t 19) (.v (.lit (.int .u64 1))), none⟩,
 ⟨(some 21), .bin false .other .and (.t 18) (.t 20), none⟩,
 ⟨(some 4), .move (.t 21), none⟩])))))))
  (.region [⟨(some 30), .bin true .other .add (.t 11) (.v (.lit (.int .i64 1))), none⟩,
 ⟨(some 11), .move (.t 30), none⟩]))))))
theorem xf78 : xfunc Tryz.prog 78 = some ⟨xn78, xr78, xc78⟩ := by kernel_rfl
noncomputable def xn79 : Nat := 8
noncomputable def xr79 : List XRes := [.tmp 2]
noncomputable def xc79 : XCode := .seq (.region [⟨(some 2), .move (.v (.lit (.slice none 0 0))), none⟩])
  (.seq (.seq (.region [⟨(some 3), .move (.t 0), none⟩,
 ⟨(some 4), .bin true .slice .eql (.t 3) (.v (.lit (.slice none 0 0))), none⟩])
  (.cond (.t 4)
    (.seq (.region [⟨(some 2), .move (.v (.lit (.slice none 0 0))), none⟩])
    (.ret))
    (.skip)))
  (.seq (.region [⟨(some 5), .buildSlice [(.lit (.int .u64 0))] 0 [], none⟩,
 ⟨(some 6), .move (.t 0), none⟩,
 ⟨(some 7), .append 1 (.t 5) (.t 6), none⟩,
 ⟨(some 2), .move (.t 7), none⟩])
  (.ret)))
theorem xf79 : xfunc Tryz.prog 79 = some ⟨xn79, xr79, xc79⟩ := by kernel_rfl
noncomputable def xn80 : Nat := 14
noncomputable def xr80 : List XRes := [.tmp 2]
noncomputable def xc80 : XCode := .seq (.region [⟨(some 2), .move (.v (.lit (.int .i64 0))), none⟩])
  (.seq (.seq (.region [⟨(some 3), .move (.t 0), none⟩,
 ⟨(some 4), .bin true .other .eql (.t 3) (.v (.lit (.int .u64 0))), none⟩])
  (.cond (.t 4)
    (.seq (.region [⟨(some 2), .move (.v (.lit (.int .i64 64))), none⟩])
    (.ret))
    (.skip)))
  (.seq (.region [⟨(some 5), .move (.t 0), none⟩,
 ⟨(some 6), .move (.t 0), none⟩,
 ⟨(some 7), .un .neg (.t 6), none⟩,
 ⟨(some 8), .bin false .other .and (.t 5) (.t 7), none⟩,
 ⟨(some 9), .bin true .other .mul (.t 8) (.v (.lit (.int .u64 285870213051353865))), none⟩,
 ⟨(some 10), .bin true .other .shr (.t 9) (.v (.lit (.int .u64 58))), none⟩,
 ⟨(some 11), .idxA (.v (globA 0)) (.t 10) 64 1, none⟩,
 ⟨(some 12), .load (.t 11) 1 false, none⟩,
 ⟨(some 13), .conv (.int .i64) (.t 12), none⟩,
 ⟨(some 2), .move (.t 13), none⟩])
  (.ret)))
theorem xf80 : xfunc Tryz.prog 80 = some ⟨xn80, xr80, xc80⟩ := by kernel_rfl
noncomputable def xn81 : Nat := 15
noncomputable def xr81 : List XRes := [.tmp 4]
noncomputable def xc81 : XCode := .seq (.region [⟨(some 4), .move (.v (.lit (.bool false))), none⟩])
  (.seq (.region [⟨(some 5), .move (.t 1), none⟩,
 ⟨(some 6), .bin true .other .geq (.t 5) (.v (.lit (.int .i64 0))), none⟩,
 ⟨(some 7), .move (.t 6), none⟩,
 ⟨(some 8), .move (.t 1), some (7, true)⟩,
 ⟨(some 9), .move (.t 0), some (7, true)⟩,
 ⟨(some 10), .nilCheck (.t 9), some (7, true)⟩,
 ⟨(some 11), .fieldAddr (.t 10) 0, some (7, true)⟩,
 ⟨(some 12), .load (.t 11) 1 false, some (7, true)⟩,
 ⟨(some 13), .bin false .other .lss (.t 8) (.t 12), some (7, true)⟩,
 ⟨(some 14), .pick (.t 7) (.t 13) (.v (.lit (.bool false))), none⟩,
 ⟨(some 4), .move (.t 14), none⟩])
  (.ret))
theorem xf81 : xfunc Tryz.prog 81 = some ⟨xn81, xr81, xc81⟩ := by kernel_rfl
noncomputable def xn83 : Nat := 54
noncomputable def xr83 : List XRes := [.tmp 6]
noncomputable def xc83 : XCode := .seq (.region [⟨(some 6), .move (.v (.lit (.bool false))), none⟩])
  (.seq (.region [⟨(some 7), .move (.v (.lit (.bool false))), none⟩])
  (.seq (.seq (.region [⟨(some 11), .move (.t 0), none⟩,
 ⟨(some 12), .nilCheck (.t 11), none⟩,
 ⟨(some 13), .fieldAddr (.t 12) 1, none⟩,
 ⟨(some 14), .load (.t 13) 1 false, none⟩,
 ⟨(some 15), .len .slice (.t 14), none⟩,
 ⟨(some 16), .move (.v (.lit (.int .i64 0))), none⟩])
  (.block 0 (.loop (.seq (.region [⟨(some 17), .bin false .other .lss (.t 16) (.t 15), none⟩])
  (.seq (.cond (.t 17)
    (.skip)
    (.exit 0))
  (.seq (.block 1 (.seq (.region [⟨(some 18), .move (.t 16), none⟩,
 ⟨(some 19), .indexAddr (.t 14) (.t 16) 1, none⟩,
 ⟨(some 20), .load (.t 19) 1 false, none⟩,
 ⟨(some 8), .move (.t 18), none⟩,
 ⟨(some 9), .move (.t 20), none⟩])
  (.seq (.region [⟨(some 21), .move (.t 2), none⟩,
 ⟨(some 22), .move (.t 9), none⟩,
 ⟨(some 23), .move (.t 1), none⟩,
 ⟨(some 24), .move (.t 8), none⟩,
 ⟨(some 25), .call (.v (.func (.func 138) [] [])) [(.t 23), (.t 24)], none⟩,
 ⟨(some 26), .call (.t 21) [(.t 22), (.t 25)], none⟩,
 ⟨(some 10), .move (.t 26), none⟩])
  (.seq (.seq (.region [⟨(some 27), .move (.t 8), none⟩,
 ⟨(some 28), .move (.t 0), none⟩,
 ⟨(some 29), .nilCheck (.t 28), none⟩,
 ⟨(some 30), .fieldAddr (.t 29) 1, none⟩,
 ⟨(some 31), .load (.t 30) 1 false, none⟩,
 ⟨(some 32), .len .slice (.t 31), none⟩,
 ⟨(some 33), .bin true .other .sub (.t 32) (.v (.lit (.int .i64 1))), none⟩,
 ⟨(some 34), .bin false .other .eql (.t 27) (.t 33), none⟩])
  (.cond (.t 34)
    (.region [⟨(some 35), .move (.t 10), none⟩,
      ⟨(some 36), .move (.t 0), none⟩,
      ⟨(some 37), .call (.v (.func (.func 139) [] [])) [(.t 36)], none⟩,
      ⟨(some 38), .bin false .other .and (.t 35) (.t 37), none⟩,
      ⟨(some 10), .move (.t 38), none⟩])
    (.skip)))
  (.seq (.region [⟨(some 39), .move (.t 7), none⟩,
 ⟨(some 40), .move (.t 39), none⟩,
 ⟨(some 41), .move (.t 10), some (40, false)⟩,
 ⟨(some 42), .move (.t 9), some (40, false)⟩,
 ⟨(some 43), .bin false .other .neq (.t 41) (.t 42), some (40, false)⟩,
 ⟨(some 44), .pick (.t 40) (.v (.lit (.bool true))) (.t 43), none⟩,
 ⟨(some 7), .move (.t 44), none⟩])
  (.region [⟨(some 45), .move (.t 0), none⟩,
 ⟨(some 46), .nilCheck (.t 45), none⟩,
 ⟨(some 47), .fieldAddr (.t 46) 1, none⟩,
 ⟨(some 48), .load (.t 47) 1 false, none⟩,
 ⟨(some 49), .move (.t 8), none⟩,
 ⟨(some 50), .move (.t 10), none⟩,
 ⟨(some 51), .indexAddr (.t 48) (.t 49) 1, none⟩,
 ⟨none, .store (.t 51) (.t 50) 1, none⟩]))))))
  (.region [⟨(some 52), .bin true .other .add (.t 16) (.v (.lit (.int .i64 1))), none⟩,
 ⟨(some 16), .move (.t 52), none⟩])))))))
  (.seq (.region [⟨(some 53), .move (.t 7), none⟩,
 ⟨(some 6), .move (.t 53), none⟩])
  (.ret))))
theorem xf83 : xfunc Tryz.prog 83 = some ⟨xn83, xr83, xc83⟩ := by kernel_rfl
noncomputable def xn84 : Nat := 5
noncomputable def xr84 : List XRes := [.tmp 4]
noncomputable def xc84 : XCode := .seq (.region [⟨(some 4), .move (.v (.lit (.int .u64 0))), none⟩])
  (.seq (.region [⟨(some 4), .move (.v (.lit (.int .u64 18446744073709551615))), none⟩])
  (.ret))
theorem xf84 : xfunc Tryz.prog 84 = some ⟨xn84, xr84, xc84⟩ := by kernel_rfl
noncomputable def xn85 : Nat := 17
noncomputable def xr85 : List XRes := []
noncomputable def xc85 : XCode := .region [⟨(some 4), .move (.t 0), none⟩,
 ⟨(some 5), .nilCheck (.t 4), none⟩,
 ⟨(some 6), .fieldAddr (.t 5) 1, none⟩,
 ⟨(some 7), .load (.t 6) 1 false, none⟩,
 ⟨(some 8), .move (.t 1), none⟩,
 ⟨(some 9), .bin true .other .quo (.t 8) (.v (.lit (.int .i64 64))), none⟩,
 ⟨(some 10), .indexAddr (.t 7) (.t 9) 1, none⟩,
 ⟨(some 11), .load (.t 10) 1 false, none⟩,
 ⟨(some 12), .move (.t 1), none⟩,
 ⟨(some 13), .bin true .other .rem (.t 12) (.v (.lit (.int .i64 64))), none⟩,
 ⟨(some 14), .bin true .other .shl (.v (.lit (.int .u64 1))) (.t 13), none⟩,
 ⟨(some 15), .bin false .other .xor (.t 11) (.t 14), none⟩,
 ⟨(some 16), .indexAddr (.t 7) (.t 9) 1, none⟩,
 ⟨none, .store (.t 16) (.t 15) 1, none⟩]
theorem xf85 : xfunc Tryz.prog 85 = some ⟨xn85, xr85, xc85⟩ := by kernel_rfl
noncomputable def xn99 : Nat := 48
noncomputable def xr99 : List XRes := [.tmp 2, .cell 3 2 true]
noncomputable def xc99 : XCode := .seq (.region [⟨(some 2), .move (.v (.lit (.slice none 0 0))), none⟩,
 ⟨(some 3), .alloc [(.lit (.int .i64 0)), (.lit (.int .i64 0))], none⟩])
  (.seq (.seq (.region [⟨(some 8), .move (.t 0), none⟩,
 ⟨(some 9), .len .other (.t 8), none⟩,
 ⟨(some 10), .bin true .other .gtr (.t 9) (.v (.lit (.int .i64 16384))), none⟩])
  (.cond (.t 10)
    (.seq (.region [⟨(some 11), .build [(.lit (.int .i64 0)), (.lit (.int .i64 0))] [(0, 1), (1, 1)] [(0, (.v (.lit (.int .i64 16384)))), (1, (.v (.lit (.int .i64 3))))], none⟩,
      ⟨(some 2), .move (.v (.lit (.slice none 0 0))), none⟩,
      ⟨none, .store (.t 3) (.t 11) 2, none⟩])
    (.ret))
    (.skip)))
  (.seq (.region [⟨(some 4), .move (.v (.lit (.slice none 0 0))), none⟩])
  (.seq (.seq (.region [⟨(some 12), .move (.t 0), none⟩,
 ⟨(some 13), .call (.v (.func (.func 163) [] [])) [(.t 12)], none⟩,
 ⟨(some 5), .move (.t 13), none⟩])
  (.block 0 (.loop (.seq (.seq (.region [⟨(some 14), .move (.t 5), none⟩,
 ⟨(some 15), .move (.t 0), none⟩,
 ⟨(some 16), .len .other (.t 15), none⟩,
 ⟨(some 17), .bin false .other .lss (.t 14) (.t 16), none⟩])
  (.cond (.t 17)
    (.skip)
    (.exit 0)))
  (.seq (.block 1 (.seq (.region [⟨(some 25), .move (.t 0), none⟩,
 ⟨(some 26), .move (.t 5), none⟩,
 ⟨(some 27), .slice true (.t 25) (some (.t 26)) none 0, none⟩,
 ⟨(some 28), .call (.v (.func (.func 164) [] [])) [(.t 27)], none⟩,
 ⟨(some 24), .move (.t 28), none⟩,
 ⟨(some 29), .extract (.t 24) 0, none⟩,
 ⟨(some 30), .extract (.t 24) 1, none⟩,
 ⟨(some 6), .alloc [(.lit (.int .i64 0)), (.lit (.int .i64 0)), (.str []), (.lit (.int .i64 0))], none⟩,
 ⟨none, .store (.t 6) (.t 29) 4, none⟩,
 ⟨(some 7), .move (.t 30), none⟩])
  (.seq (.seq (.region [⟨(some 31), .move (.t 7), none⟩,
 ⟨(some 32), .un .not (.t 31), none⟩])
  (.cond (.t 32)
    (.seq (.region [⟨(some 33), .move (.t 5), none⟩,
      ⟨(some 34), .build [(.lit (.int .i64 0)), (.lit (.int .i64 0))] [(0, 1), (1, 1)] [(0, (.t 33)), (1, (.v (.lit (.int .i64 1))))], none⟩,
      ⟨(some 2), .move (.v (.lit (.slice none 0 0))), none⟩,
      ⟨none, .store (.t 3) (.t 34) 2, none⟩])
    (.ret))
    (.skip)))
  (.seq (.region [⟨(some 35), .move (.t 5), none⟩,
 ⟨(some 36), .fieldAddr (.t 6) 1, none⟩,
 ⟨none, .store (.t 36) (.t 35) 1, none⟩])
  (.seq (.region [⟨(some 37), .move (.t 4), none⟩,
 ⟨(some 38), .load (.t 6) 4 true, none⟩,
 ⟨(some 39), .buildSlice [(.lit (.int .i64 0)), (.lit (.int .i64 0)), (.str []), (.lit (.int .i64 0))] 1 [(0, (.t 38))], none⟩,
 ⟨(some 40), .append 4 (.t 37) (.t 39), none⟩,
 ⟨(some 4), .move (.t 40), none⟩])
  (.region [⟨(some 41), .move (.t 5), none⟩,
 ⟨(some 42), .fieldAddr (.t 6) 2, none⟩,
 ⟨(some 43), .load (.t 42) 1 false, none⟩,
 ⟨(some 44), .len .other (.t 43), none⟩,
 ⟨(some 45), .bin false .other .add (.t 41) (.t 44), none⟩,
 ⟨(some 5), .move (.t 45), none⟩]))))))
  (.region [⟨(some 18), .move (.t 5), none⟩,
 ⟨(some 19), .move (.t 0), none⟩,
 ⟨(some 20), .move (.t 5), none⟩,
 ⟨(some 21), .slice true (.t 19) (some (.t 20)) none 0, none⟩,
 ⟨(some 22), .call (.v (.func (.func 163) [] [])) [(.t 21)], none⟩,
 ⟨(some 23), .bin false .other .add (.t 18) (.t 22), none⟩,
 ⟨(some 5), .move (.t 23), none⟩]))))))
  (.seq (.region [⟨(some 46), .move (.t 4), none⟩,
 ⟨(some 47), .build [(.lit (.int .i64 0)), (.lit (.int .i64 0))] [(0, 1), (1, 1)] [], none⟩,
 ⟨(some 2), .move (.t 46), none⟩,
 ⟨none, .store (.t 3) (.t 47) 2, none⟩])
  (.ret)))))
theorem xf99 : xfunc Tryz.prog 99 = some ⟨xn99, xr99, xc99⟩ := by kernel_rfl
noncomputable def xn100 : Nat := 68
noncomputable def xr100 : List XRes := [.cell 2 3 true]
noncomputable def xc100 : XCode := .seq (.region [⟨(some 2), .alloc [(.lit (.slice none 0 0)), (.lit (.slice none 0 0)), (.lit (.slice none 0 0))], none⟩])
  (.seq (.region [⟨(some 3), .alloc [(.lit (.slice none 0 0)), (.lit (.slice none 0 0)), (.lit (.slice none 0 0))], none⟩])
  (.seq (.block 0 (.loop (.seq (.seq (.region [⟨(some 4), .move (.t 0), none⟩,
 ⟨(some 5), .nilCheck (.t 4), none⟩,
 ⟨(some 6), .fieldAddr (.t 5) 2, none⟩,
 ⟨(some 7), .load (.t 6) 1 false, none⟩,
 ⟨(some 8), .bin true .other .eql (.t 7) (.v (.lit (.int .i64 (-1)))), none⟩,
 ⟨(some 9), .move (.t 8), none⟩,
 ⟨(some 10), .move (.t 0), some (9, true)⟩,
 ⟨(some 11), .nilCheck (.t 10), some (9, true)⟩,
 ⟨(some 12), .fieldAddr (.t 11) 0, some (9, true)⟩,
 ⟨(some 13), .load (.t 12) 1 false, some (9, true)⟩,
 ⟨(some 14), .len .slice (.t 13), some (9, true)⟩,
 ⟨(some 15), .bin true .other .gtr (.t 14) (.v (.lit (.int .i64 0))), some (9, true)⟩,
 ⟨(some 16), .pick (.t 9) (.t 15) (.v (.lit (.bool false))), none⟩])
  (.cond (.t 16)
    (.skip)
    (.exit 0)))
  (.block 1 (.block 2 (.seq (.region [⟨(some 20), .move (.t 0), none⟩,
 ⟨(some 21), .buildSlice [(.str [])] 1 [(0, (.v (.str [115, 116, 114, 117, 99, 116])))], none⟩,
 ⟨(some 22), .call (.v (.func (.func 165) [] [])) [(.t 20), (.t 21)], none⟩,
 ⟨(some 19), .move (.t 22), none⟩])
  (.cond (.t 19)
    (.seq (.region [⟨(some 23), .move (.t 0), none⟩,
      ⟨(some 24), .fieldAddr (.t 3) 0, none⟩,
      ⟨(some 25), .load (.t 24) 1 false, none⟩,
      ⟨(some 26), .len .slice (.t 25), none⟩,
      ⟨(some 27), .call (.v (.func (.func 166) [] [])) [(.t 23), (.t 26), (.v (.lit (.int .i64 16)))], none⟩])
    (.draw [⟨.pure, 0, 1⟩, ⟨.read, 0, 1⟩, ⟨.pure, 0, 0⟩, ⟨.eff, 0, 1⟩, ⟨.fresh, 1, 1⟩, ⟨.eff, 1, 2⟩, ⟨.pure, 2, 2⟩, ⟨.eff, 2, 3⟩] [⟨(some 28), .fieldAddr (.t 3) 0, none⟩,
      ⟨(some 29), .load (.t 28) 1 false, none⟩,
      ⟨(some 30), .move (.t 0), none⟩,
      ⟨(some 31), .call (.v (.func (.func 167) [] [])) [(.t 30)], none⟩,
      ⟨(some 32), .buildSlice [(.lit (.int .i64 0)), (.str []), (.lit (.bool false)), (.lit (.bool false)), (.lit (.slice none 0 0))] 1 [(0, (.t 31))], none⟩,
      ⟨(some 33), .append 5 (.t 29) (.t 32), none⟩,
      ⟨(some 34), .fieldAddr (.t 3) 0, none⟩,
      ⟨none, .store (.t 34) (.t 33) 1, none⟩]))
    (.seq (.region [⟨(some 36), .move (.t 0), none⟩,
      ⟨(some 37), .buildSlice [(.str [])] 1 [(0, (.v (.str [101, 110, 117, 109])))], none⟩,
      ⟨(some 38), .call (.v (.func (.func 165) [] [])) [(.t 36), (.t 37)], none⟩,
      ⟨(some 35), .move (.t 38), none⟩])
    (.cond (.t 35)
      (.seq (.region [⟨(some 39), .move (.t 0), none⟩,
        ⟨(some 40), .fieldAddr (.t 3) 1, none⟩,
        ⟨(some 41), .load (.t 40) 1 false, none⟩,
        ⟨(some 42), .len .slice (.t 41), none⟩,
        ⟨(some 43), .call (.v (.func (.func 166) [] [])) [(.t 39), (.t 42), (.v (.lit (.int .i64 16)))], none⟩])
      (.draw [⟨.pure, 0, 1⟩, ⟨.read, 0, 1⟩, ⟨.pure, 0, 0⟩, ⟨.eff, 0, 1⟩, ⟨.fresh, 1, 1⟩, ⟨.eff, 1, 2⟩, ⟨.pure, 2, 2⟩, ⟨.eff, 2, 3⟩] [⟨(some 44), .fieldAddr (.t 3) 1, none⟩,
        ⟨(some 45), .load (.t 44) 1 false, none⟩,
        ⟨(some 46), .move (.t 0), none⟩,
        ⟨(some 47), .call (.v (.func (.func 168) [] [])) [(.t 46)], none⟩,
        ⟨(some 48), .buildSlice [(.lit (.int .i64 0)), (.str []), (.lit (.slice none 0 0))] 1 [(0, (.t 47))], none⟩,
        ⟨(some 49), .append 3 (.t 45) (.t 48), none⟩,
        ⟨(some 50), .fieldAddr (.t 3) 1, none⟩,
        ⟨none, .store (.t 50) (.t 49) 1, none⟩]))
      (.seq (.region [⟨(some 52), .move (.t 0), none⟩,
        ⟨(some 53), .buildSlice [(.str [])] 1 [(0, (.v (.str [102, 110])))], none⟩,
        ⟨(some 54), .call (.v (.func (.func 165) [] [])) [(.t 52), (.t 53)], none⟩,
        ⟨(some 51), .move (.t 54), none⟩])
      (.cond (.t 51)
        (.seq (.region [⟨(some 55), .move (.t 0), none⟩,
          ⟨(some 56), .fieldAddr (.t 3) 2, none⟩,
          ⟨(some 57), .load (.t 56) 1 false, none⟩,
          ⟨(some 58), .len .slice (.t 57), none⟩,
          ⟨(some 59), .call (.v (.func (.func 166) [] [])) [(.t 55), (.t 58), (.v (.lit (.int .i64 16)))], none⟩])
        (.draw [⟨.pure, 0, 1⟩, ⟨.read, 0, 1⟩, ⟨.pure, 0, 0⟩, ⟨.eff, 0, 1⟩, ⟨.fresh, 1, 1⟩, ⟨.eff, 1, 2⟩, ⟨.pure, 2, 2⟩, ⟨.eff, 2, 3⟩] [⟨(some 60), .fieldAddr (.t 3) 2, none⟩,
          ⟨(some 61), .load (.t 60) 1 false, none⟩,
          ⟨(some 62), .move (.t 0), none⟩,
          ⟨(some 63), .call (.v (.func (.func 169) [] [])) [(.t 62)], none⟩,
          ⟨(some 64), .buildSlice [(.lit (.int .i64 0)), (.str []), (.lit (.slice none 0 0)), (.lit (.slice none 0 0)), (.str []), (.lit (.slice none 0 0))] 1 [(0, (.t 63))], none⟩,
          ⟨(some 65), .append 6 (.t 61) (.t 64), none⟩,
          ⟨(some 66), .fieldAddr (.t 3) 2, none⟩,
          ⟨none, .store (.t 66) (.t 65) 1, none⟩]))
        (.region [⟨(some 17), .move (.t 0), none⟩,
          ⟨(some 18), .call (.v (.func (.func 170) [] [])) [(.t 17)], none⟩]))))))))))))
  (.seq (.region [⟨(some 67), .load (.t 3) 3 true, none⟩,
 ⟨none, .store (.t 2) (.t 67) 3, none⟩])
  (.ret))))
theorem xf100 : xfunc Tryz.prog 100 = some ⟨xn100, xr100, xc100⟩ := by kernel_rfl
noncomputable def xn116 : Nat := 8
noncomputable def xr116 : List XRes := [.tmp 2]
noncomputable def xc116 : XCode := .seq (.region [⟨(some 2), .move (.v (.lit (.slice none 0 0))), none⟩])
  (.seq (.seq (.region [⟨(some 3), .move (.t 0), none⟩,
 ⟨(some 4), .bin true .slice .eql (.t 3) (.v (.lit (.slice none 0 0))), none⟩])
  (.cond (.t 4)
    (.seq (.region [⟨(some 2), .move (.v (.lit (.slice none 0 0))), none⟩])
    (.ret))
    (.skip)))
  (.seq (.region [⟨(some 5), .buildSlice [(.lit (.int .i64 0))] 0 [], none⟩,
 ⟨(some 6), .move (.t 0), none⟩,
 ⟨(some 7), .append 1 (.t 5) (.t 6), none⟩,
 ⟨(some 2), .move (.t 7), none⟩])
  (.ret)))
theorem xf116 : xfunc Tryz.prog 116 = some ⟨xn116, xr116, xc116⟩ := by kernel_rfl
noncomputable def xn117 : Nat := 32
noncomputable def xr117 : List XRes := []
noncomputable def xc117 : XCode := .seq (.seq (.region [⟨(some 7), .fieldAddr (.t 1) 6, none⟩,
 ⟨(some 8), .load (.t 7) 1 false, none⟩,
 ⟨(some 9), .len .slice (.t 8), none⟩,
 ⟨(some 10), .move (.v (.lit (.int .i64 0))), none⟩])
  (.block 0 (.loop (.seq (.region [⟨(some 11), .bin false .other .lss (.t 10) (.t 9), none⟩])
  (.seq (.cond (.t 11)
    (.skip)
    (.exit 0))
  (.seq (.block 1 (.seq (.region [⟨(some 12), .indexAddr (.t 8) (.t 10) 1, none⟩,
 ⟨(some 13), .load (.t 12) 1 false, none⟩,
 ⟨(some 4), .move (.t 13), none⟩])
  (.seq (.region [⟨(some 14), .move (.t 0), none⟩,
 ⟨(some 15), .move (.t 4), none⟩,
 ⟨(some 16), .call (.t 14) [(.t 15)], none⟩,
 ⟨(some 17), .un .not (.t 16), none⟩])
  (.cond (.t 17)
    (.ret)
    (.skip)))))
  (.region [⟨(some 18), .bin true .other .add (.t 10) (.v (.lit (.int .i64 1))), none⟩,
 ⟨(some 10), .move (.t 18), none⟩])))))))
  (.seq (.region [⟨(some 19), .fieldAddr (.t 1) 7, none⟩,
 ⟨(some 20), .load (.t 19) 1 false, none⟩,
 ⟨(some 21), .len .slice (.t 20), none⟩,
 ⟨(some 22), .move (.v (.lit (.int .i64 0))), none⟩])
  (.block 2 (.loop (.seq (.region [⟨(some 23), .bin false .other .lss (.t 22) (.t 21), none⟩])
  (.seq (.cond (.t 23)
    (.skip)
    (.exit 2))
  (.seq (.block 3 (.seq (.region [⟨(some 24), .indexAddr (.t 20) (.t 22) 3, none⟩,
 ⟨(some 25), .load (.t 24) 3 true, none⟩,
 ⟨(some 6), .alloc [(.str []), (.str []), (.str [])], none⟩,
 ⟨none, .store (.t 6) (.t 25) 3, none⟩])
  (.seq (.region [⟨(some 26), .move (.t 0), none⟩,
 ⟨(some 27), .fieldAddr (.t 6) 2, none⟩,
 ⟨(some 28), .load (.t 27) 1 false, none⟩,
 ⟨(some 29), .call (.t 26) [(.t 28)], none⟩,
 ⟨(some 30), .un .not (.t 29), none⟩])
  (.cond (.t 30)
    (.ret)
    (.skip)))))
  (.region [⟨(some 31), .bin true .other .add (.t 22) (.v (.lit (.int .i64 1))), none⟩,
 ⟨(some 22), .move (.t 31), none⟩])))))))
theorem xf117 : xfunc Tryz.prog 117 = some ⟨xn117, xr117, xc117⟩ := by kernel_rfl
noncomputable def xn118 : Nat := 19
noncomputable def xr118 : List XRes := [.tmp 4]
noncomputable def xc118 : XCode := .seq (.region [⟨(some 4), .move (.v (.lit (.int .i64 0))), none⟩])
  (.seq (.seq (.region [⟨(some 6), .move (.t 0), none⟩,
 ⟨(some 7), .len .slice (.t 6), none⟩,
 ⟨(some 8), .move (.v (.lit (.int .i64 0))), none⟩])
  (.block 0 (.loop (.seq (.region [⟨(some 9), .bin false .other .lss (.t 8) (.t 7), none⟩])
  (.seq (.cond (.t 9)
    (.skip)
    (.exit 0))
  (.seq (.block 1 (.seq (.region [⟨(some 10), .move (.t 8), none⟩,
 ⟨(some 5), .move (.t 10), none⟩])
  (.seq (.region [⟨(some 11), .move (.t 1), none⟩,
 ⟨(some 12), .move (.t 0), none⟩,
 ⟨(some 13), .move (.t 5), none⟩,
 ⟨(some 14), .indexAddr (.t 12) (.t 13) 11, none⟩,
 ⟨(some 15), .load (.t 14) 11 true, none⟩,
 ⟨(some 16), .call (.t 11) [(.t 15)], none⟩])
  (.cond (.t 16)
    (.seq (.region [⟨(some 17), .move (.t 5), none⟩,
      ⟨(some 4), .move (.t 17), none⟩])
    (.ret))
    (.skip)))))
  (.region [⟨(some 18), .bin true .other .add (.t 8) (.v (.lit (.int .i64 1))), none⟩,
 ⟨(some 8), .move (.t 18), none⟩])))))))
  (.seq (.region [⟨(some 4), .move (.v (.lit (.int .i64 (-1)))), none⟩])
  (.ret)))
theorem xf118 : xfunc Tryz.prog 118 = some ⟨xn118, xr118, xc118⟩ := by kernel_rfl
noncomputable def xn119 : Nat := 8
noncomputable def xr119 : List XRes := [.tmp 3]
noncomputable def xc119 : XCode := .seq (.region [⟨(some 2), .box (.t 0), none⟩,
 ⟨(some 3), .move (.v (.lit (.bool false))), none⟩])
  (.seq (.region [⟨(some 4), .fieldAddr (.t 2) 1, none⟩,
 ⟨(some 5), .load (.t 4) 1 false, none⟩,
 ⟨(some 6), .load (.t 1) 1 false, none⟩,
 ⟨(some 7), .bin false .other .eql (.t 5) (.t 6), none⟩,
 ⟨(some 3), .move (.t 7), none⟩])
  (.ret))
theorem xf119 : xfunc Tryz.prog 119 = some ⟨xn119, xr119, xc119⟩ := by kernel_rfl
noncomputable def xn120 : Nat := 19
noncomputable def xr120 : List XRes := [.tmp 4]
noncomputable def xc120 : XCode := .seq (.region [⟨(some 4), .move (.v (.lit (.int .i64 0))), none⟩])
  (.seq (.seq (.region [⟨(some 6), .move (.t 0), none⟩,
 ⟨(some 7), .len .slice (.t 6), none⟩,
 ⟨(some 8), .move (.v (.lit (.int .i64 0))), none⟩])
  (.block 0 (.loop (.seq (.region [⟨(some 9), .bin false .other .lss (.t 8) (.t 7), none⟩])
  (.seq (.cond (.t 9)
    (.skip)
    (.exit 0))
  (.seq (.block 1 (.seq (.region [⟨(some 10), .move (.t 8), none⟩,
 ⟨(some 5), .move (.t 10), none⟩])
  (.seq (.region [⟨(some 11), .move (.t 1), none⟩,
 ⟨(some 12), .move (.t 0), none⟩,
 ⟨(some 13), .move (.t 5), none⟩,
 ⟨(some 14), .indexAddr (.t 12) (.t 13) 1, none⟩,
 ⟨(some 15), .load (.t 14) 1 false, none⟩,
 ⟨(some 16), .bin false .other .eql (.t 11) (.t 15), none⟩])
  (.cond (.t 16)
    (.seq (.region [⟨(some 17), .move (.t 5), none⟩,
      ⟨(some 4), .move (.t 17), none⟩])
    (.ret))
    (.skip)))))
  (.region [⟨(some 18), .bin true .other .add (.t 8) (.v (.lit (.int .i64 1))), none⟩,
 ⟨(some 8), .move (.t 18), none⟩])))))))
  (.seq (.region [⟨(some 4), .move (.v (.lit (.int .i64 (-1)))), none⟩])
  (.ret)))
theorem xf120 : xfunc Tryz.prog 120 = some ⟨xn120, xr120, xc120⟩ := by kernel_rfl
noncomputable def xn121 : Nat := 28
noncomputable def xr121 : List XRes := []
noncomputable def xc121 : XCode := .seq (.region [⟨(some 4), .move (.t 0), none⟩,
 ⟨(some 5), .len .slice (.t 4), none⟩,
 ⟨(some 6), .bin true .other .sub (.t 5) (.v (.lit (.int .i64 1))), none⟩,
 ⟨(some 2), .move (.v (.lit (.int .i64 0))), none⟩,
 ⟨(some 3), .move (.t 6), none⟩])
  (.block 0 (.loop (.seq (.seq (.region [⟨(some 7), .move (.t 2), none⟩,
 ⟨(some 8), .move (.t 3), none⟩,
 ⟨(some 9), .bin false .other .lss (.t 7) (.t 8), none⟩])
  (.cond (.t 9)
    (.skip)
    (.exit 0)))
  (.seq (.block 1 (.region [⟨(some 14), .move (.t 0), none⟩,
 ⟨(some 15), .move (.t 2), none⟩,
 ⟨(some 16), .move (.t 0), none⟩,
 ⟨(some 17), .move (.t 3), none⟩,
 ⟨(some 18), .move (.t 0), none⟩,
 ⟨(some 19), .move (.t 3), none⟩,
 ⟨(some 20), .indexAddr (.t 18) (.t 19) 1, none⟩,
 ⟨(some 21), .load (.t 20) 1 false, none⟩,
 ⟨(some 22), .move (.t 0), none⟩,
 ⟨(some 23), .move (.t 2), none⟩,
 ⟨(some 24), .indexAddr (.t 22) (.t 23) 1, none⟩,
 ⟨(some 25), .load (.t 24) 1 false, none⟩,
 ⟨(some 26), .indexAddr (.t 14) (.t 15) 1, none⟩,
 ⟨none, .store (.t 26) (.t 21) 1, none⟩,
 ⟨(some 27), .indexAddr (.t 16) (.t 17) 1, none⟩,
 ⟨none, .store (.t 27) (.t 25) 1, none⟩]))
  (.region [⟨(some 10), .move (.t 2), none⟩,
 ⟨(some 11), .bin true .other .add (.t 10) (.v (.lit (.int .i64 1))), none⟩,
 ⟨(some 12), .move (.t 3), none⟩,
 ⟨(some 13), .bin true .other .sub (.t 12) (.v (.lit (.int .i64 1))), none⟩,
 ⟨(some 2), .move (.t 11), none⟩,
 ⟨(some 3), .move (.t 13), none⟩])))))
theorem xf121 : xfunc Tryz.prog 121 = some ⟨xn121, xr121, xc121⟩ := by kernel_rfl
noncomputable def xn122 : Nat := 30
noncomputable def xr122 : List XRes := [.tmp 4, .tmp 5]
noncomputable def xc122 : XCode := .seq (.region [⟨(some 4), .move (.v (.lit (.int .u64 0))), none⟩,
 ⟨(some 5), .move (.v (.lit (.int .u64 0))), none⟩])
  (.seq (.cond (.v (.lit (.bool false)))
    (.seq (.region [⟨(some 11), .move (.t 0), none⟩,
      ⟨(some 12), .conv (.int .u32) (.t 11), none⟩,
      ⟨(some 13), .move (.t 1), none⟩,
      ⟨(some 14), .conv (.int .u32) (.t 13), none⟩,
      ⟨(some 15), .call (.v (.func (.func 184) [] [])) [(.t 12), (.t 14)], none⟩,
      ⟨(some 10), .move (.t 15), none⟩,
      ⟨(some 16), .extract (.t 10) 0, none⟩,
      ⟨(some 17), .extract (.t 10) 1, none⟩,
      ⟨(some 6), .move (.t 16), none⟩,
      ⟨(some 7), .move (.t 17), none⟩])
    (.seq (.region [⟨(some 18), .move (.t 6), none⟩,
      ⟨(some 19), .conv (.int .u64) (.t 18), none⟩,
      ⟨(some 20), .move (.t 7), none⟩,
      ⟨(some 21), .conv (.int .u64) (.t 20), none⟩,
      ⟨(some 4), .move (.t 19), none⟩,
      ⟨(some 5), .move (.t 21), none⟩])
    (.ret)))
    (.skip))
  (.seq (.region [⟨(some 23), .move (.t 0), none⟩,
 ⟨(some 24), .move (.t 1), none⟩,
 ⟨(some 25), .call (.v (.func (.func 185) [] [])) [(.t 23), (.t 24)], none⟩,
 ⟨(some 22), .move (.t 25), none⟩,
 ⟨(some 26), .extract (.t 22) 0, none⟩,
 ⟨(some 27), .extract (.t 22) 1, none⟩,
 ⟨(some 8), .move (.t 26), none⟩,
 ⟨(some 9), .move (.t 27), none⟩])
  (.seq (.region [⟨(some 28), .move (.t 8), none⟩,
 ⟨(some 29), .move (.t 9), none⟩,
 ⟨(some 4), .move (.t 28), none⟩,
 ⟨(some 5), .move (.t 29), none⟩])
  (.ret))))
theorem xf122 : xfunc Tryz.prog 122 = some ⟨xn122, xr122, xc122⟩ := by kernel_rfl
noncomputable def xn123 : Nat := 23
noncomputable def xr123 : List XRes := [.tmp 4]
noncomputable def xc123 : XCode := .seq (.region [⟨(some 4), .move (.v (.lit (.bool false))), none⟩])
  (.seq (.region [⟨(some 5), .move (.t 0), none⟩,
 ⟨(some 6), .nilCheck (.t 5), none⟩,
 ⟨(some 7), .fieldAddr (.t 6) 1, none⟩,
 ⟨(some 8), .load (.t 7) 1 false, none⟩,
 ⟨(some 9), .move (.t 1), none⟩,
 ⟨(some 10), .indexAddr (.t 8) (.t 9) 1, none⟩,
 ⟨(some 11), .load (.t 10) 1 false, none⟩,
 ⟨(some 12), .bin true .other .eql (.t 11) (.v (.lit (.int .i64 0))), none⟩,
 ⟨(some 13), .move (.t 12), none⟩,
 ⟨(some 14), .move (.t 0), some (13, false)⟩,
 ⟨(some 15), .nilCheck (.t 14), some (13, false)⟩,
 ⟨(some 16), .fieldAddr (.t 15) 0, some (13, false)⟩,
 ⟨(some 17), .load (.t 16) 1 false, some (13, false)⟩,
 ⟨(some 18), .move (.t 1), some (13, false)⟩,
 ⟨(some 19), .indexAddr (.t 17) (.t 18) 1, some (13, false)⟩,
 ⟨(some 20), .load (.t 19) 1 false, some (13, false)⟩,
 ⟨(some 21), .bin true .other .neq (.t 20) (.v (.lit (.int .i64 (-1)))), some (13, false)⟩,
 ⟨(some 22), .pick (.t 13) (.v (.lit (.bool true))) (.t 21), none⟩,
 ⟨(some 4), .move (.t 22), none⟩])
  (.ret))
theorem xf123 : xfunc Tryz.prog 123 = some ⟨xn123, xr123, xc123⟩ := by kernel_rfl
noncomputable def xn124 : Nat := 40
noncomputable def xr124 : List XRes := [.tmp 6]
noncomputable def xc124 : XCode := .seq (.region [⟨(some 6), .move (.v (.lit (.int .i64 0))), none⟩])
  (.seq (.block 0 (.loop (.seq (.seq (.region [⟨(some 7), .move (.t 1), none⟩,
 ⟨(some 8), .move (.t 2), none⟩,
 ⟨(some 9), .bin false .other .neq (.t 7) (.t 8), none⟩])
  (.cond (.t 9)
    (.skip)
    (.exit 0)))
  (.block 1 (.seq (.region [⟨(some 10), .move (.t 0), none⟩,
 ⟨(some 11), .nilCheck (.t 10), none⟩,
 ⟨(some 12), .fieldAddr (.t 11) 1, none⟩,
 ⟨(some 13), .load (.t 12) 1 false, none⟩,
 ⟨(some 14), .move (.t 1), none⟩,
 ⟨(some 15), .indexAddr (.t 13) (.t 14) 1, none⟩,
 ⟨(some 16), .load (.t 15) 1 false, none⟩,
 ⟨(some 17), .move (.t 0), none⟩,
 ⟨(some 18), .nilCheck (.t 17), none⟩,
 ⟨(some 19), .fieldAddr (.t 18) 1, none⟩,
 ⟨(some 20), .load (.t 19) 1 false, none⟩,
 ⟨(some 21), .move (.t 2), none⟩,
 ⟨(some 22), .indexAddr (.t 20) (.t 21) 1, none⟩,
 ⟨(some 23), .load (.t 22) 1 false, none⟩,
 ⟨(some 24), .bin false .other .gtr (.t 16) (.t 23), none⟩])
  (.cond (.t 24)
    (.region [⟨(some 25), .move (.t 0), none⟩,
      ⟨(some 26), .nilCheck (.t 25), none⟩,
      ⟨(some 27), .fieldAddr (.t 26) 0, none⟩,
      ⟨(some 28), .load (.t 27) 1 false, none⟩,
      ⟨(some 29), .move (.t 1), none⟩,
      ⟨(some 30), .indexAddr (.t 28) (.t 29) 1, none⟩,
      ⟨(some 31), .load (.t 30) 1 false, none⟩,
      ⟨(some 1), .move (.t 31), none⟩])
    (.region [⟨(some 32), .move (.t 0), none⟩,
      ⟨(some 33), .nilCheck (.t 32), none⟩,
      ⟨(some 34), .fieldAddr (.t 33) 0, none⟩,
      ⟨(some 35), .load (.t 34) 1 false, none⟩,
      ⟨(some 36), .move (.t 2), none⟩,
      ⟨(some 37), .indexAddr (.t 35) (.t 36) 1, none⟩,
      ⟨(some 38), .load (.t 37) 1 false, none⟩,
      ⟨(some 2), .move (.t 38), none⟩])))))))
  (.seq (.region [⟨(some 39), .move (.t 1), none⟩,
 ⟨(some 6), .move (.t 39), none⟩])
  (.ret)))
theorem xf124 : xfunc Tryz.prog 124 = some ⟨xn124, xr124, xc124⟩ := by kernel_rfl
noncomputable def xn125 : Nat := 19
noncomputable def xr125 : List XRes := [.tmp 4]
noncomputable def xc125 : XCode := .seq (.region [⟨(some 4), .move (.v (.lit (.int .i64 0))), none⟩])
  (.seq (.seq (.region [⟨(some 6), .move (.t 0), none⟩,
 ⟨(some 7), .len .slice (.t 6), none⟩,
 ⟨(some 8), .move (.v (.lit (.int .i64 0))), none⟩])
  (.block 0 (.loop (.seq (.region [⟨(some 9), .bin false .other .lss (.t 8) (.t 7), none⟩])
  (.seq (.cond (.t 9)
    (.skip)
    (.exit 0))
  (.seq (.block 1 (.seq (.region [⟨(some 10), .move (.t 8), none⟩,
 ⟨(some 5), .move (.t 10), none⟩])
  (.seq (.region [⟨(some 11), .move (.t 1), none⟩,
 ⟨(some 12), .move (.t 0), none⟩,
 ⟨(some 13), .move (.t 5), none⟩,
 ⟨(some 14), .indexAddr (.t 12) (.t 13) 1, none⟩,
 ⟨(some 15), .load (.t 14) 1 false, none⟩,
 ⟨(some 16), .call (.t 11) [(.t 15)], none⟩])
  (.cond (.t 16)
    (.seq (.region [⟨(some 17), .move (.t 5), none⟩,
      ⟨(some 4), .move (.t 17), none⟩])
    (.ret))
    (.skip)))))
  (.region [⟨(some 18), .bin true .other .add (.t 8) (.v (.lit (.int .i64 1))), none⟩,
 ⟨(some 8), .move (.t 18), none⟩])))))))
  (.seq (.region [⟨(some 4), .move (.v (.lit (.int .i64 (-1)))), none⟩])
  (.ret)))
theorem xf125 : xfunc Tryz.prog 125 = some ⟨xn125, xr125, xc125⟩ := by kernel_rfl
noncomputable def xn126 : Nat := 4
noncomputable def xr126 : List XRes := [.tmp 2]
noncomputable def xc126 : XCode := .seq (.region [⟨(some 1), .box (.t 0), none⟩,
 ⟨(some 2), .move (.v (.lit .nilFunc)), none⟩])
  (.seq (.region [⟨(some 3), .func (.func 186) [] [(.t 1)], none⟩,
 ⟨(some 2), .move (.t 3), none⟩])
  (.ret))
theorem xf126 : xfunc Tryz.prog 126 = some ⟨xn126, xr126, xc126⟩ := by kernel_rfl
noncomputable def xn127 : Nat := 16
noncomputable def xr127 : List XRes := []
noncomputable def xa127_0 : XCode := .region [⟨(some 4), .move (.t 11), none⟩]
noncomputable def xb127_0 : XCode := .block 1 (.seq (.region [⟨(some 12), .load (.t 2) 1 false, none⟩,
 ⟨(some 13), .move (.t 4), none⟩,
 ⟨(some 14), .call (.t 12) [(.t 13)], none⟩,
 ⟨(some 15), .un .not (.t 14), none⟩])
  (.cond (.t 15)
    (.ret)
    (.skip)))
theorem xaf127_0 : xcomp Tryz.prog 16 (bodyAt Tryz.prog 127 [1, 1, 0, 0]) = some xa127_0 := by kernel_rfl
theorem xbf127_0 : xcomp Tryz.prog 16 (bodyAt Tryz.prog 127 [1, 1, 0, 1]) = some xb127_0 := by kernel_rfl
noncomputable def xc127 : XCode := .seq (.region [⟨(some 2), .box (.t 0), none⟩])
  (.seq (.region [⟨(some 5), .load (.t 1) 1 false, none⟩,
 ⟨(some 6), .nilCheck (.t 5), none⟩,
 ⟨(some 7), .fieldAddr (.t 6) 2, none⟩,
 ⟨(some 8), .load (.t 7) 1 false, none⟩,
 ⟨(some 9), .call (.v (.func (.func 128) [] [])) [(.t 8)], none⟩])
  (.block 0 (.range (.t 9) #[10, 11] (bodyAt Tryz.prog 127 [1, 1, 0, 0]) (bodyAt Tryz.prog 127 [1, 1, 0, 1]) xa127_0 xb127_0)))
theorem xf127 : xfunc Tryz.prog 127 = some ⟨xn127, xr127, xc127⟩ := by kernel_rfl
noncomputable def xn128 : Nat := 4
noncomputable def xr128 : List XRes := [.tmp 2]
noncomputable def xc128 : XCode := .seq (.region [⟨(some 1), .box (.t 0), none⟩,
 ⟨(some 2), .move (.v (.lit .nilFunc)), none⟩])
  (.seq (.region [⟨(some 3), .func (.func 187) [] [(.t 1)], none⟩,
 ⟨(some 2), .move (.t 3), none⟩])
  (.ret))
theorem xf128 : xfunc Tryz.prog 128 = some ⟨xn128, xr128, xc128⟩ := by kernel_rfl
noncomputable def xn129 : Nat := 6
noncomputable def xr129 : List XRes := [.tmp 4]
noncomputable def xc129 : XCode := .seq (.region [⟨(some 2), .box (.t 0), none⟩,
 ⟨(some 3), .box (.t 1), none⟩,
 ⟨(some 4), .move (.v (.lit .nilFunc)), none⟩])
  (.seq (.region [⟨(some 5), .func (.func 188) [] [(.t 2), (.t 3)], none⟩,
 ⟨(some 4), .move (.t 5), none⟩])
  (.ret))
theorem xf129 : xfunc Tryz.prog 129 = some ⟨xn129, xr129, xc129⟩ := by kernel_rfl
noncomputable def xn130 : Nat := 8
noncomputable def xr130 : List XRes := [.tmp 4]
noncomputable def xc130 : XCode := .seq (.region [⟨(some 4), .move (.v (.lit (.bool false))), none⟩])
  (.seq (.region [⟨(some 5), .move (.t 0), none⟩,
 ⟨(some 6), .move (.t 1), none⟩,
 ⟨(some 7), .call (.v (.func (.func 83) [] [])) [(.t 5), (.t 6), (.v (.func (.func 189) [] []))], none⟩,
 ⟨(some 4), .move (.t 7), none⟩])
  (.ret))
theorem xf130 : xfunc Tryz.prog 130 = some ⟨xn130, xr130, xc130⟩ := by kernel_rfl
noncomputable def xn131 : Nat := 13
noncomputable def xr131 : List XRes := [.tmp 4]
noncomputable def xc131 : XCode := .seq (.region [⟨(some 4), .move (.v (.lit (.pointer none))), none⟩])
  (.seq (.seq (.region [⟨(some 5), .move (.t 1), none⟩,
 ⟨(some 6), .move (.t 0), none⟩,
 ⟨(some 7), .len .slice (.t 6), none⟩,
 ⟨(some 8), .bin false .other .geq (.t 5) (.t 7), none⟩])
  (.cond (.t 8)
    (.seq (.region [⟨(some 4), .move (.v (.lit (.pointer none))), none⟩])
    (.ret))
    (.skip)))
  (.seq (.region [⟨(some 9), .move (.t 0), none⟩,
 ⟨(some 10), .move (.t 1), none⟩,
 ⟨(some 11), .indexAddr (.t 9) (.t 10) 1, none⟩,
 ⟨(some 12), .load (.t 11) 1 false, none⟩,
 ⟨(some 4), .move (.t 12), none⟩])
  (.ret)))
theorem xf131 : xfunc Tryz.prog 131 = some ⟨xn131, xr131, xc131⟩ := by kernel_rfl
noncomputable def xn136 : Nat := 8
noncomputable def xr136 : List XRes := [.tmp 4]
noncomputable def xc136 : XCode := .seq (.region [⟨(some 4), .move (.v (.lit (.int .u64 0))), none⟩])
  (.seq (.region [⟨(some 5), .move (.t 0), none⟩,
 ⟨(some 6), .move (.t 1), none⟩,
 ⟨(some 7), .bin false .other .or (.t 5) (.t 6), none⟩,
 ⟨(some 4), .move (.t 7), none⟩])
  (.ret))
theorem xf136 : xfunc Tryz.prog 136 = some ⟨xn136, xr136, xc136⟩ := by kernel_rfl
noncomputable def xn137 : Nat := 6
noncomputable def xr137 : List XRes := [.tmp 4]
noncomputable def xc137 : XCode := .seq (.region [⟨(some 2), .box (.t 0), none⟩,
 ⟨(some 3), .box (.t 1), none⟩,
 ⟨(some 4), .move (.v (.lit .nilFunc)), none⟩])
  (.seq (.region [⟨(some 5), .func (.func 191) [] [(.t 2), (.t 3)], none⟩,
 ⟨(some 4), .move (.t 5), none⟩])
  (.ret))
theorem xf137 : xfunc Tryz.prog 137 = some ⟨xn137, xr137, xc137⟩ := by kernel_rfl
noncomputable def xn138 : Nat := 19
noncomputable def xr138 : List XRes := [.tmp 4]
noncomputable def xc138 : XCode := .seq (.region [⟨(some 4), .move (.v (.lit (.int .u64 0))), none⟩])
  (.seq (.seq (.region [⟨(some 5), .move (.t 1), none⟩,
 ⟨(some 6), .move (.t 0), none⟩,
 ⟨(some 7), .nilCheck (.t 6), none⟩,
 ⟨(some 8), .fieldAddr (.t 7) 1, none⟩,
 ⟨(some 9), .load (.t 8) 1 false, none⟩,
 ⟨(some 10), .len .slice (.t 9), none⟩,
 ⟨(some 11), .bin false .other .geq (.t 5) (.t 10), none⟩])
  (.cond (.t 11)
    (.seq (.region [⟨(some 4), .move (.v (.lit (.int .u64 0))), none⟩])
    (.ret))
    (.skip)))
  (.seq (.region [⟨(some 12), .move (.t 0), none⟩,
 ⟨(some 13), .nilCheck (.t 12), none⟩,
 ⟨(some 14), .fieldAddr (.t 13) 1, none⟩,
 ⟨(some 15), .load (.t 14) 1 false, none⟩,
 ⟨(some 16), .move (.t 1), none⟩,
 ⟨(some 17), .indexAddr (.t 15) (.t 16) 1, none⟩,
 ⟨(some 18), .load (.t 17) 1 false, none⟩,
 ⟨(some 4), .move (.t 18), none⟩])
  (.ret)))
theorem xf138 : xfunc Tryz.prog 138 = some ⟨xn138, xr138, xc138⟩ := by kernel_rfl
noncomputable def xn139 : Nat := 14
noncomputable def xr139 : List XRes := [.tmp 2]
noncomputable def xc139 : XCode := .seq (.region [⟨(some 2), .move (.v (.lit (.int .u64 0))), none⟩])
  (.seq (.seq (.region [⟨(some 4), .move (.t 0), none⟩,
 ⟨(some 5), .nilCheck (.t 4), none⟩,
 ⟨(some 6), .fieldAddr (.t 5) 0, none⟩,
 ⟨(some 7), .load (.t 6) 1 false, none⟩,
 ⟨(some 8), .bin true .other .rem (.t 7) (.v (.lit (.int .i64 64))), none⟩,
 ⟨(some 3), .move (.t 8), none⟩])
  (.seq (.region [⟨(some 9), .move (.t 3), none⟩,
 ⟨(some 10), .bin true .other .neq (.t 9) (.v (.lit (.int .i64 0))), none⟩])
  (.cond (.t 10)
    (.seq (.region [⟨(some 11), .move (.t 3), none⟩,
      ⟨(some 12), .bin true .other .shl (.v (.lit (.int .u64 1))) (.t 11), none⟩,
      ⟨(some 13), .bin true .other .sub (.t 12) (.v (.lit (.int .u64 1))), none⟩,
      ⟨(some 2), .move (.t 13), none⟩])
    (.ret))
    (.skip))))
  (.seq (.region [⟨(some 2), .move (.v (.lit (.int .u64 18446744073709551615))), none⟩])
  (.ret)))
theorem xf139 : xfunc Tryz.prog 139 = some ⟨xn139, xr139, xc139⟩ := by kernel_rfl
noncomputable def xn163 : Nat := 28
noncomputable def xr163 : List XRes := [.tmp 2]
noncomputable def xc163 : XCode := .seq (.region [⟨(some 2), .move (.v (.lit (.int .i64 0))), none⟩])
  (.seq (.region [⟨(some 3), .move (.v (.lit (.int .i64 0))), none⟩])
  (.seq (.skip)
  (.seq (.block 0 (.loop (.seq (.seq (.region [⟨(some 4), .move (.t 3), none⟩,
 ⟨(some 5), .move (.t 0), none⟩,
 ⟨(some 6), .len .other (.t 5), none⟩,
 ⟨(some 7), .bin false .other .lss (.t 4) (.t 6), none⟩])
  (.cond (.t 7)
    (.skip)
    (.exit 0)))
  (.block 1 (.block 2 (.seq (.region [⟨(some 9), .move (.t 0), none⟩,
 ⟨(some 10), .move (.t 3), none⟩,
 ⟨(some 11), .index (.t 9) (.t 10), none⟩,
 ⟨(some 12), .call (.v (.func (.func 215) [] [])) [(.v (.str [32, 9, 10])), (.t 11)], none⟩,
 ⟨(some 13), .bin true .other .geq (.t 12) (.v (.lit (.int .i64 0))), none⟩,
 ⟨(some 8), .move (.t 13), none⟩])
  (.cond (.t 8)
    (.region [⟨(some 14), .move (.t 3), none⟩,
      ⟨(some 15), .bin true .other .add (.t 14) (.v (.lit (.int .i64 1))), none⟩,
      ⟨(some 3), .move (.t 15), none⟩])
    (.seq (.region [⟨(some 17), .move (.t 0), none⟩,
      ⟨(some 18), .move (.t 3), none⟩,
      ⟨(some 19), .index (.t 17) (.t 18), none⟩,
      ⟨(some 20), .bin true .other .eql (.t 19) (.v (.lit (.int .u8 35))), none⟩,
      ⟨(some 16), .move (.t 20), none⟩])
    (.cond (.t 16)
      (.region [⟨(some 21), .move (.t 3), none⟩,
        ⟨(some 22), .move (.t 0), none⟩,
        ⟨(some 23), .move (.t 3), none⟩,
        ⟨(some 24), .slice true (.t 22) (some (.t 23)) none 0, none⟩,
        ⟨(some 25), .call (.v (.func (.func 196) [] [])) [(.t 24), (.v (.func (.func 216) [] []))], none⟩,
        ⟨(some 26), .bin false .other .add (.t 21) (.t 25), none⟩,
        ⟨(some 3), .move (.t 26), none⟩])
      (.exit 0))))))))))
  (.seq (.region [⟨(some 27), .move (.t 3), none⟩,
 ⟨(some 2), .move (.t 27), none⟩])
  (.ret)))))
theorem xf163 : xfunc Tryz.prog 163 = some ⟨xn163, xr163, xc163⟩ := by kernel_rfl
noncomputable def xn164 : Nat := 69
noncomputable def xr164 : List XRes := [.cell 2 4 true, .tmp 3]
noncomputable def xc164 : XCode := .seq (.region [⟨(some 2), .alloc [(.lit (.int .i64 0)), (.lit (.int .i64 0)), (.str []), (.lit (.int .i64 0))], none⟩,
 ⟨(some 3), .move (.v (.lit (.bool false))), none⟩])
  (.seq (.seq (.region [⟨(some 10), .move (.t 0), none⟩,
 ⟨(some 11), .index (.t 10) (.v (.lit (.int .i64 0))), none⟩,
 ⟨(some 4), .move (.t 11), none⟩])
  (.block 0 (.seq (.region [⟨(some 13), .move (.t 4), none⟩,
 ⟨(some 14), .call (.v (.func (.func 194) [] [])) [(.t 13)], none⟩,
 ⟨(some 12), .move (.t 14), none⟩])
  (.cond (.t 12)
    (.seq (.region [⟨(some 15), .move (.t 0), none⟩,
      ⟨(some 16), .call (.v (.func (.func 196) [] [])) [(.t 15), (.v (.func (.func 197) [] []))], none⟩,
      ⟨(some 5), .move (.t 16), none⟩])
    (.seq (.region [⟨(some 17), .move (.t 0), none⟩,
      ⟨(some 18), .move (.t 5), none⟩,
      ⟨(some 19), .slice true (.t 17) none (some (.t 18)) 0, none⟩,
      ⟨(some 20), .build [(.lit (.int .i64 0)), (.lit (.int .i64 0)), (.str []), (.lit (.int .i64 0))] [(0, 1), (1, 1), (2, 1), (3, 1)] [(0, (.v (.lit (.int .i64 1)))), (2, (.t 19))], none⟩,
      ⟨(some 6), .alloc [(.lit (.int .i64 0)), (.lit (.int .i64 0)), (.str []), (.lit (.int .i64 0))], none⟩,
      ⟨none, .store (.t 6) (.t 20) 4, none⟩])
    (.seq (.seq (.region [⟨(some 21), .fieldAddr (.t 6) 2, none⟩,
      ⟨(some 22), .load (.t 21) 1 false, none⟩,
      ⟨(some 23), .call (.v (.func (.func 195) [] [])) [(.t 22)], none⟩])
    (.cond (.t 23)
      (.region [⟨(some 24), .fieldAddr (.t 6) 0, none⟩,
        ⟨none, .store (.t 24) (.v (.lit (.int .i64 2))) 1, none⟩])
      (.skip)))
    (.seq (.region [⟨(some 25), .load (.t 6) 4 true, none⟩,
      ⟨(some 26), .move (.t 5), none⟩,
      ⟨(some 27), .bin true .other .leq (.t 26) (.v (.lit (.int .i64 16))), none⟩,
      ⟨none, .store (.t 2) (.t 25) 4, none⟩,
      ⟨(some 3), .move (.t 27), none⟩])
    (.ret)))))
    (.seq (.region [⟨(some 29), .move (.t 4), none⟩,
      ⟨(some 30), .bin true .other .eql (.t 29) (.v (.lit (.int .u8 45))), none⟩,
      ⟨(some 31), .move (.t 30), none⟩,
      ⟨(some 32), .move (.t 4), some (31, false)⟩,
      ⟨(some 33), .call (.v (.func (.func 217) [] [])) [(.t 32)], some (31, false)⟩,
      ⟨(some 34), .pick (.t 31) (.v (.lit (.bool true))) (.t 33), none⟩,
      ⟨(some 28), .move (.t 34), none⟩])
    (.cond (.t 28)
      (.seq (.region [⟨(some 35), .move (.t 0), none⟩,
        ⟨(some 36), .slice true (.t 35) (some (.v (.lit (.int .i64 1)))) none 0, none⟩,
        ⟨(some 37), .call (.v (.func (.func 196) [] [])) [(.t 36), (.v (.func (.func 217) [] []))], none⟩,
        ⟨(some 38), .bin true .other .add (.v (.lit (.int .i64 1))) (.t 37), none⟩,
        ⟨(some 7), .move (.t 38), none⟩])
      (.seq (.region [⟨(some 40), .move (.t 0), none⟩,
        ⟨(some 41), .move (.t 7), none⟩,
        ⟨(some 42), .slice true (.t 40) none (some (.t 41)) 0, none⟩,
        ⟨(some 43), .call (.v (.func (.func 218) [] [])) [(.t 42), (.v (.lit (.int .i64 10))), (.v (.lit (.int .i64 64)))], none⟩,
        ⟨(some 39), .move (.t 43), none⟩,
        ⟨(some 44), .extract (.t 39) 0, none⟩,
        ⟨(some 45), .extract (.t 39) 1, none⟩,
        ⟨(some 8), .move (.t 44), none⟩,
        ⟨(some 9), .move (.t 45), none⟩])
      (.seq (.region [⟨(some 46), .move (.t 0), none⟩,
        ⟨(some 47), .move (.t 7), none⟩,
        ⟨(some 48), .slice true (.t 46) none (some (.t 47)) 0, none⟩,
        ⟨(some 49), .move (.t 8), none⟩,
        ⟨(some 50), .build [(.lit (.int .i64 0)), (.lit (.int .i64 0)), (.str []), (.lit (.int .i64 0))] [(0, 1), (1, 1), (2, 1), (3, 1)] [(0, (.v (.lit (.int .i64 3)))), (2, (.t 48)), (3, (.t 49))], none⟩,
        ⟨(some 51), .move (.t 9), none⟩,
        ⟨(some 52), .bin true .iface .eql (.t 51) (.v (.lit .nilIface)), none⟩,
        ⟨(some 53), .move (.t 52), none⟩,
        ⟨(some 54), .move (.t 8), some (53, true)⟩,
        ⟨(some 55), .bin true .other .geq (.t 54) (.v (.lit (.int .i64 (-1099511627776)))), some (53, true)⟩,
        ⟨(some 56), .pick (.t 53) (.t 55) (.v (.lit (.bool false))), none⟩,
        ⟨(some 57), .move (.t 56), none⟩,
        ⟨(some 58), .move (.t 8), some (57, true)⟩,
        ⟨(some 59), .bin true .other .leq (.t 58) (.v (.lit (.int .i64 1099511627776))), some (57, true)⟩,
        ⟨(some 60), .pick (.t 57) (.t 59) (.v (.lit (.bool false))), none⟩,
        ⟨none, .store (.t 2) (.t 50) 4, none⟩,
        ⟨(some 3), .move (.t 60), none⟩])
      (.ret))))
      (.seq (.region [⟨(some 62), .move (.t 4), none⟩,
        ⟨(some 63), .call (.v (.func (.func 215) [] [])) [(.v (.str [123, 125, 40, 41, 59, 44, 46, 42, 58, 61])), (.t 62)], none⟩,
        ⟨(some 64), .bin true .other .geq (.t 63) (.v (.lit (.int .i64 0))), none⟩,
        ⟨(some 61), .move (.t 64), none⟩])
      (.cond (.t 61)
        (.seq (.region [⟨(some 65), .move (.t 0), none⟩,
          ⟨(some 66), .slice true (.t 65) none (some (.v (.lit (.int .i64 1)))) 0, none⟩,
          ⟨(some 67), .build [(.lit (.int .i64 0)), (.lit (.int .i64 0)), (.str []), (.lit (.int .i64 0))] [(0, 1), (1, 1), (2, 1), (3, 1)] [(0, (.v (.lit (.int .i64 4)))), (2, (.t 66))], none⟩,
          ⟨none, .store (.t 2) (.t 67) 4, none⟩,
          ⟨(some 3), .move (.v (.lit (.bool true))), none⟩])
        (.ret))
        (.skip)))))))))
  (.seq (.region [⟨(some 68), .build [(.lit (.int .i64 0)), (.lit (.int .i64 0)), (.str []), (.lit (.int .i64 0))] [(0, 1), (1, 1), (2, 1), (3, 1)] [], none⟩,
 ⟨none, .store (.t 2) (.t 68) 4, none⟩,
 ⟨(some 3), .move (.v (.lit (.bool false))), none⟩])
  (.ret)))
theorem xf164 : xfunc Tryz.prog 164 = some ⟨xn164, xr164, xc164⟩ := by kernel_rfl
noncomputable def xn165 : Nat := 8
noncomputable def xr165 : List XRes := [.tmp 4]
noncomputable def xc165 : XCode := .seq (.region [⟨(some 3), .box (.t 1), none⟩,
 ⟨(some 4), .move (.v (.lit (.bool false))), none⟩])
  (.seq (.region [⟨(some 5), .move (.t 0), none⟩,
 ⟨(some 6), .func (.func 220) [] [(.t 3)], none⟩,
 ⟨(some 7), .call (.v (.func (.func 219) [] [])) [(.t 5), (.t 6)], none⟩,
 ⟨(some 4), .move (.t 7), none⟩])
  (.ret))
theorem xf165 : xfunc Tryz.prog 165 = some ⟨xn165, xr165, xc165⟩ := by kernel_rfl
noncomputable def xn166 : Nat := 30
noncomputable def xr166 : List XRes := []
noncomputable def xc166 : XCode := .seq (.draw [⟨.pure, 0, 0⟩, ⟨.pure, 0, 0⟩, ⟨.pure, 0, 0⟩, ⟨.pure, 0, 0⟩, ⟨.pure, 0, 0⟩, ⟨.pure, 0, 0⟩, ⟨.pure, 0, 0⟩, ⟨.read, 0, 0⟩, ⟨.pure, 0, 0⟩, ⟨.pure, 0, 0⟩, ⟨.pure, 0, 0⟩, ⟨.eff, 0, 1⟩, ⟨.pure, 0, 1⟩, ⟨.pure, 0, 1⟩, ⟨.pure, 0, 1⟩, ⟨.read, 0, 1⟩, ⟨.pure, 1, 1⟩, ⟨.pure, 1, 1⟩, ⟨.pure, 1, 1⟩] [⟨(some 6), .move (.t 1), none⟩,
 ⟨(some 7), .move (.t 2), none⟩,
 ⟨(some 8), .bin false .other .geq (.t 6) (.t 7), none⟩,
 ⟨(some 9), .move (.t 8), none⟩,
 ⟨(some 10), .move (.t 0), some (9, true)⟩,
 ⟨(some 11), .nilCheck (.t 10), some (9, true)⟩,
 ⟨(some 12), .fieldAddr (.t 11) 3, some (9, true)⟩,
 ⟨(some 13), .load (.t 12) 1 false, some (9, true)⟩,
 ⟨(some 14), .bin true .other .eql (.t 13) (.v (.lit (.int .i64 (-1)))), some (9, true)⟩,
 ⟨(some 15), .move (.t 14), some (9, true)⟩,
 ⟨(some 16), .move (.t 0), some (15, false)⟩,
 ⟨(some 17), .call (.v (.func (.func 222) [] [])) [(.t 16)], some (15, false)⟩,
 ⟨(some 18), .move (.t 0), some (15, false)⟩,
 ⟨(some 19), .nilCheck (.t 18), some (15, false)⟩,
 ⟨(some 20), .fieldAddr (.t 19) 3, some (15, false)⟩,
 ⟨(some 21), .load (.t 20) 1 false, some (15, false)⟩,
 ⟨(some 22), .bin false .other .lss (.t 17) (.t 21), some (15, false)⟩,
 ⟨(some 23), .pick (.t 15) (.v (.lit (.bool true))) (.t 22), some (9, true)⟩,
 ⟨(some 24), .pick (.t 9) (.t 23) (.v (.lit (.bool false))), none⟩])
  (.cond (.t 24)
    (.region [⟨(some 25), .move (.t 0), none⟩,
      ⟨(some 26), .move (.t 0), none⟩,
      ⟨(some 27), .call (.v (.func (.func 222) [] [])) [(.t 26)], none⟩,
      ⟨(some 28), .nilCheck (.t 25), none⟩,
      ⟨(some 29), .fieldAddr (.t 28) 3, none⟩,
      ⟨none, .store (.t 29) (.t 27) 1, none⟩])
    (.skip))
theorem xf166 : xfunc Tryz.prog 166 = some ⟨xn166, xr166, xc166⟩ := by kernel_rfl
noncomputable def xn169 : Nat := 88
noncomputable def xr169 : List XRes := [.cell 2 6 true]
noncomputable def xc169 : XCode := .seq (.region [⟨(some 2), .alloc [(.lit (.int .i64 0)), (.str []), (.lit (.slice none 0 0)), (.lit (.slice none 0 0)), (.str []), (.lit (.slice none 0 0))], none⟩])
  (.seq (.region [⟨(some 4), .move (.t 0), none⟩,
 ⟨(some 5), .call (.v (.func (.func 222) [] [])) [(.t 4)], none⟩,
 ⟨(some 6), .build [(.lit (.int .i64 0)), (.str []), (.lit (.slice none 0 0)), (.lit (.slice none 0 0)), (.str []), (.lit (.slice none 0 0))] [(0, 1), (1, 1), (2, 1), (3, 1), (4, 1), (5, 1)] [(0, (.t 5))], none⟩,
 ⟨(some 3), .alloc [(.lit (.int .i64 0)), (.str []), (.lit (.slice none 0 0)), (.lit (.slice none 0 0)), (.str []), (.lit (.slice none 0 0))], none⟩,
 ⟨none, .store (.t 3) (.t 6) 6, none⟩])
  (.seq (.region [⟨(some 7), .move (.t 0), none⟩,
 ⟨(some 8), .buildSlice [(.str [])] 1 [(0, (.v (.str [102, 110])))], none⟩,
 ⟨(some 9), .call (.v (.func (.func 223) [] [])) [(.t 7), (.t 8)], none⟩])
  (.seq (.region [⟨(some 10), .move (.t 0), none⟩,
 ⟨(some 11), .call (.v (.func (.func 224) [] [])) [(.t 10)], none⟩,
 ⟨(some 12), .fieldAddr (.t 3) 1, none⟩,
 ⟨none, .store (.t 12) (.t 11) 1, none⟩])
  (.seq (.region [⟨(some 13), .move (.t 0), none⟩,
 ⟨(some 14), .buildSlice [(.str [])] 1 [(0, (.v (.str [40])))], none⟩,
 ⟨(some 15), .call (.v (.func (.func 223) [] [])) [(.t 13), (.t 14)], none⟩])
  (.seq (.seq (.region [⟨(some 16), .move (.t 0), none⟩,
 ⟨(some 17), .buildSlice [(.str [])] 1 [(0, (.v (.str [41])))], none⟩,
 ⟨(some 18), .call (.v (.func (.func 165) [] [])) [(.t 16), (.t 17)], none⟩,
 ⟨(some 19), .un .not (.t 18), none⟩])
  (.cond (.t 19)
    (.region [⟨(some 20), .move (.t 0), none⟩,
      ⟨(some 21), .move (.t 0), none⟩,
      ⟨(some 22), .func (.func 230) [(.t 21)] [], none⟩,
      ⟨(some 23), .call (.v (.func (.func 229) [] [])) [(.t 20), (.t 22)], none⟩,
      ⟨(some 24), .fieldAddr (.t 3) 2, none⟩,
      ⟨none, .store (.t 24) (.t 23) 1, none⟩])
    (.skip)))
  (.seq (.region [⟨(some 25), .move (.t 0), none⟩,
 ⟨(some 26), .buildSlice [(.str [])] 1 [(0, (.v (.str [41])))], none⟩,
 ⟨(some 27), .call (.v (.func (.func 223) [] [])) [(.t 25), (.t 26)], none⟩])
  (.seq (.region [⟨(some 28), .move (.t 0), none⟩,
 ⟨(some 29), .call (.v (.func (.func 231) [] [])) [(.t 28)], none⟩,
 ⟨(some 30), .fieldAddr (.t 3) 4, none⟩,
 ⟨none, .store (.t 30) (.t 29) 1, none⟩])
  (.seq (.region [⟨(some 31), .move (.t 0), none⟩,
 ⟨(some 32), .buildSlice [(.str [])] 1 [(0, (.v (.str [123])))], none⟩,
 ⟨(some 33), .call (.v (.func (.func 223) [] [])) [(.t 31), (.t 32)], none⟩])
  (.seq (.block 0 (.loop (.seq (.seq (.region [⟨(some 34), .move (.t 0), none⟩,
 ⟨(some 35), .call (.v (.func (.func 225) [] [])) [(.t 34), (.v (.str [108, 101, 116]))], none⟩])
  (.cond (.t 35)
    (.skip)
    (.exit 0)))
  (.block 1 (.seq (.region [⟨(some 36), .move (.t 0), none⟩,
 ⟨(some 37), .fieldAddr (.t 3) 2, none⟩,
 ⟨(some 38), .load (.t 37) 1 false, none⟩,
 ⟨(some 39), .len .slice (.t 38), none⟩,
 ⟨(some 40), .fieldAddr (.t 3) 3, none⟩,
 ⟨(some 41), .load (.t 40) 1 false, none⟩,
 ⟨(some 42), .len .slice (.t 41), none⟩,
 ⟨(some 43), .bin false .other .add (.t 39) (.t 42), none⟩,
 ⟨(some 44), .call (.v (.func (.func 166) [] [])) [(.t 36), (.t 43), (.v (.lit (.int .i64 24)))], none⟩])
  (.seq (.draw [⟨.pure, 0, 1⟩, ⟨.read, 0, 1⟩, ⟨.pure, 0, 0⟩, ⟨.eff, 0, 1⟩, ⟨.fresh, 1, 1⟩, ⟨.eff, 1, 2⟩, ⟨.pure, 2, 2⟩, ⟨.eff, 2, 3⟩] [⟨(some 45), .fieldAddr (.t 3) 3, none⟩,
 ⟨(some 46), .load (.t 45) 1 false, none⟩,
 ⟨(some 47), .move (.t 0), none⟩,
 ⟨(some 48), .call (.v (.func (.func 230) [] [])) [(.t 47)], none⟩,
 ⟨(some 49), .buildSlice [(.str []), (.str [])] 1 [(0, (.t 48))], none⟩,
 ⟨(some 50), .append 2 (.t 46) (.t 49), none⟩,
 ⟨(some 51), .fieldAddr (.t 3) 3, none⟩,
 ⟨none, .store (.t 51) (.t 50) 1, none⟩])
  (.region [⟨(some 52), .move (.t 0), none⟩,
 ⟨(some 53), .buildSlice [(.str [])] 1 [(0, (.v (.str [59])))], none⟩,
 ⟨(some 54), .call (.v (.func (.func 223) [] [])) [(.t 52), (.t 53)], none⟩])))))))
  (.seq (.block 2 (.loop (.seq (.seq (.region [⟨(some 55), .move (.t 0), none⟩,
 ⟨(some 56), .nilCheck (.t 55), none⟩,
 ⟨(some 57), .fieldAddr (.t 56) 2, none⟩,
 ⟨(some 58), .load (.t 57) 1 false, none⟩,
 ⟨(some 59), .bin true .other .eql (.t 58) (.v (.lit (.int .i64 (-1)))), none⟩,
 ⟨(some 60), .move (.t 59), none⟩,
 ⟨(some 61), .fieldAddr (.t 3) 5, some (60, true)⟩,
 ⟨(some 62), .load (.t 61) 1 false, some (60, true)⟩,
 ⟨(some 63), .len .slice (.t 62), some (60, true)⟩,
 ⟨(some 64), .bin true .other .eql (.t 63) (.v (.lit (.int .i64 0))), some (60, true)⟩,
 ⟨(some 65), .move (.t 64), some (60, true)⟩,
 ⟨(some 66), .move (.t 0), some (65, false)⟩,
 ⟨(some 67), .buildSlice [(.str [])] 1 [(0, (.v (.str [125])))], some (65, false)⟩,
 ⟨(some 68), .call (.v (.func (.func 165) [] [])) [(.t 66), (.t 67)], some (65, false)⟩,
 ⟨(some 69), .un .not (.t 68), some (65, false)⟩,
 ⟨(some 70), .pick (.t 65) (.v (.lit (.bool true))) (.t 69), some (60, true)⟩,
 ⟨(some 71), .pick (.t 60) (.t 70) (.v (.lit (.bool false))), none⟩])
  (.cond (.t 71)
    (.skip)
    (.exit 2)))
  (.block 3 (.seq (.region [⟨(some 72), .move (.t 0), none⟩,
 ⟨(some 73), .fieldAddr (.t 3) 5, none⟩,
 ⟨(some 74), .load (.t 73) 1 false, none⟩,
 ⟨(some 75), .len .slice (.t 74), none⟩,
 ⟨(some 76), .call (.v (.func (.func 166) [] [])) [(.t 72), (.t 75), (.v (.lit (.int .i64 64)))], none⟩])
  (.draw [⟨.pure, 0, 1⟩, ⟨.read, 0, 1⟩, ⟨.pure, 0, 0⟩, ⟨.eff, 0, 1⟩, ⟨.fresh, 1, 1⟩, ⟨.eff, 1, 2⟩, ⟨.pure, 2, 2⟩, ⟨.eff, 2, 3⟩] [⟨(some 77), .fieldAddr (.t 3) 5, none⟩,
 ⟨(some 78), .load (.t 77) 1 false, none⟩,
 ⟨(some 79), .move (.t 0), none⟩,
 ⟨(some 80), .call (.v (.func (.func 232) [] [])) [(.t 79)], none⟩,
 ⟨(some 81), .buildSlice [(.lit (.int .i64 0)), (.str []), (.lit (.slice none 0 0)), (.lit (.int .i64 0)), (.lit (.int .i64 0)), (.str []), (.lit (.slice none 0 0)), (.str []), (.lit (.slice none 0 0)), (.lit (.slice none 0 0)), (.lit (.slice none 0 0))] 1 [(0, (.t 80))], none⟩,
 ⟨(some 82), .append 11 (.t 78) (.t 81), none⟩,
 ⟨(some 83), .fieldAddr (.t 3) 5, none⟩,
 ⟨none, .store (.t 83) (.t 82) 1, none⟩]))))))
  (.seq (.region [⟨(some 84), .move (.t 0), none⟩,
 ⟨(some 85), .buildSlice [(.str [])] 1 [(0, (.v (.str [125])))], none⟩,
 ⟨(some 86), .call (.v (.func (.func 223) [] [])) [(.t 84), (.t 85)], none⟩])
  (.seq (.region [⟨(some 87), .load (.t 3) 6 true, none⟩,
 ⟨none, .store (.t 2) (.t 87) 6, none⟩])
  (.ret)))))))))))))
theorem xf169 : xfunc Tryz.prog 169 = some ⟨xn169, xr169, xc169⟩ := by kernel_rfl
noncomputable def xn185 : Nat := 51
noncomputable def xr185 : List XRes := [.tmp 4, .tmp 5]
noncomputable def xc185 : XCode := .seq (.region [⟨(some 4), .move (.v (.lit (.int .u64 0))), none⟩,
 ⟨(some 5), .move (.v (.lit (.int .u64 0))), none⟩])
  (.seq (.region [⟨(some 14), .move (.t 0), none⟩,
 ⟨(some 15), .bin true .other .and (.t 14) (.v (.lit (.int .u64 4294967295))), none⟩,
 ⟨(some 6), .move (.t 15), none⟩])
  (.seq (.region [⟨(some 16), .move (.t 0), none⟩,
 ⟨(some 17), .bin true .other .shr (.t 16) (.v (.lit (.int .u64 32))), none⟩,
 ⟨(some 7), .move (.t 17), none⟩])
  (.seq (.region [⟨(some 18), .move (.t 1), none⟩,
 ⟨(some 19), .bin true .other .and (.t 18) (.v (.lit (.int .u64 4294967295))), none⟩,
 ⟨(some 8), .move (.t 19), none⟩])
  (.seq (.region [⟨(some 20), .move (.t 1), none⟩,
 ⟨(some 21), .bin true .other .shr (.t 20) (.v (.lit (.int .u64 32))), none⟩,
 ⟨(some 9), .move (.t 21), none⟩])
  (.seq (.region [⟨(some 22), .move (.t 6), none⟩,
 ⟨(some 23), .move (.t 8), none⟩,
 ⟨(some 24), .bin false .other .mul (.t 22) (.t 23), none⟩,
 ⟨(some 10), .move (.t 24), none⟩])
  (.seq (.region [⟨(some 25), .move (.t 7), none⟩,
 ⟨(some 26), .move (.t 8), none⟩,
 ⟨(some 27), .bin false .other .mul (.t 25) (.t 26), none⟩,
 ⟨(some 28), .move (.t 10), none⟩,
 ⟨(some 29), .bin true .other .shr (.t 28) (.v (.lit (.int .u64 32))), none⟩,
 ⟨(some 30), .bin false .other .add (.t 27) (.t 29), none⟩,
 ⟨(some 11), .move (.t 30), none⟩])
  (.seq (.region [⟨(some 31), .move (.t 11), none⟩,
 ⟨(some 32), .bin true .other .and (.t 31) (.v (.lit (.int .u64 4294967295))), none⟩,
 ⟨(some 12), .move (.t 32), none⟩])
  (.seq (.region [⟨(some 33), .move (.t 11), none⟩,
 ⟨(some 34), .bin true .other .shr (.t 33) (.v (.lit (.int .u64 32))), none⟩,
 ⟨(some 13), .move (.t 34), none⟩])
  (.seq (.region [⟨(some 35), .move (.t 12), none⟩,
 ⟨(some 36), .move (.t 6), none⟩,
 ⟨(some 37), .move (.t 9), none⟩,
 ⟨(some 38), .bin false .other .mul (.t 36) (.t 37), none⟩,
 ⟨(some 39), .bin false .other .add (.t 35) (.t 38), none⟩,
 ⟨(some 12), .move (.t 39), none⟩])
  (.seq (.region [⟨(some 40), .move (.t 7), none⟩,
 ⟨(some 41), .move (.t 9), none⟩,
 ⟨(some 42), .bin false .other .mul (.t 40) (.t 41), none⟩,
 ⟨(some 43), .move (.t 13), none⟩,
 ⟨(some 44), .bin false .other .add (.t 42) (.t 43), none⟩,
 ⟨(some 45), .move (.t 12), none⟩,
 ⟨(some 46), .bin true .other .shr (.t 45) (.v (.lit (.int .u64 32))), none⟩,
 ⟨(some 47), .bin false .other .add (.t 44) (.t 46), none⟩,
 ⟨(some 4), .move (.t 47), none⟩])
  (.seq (.region [⟨(some 48), .move (.t 0), none⟩,
 ⟨(some 49), .move (.t 1), none⟩,
 ⟨(some 50), .bin false .other .mul (.t 48) (.t 49), none⟩,
 ⟨(some 5), .move (.t 50), none⟩])
  (.ret))))))))))))
theorem xf185 : xfunc Tryz.prog 185 = some ⟨xn185, xr185, xc185⟩ := by kernel_rfl
noncomputable def xn186 : Nat := 16
noncomputable def xr186 : List XRes := []
noncomputable def xc186 : XCode := .seq (.region [⟨(some 5), .load (.t 1) 1 false, none⟩,
 ⟨(some 6), .len .slice (.t 5), none⟩,
 ⟨(some 7), .move (.v (.lit (.int .i64 0))), none⟩])
  (.block 0 (.loop (.seq (.region [⟨(some 8), .bin false .other .lss (.t 7) (.t 6), none⟩])
  (.seq (.cond (.t 8)
    (.skip)
    (.exit 0))
  (.seq (.block 1 (.seq (.region [⟨(some 9), .indexAddr (.t 5) (.t 7) 1, none⟩,
 ⟨(some 10), .load (.t 9) 1 false, none⟩,
 ⟨(some 4), .move (.t 10), none⟩])
  (.seq (.region [⟨(some 11), .move (.t 0), none⟩,
 ⟨(some 12), .move (.t 4), none⟩,
 ⟨(some 13), .call (.t 11) [(.t 12)], none⟩,
 ⟨(some 14), .un .not (.t 13), none⟩])
  (.cond (.t 14)
    (.ret)
    (.skip)))))
  (.region [⟨(some 15), .bin true .other .add (.t 7) (.v (.lit (.int .i64 1))), none⟩,
 ⟨(some 7), .move (.t 15), none⟩]))))))
theorem xf186 : xfunc Tryz.prog 186 = some ⟨xn186, xr186, xc186⟩ := by kernel_rfl
noncomputable def xn187 : Nat := 19
noncomputable def xr187 : List XRes := []
noncomputable def xc187 : XCode := .seq (.region [⟨(some 4), .load (.t 1) 1 false, none⟩,
 ⟨(some 5), .len .slice (.t 4), none⟩,
 ⟨(some 6), .bin true .other .sub (.t 5) (.v (.lit (.int .i64 1))), none⟩,
 ⟨(some 3), .move (.t 6), none⟩])
  (.block 0 (.loop (.seq (.seq (.region [⟨(some 7), .move (.t 3), none⟩,
 ⟨(some 8), .bin true .other .geq (.t 7) (.v (.lit (.int .i64 0))), none⟩])
  (.cond (.t 8)
    (.skip)
    (.exit 0)))
  (.seq (.block 1 (.seq (.region [⟨(some 11), .move (.t 0), none⟩,
 ⟨(some 12), .move (.t 3), none⟩,
 ⟨(some 13), .load (.t 1) 1 false, none⟩,
 ⟨(some 14), .move (.t 3), none⟩,
 ⟨(some 15), .indexAddr (.t 13) (.t 14) 1, none⟩,
 ⟨(some 16), .load (.t 15) 1 false, none⟩,
 ⟨(some 17), .call (.t 11) [(.t 12), (.t 16)], none⟩,
 ⟨(some 18), .un .not (.t 17), none⟩])
  (.cond (.t 18)
    (.ret)
    (.skip))))
  (.region [⟨(some 9), .move (.t 3), none⟩,
 ⟨(some 10), .bin true .other .sub (.t 9) (.v (.lit (.int .i64 1))), none⟩,
 ⟨(some 3), .move (.t 10), none⟩])))))
theorem xf187 : xfunc Tryz.prog 187 = some ⟨xn187, xr187, xc187⟩ := by kernel_rfl
noncomputable def xn188 : Nat := 63
noncomputable def xr188 : List XRes := []
noncomputable def xc188 : XCode := .seq (.draw [⟨.read, 0, 0⟩, ⟨.pure, 0, 0⟩, ⟨.pure, 0, 0⟩, ⟨.read, 0, 0⟩, ⟨.read, 0, 0⟩, ⟨.eff, 0, 1⟩, ⟨.pure, 1, 1⟩] [⟨(some 8), .load (.t 1) 1 false, none⟩,
 ⟨(some 9), .nilCheck (.t 8), none⟩,
 ⟨(some 10), .fieldAddr (.t 9) 6, none⟩,
 ⟨(some 11), .load (.t 10) 1 false, none⟩,
 ⟨(some 12), .load (.t 2) 1 false, none⟩,
 ⟨(some 13), .call (.v (.func (.func 22) [] [])) [(.t 11), (.t 12)], none⟩,
 ⟨(some 4), .move (.t 13), none⟩])
  (.seq (.region [⟨(some 14), .load (.t 2) 1 false, none⟩,
 ⟨(some 15), .bin true .other .eql (.t 14) (.v (.lit (.int .i64 0))), none⟩,
 ⟨(some 5), .move (.t 15), none⟩])
  (.seq (.seq (.region [⟨(some 16), .load (.t 1) 1 false, none⟩,
 ⟨(some 17), .nilCheck (.t 16), none⟩,
 ⟨(some 18), .fieldAddr (.t 17) 0, none⟩,
 ⟨(some 19), .fieldAddr (.t 18) 5, none⟩,
 ⟨(some 20), .load (.t 19) 1 false, none⟩])
  (.cond (.t 20)
    (.seq (.draw [⟨.read, 0, 0⟩, ⟨.pure, 0, 0⟩, ⟨.pure, 0, 0⟩, ⟨.read, 0, 0⟩, ⟨.read, 0, 0⟩, ⟨.eff, 0, 1⟩, ⟨.pure, 1, 1⟩] [⟨(some 21), .load (.t 1) 1 false, none⟩,
      ⟨(some 22), .nilCheck (.t 21), none⟩,
      ⟨(some 23), .fieldAddr (.t 22) 6, none⟩,
      ⟨(some 24), .load (.t 23) 1 false, none⟩,
      ⟨(some 25), .load (.t 2) 1 false, none⟩,
      ⟨(some 26), .call (.v (.func (.func 64) [] [])) [(.t 24), (.t 25)], none⟩,
      ⟨(some 4), .move (.t 26), none⟩])
    (.region [⟨(some 27), .move (.t 4), none⟩,
      ⟨(some 28), .len .slice (.t 27), none⟩,
      ⟨(some 29), .bin true .other .eql (.t 28) (.v (.lit (.int .i64 0))), none⟩,
      ⟨(some 5), .move (.t 29), none⟩]))
    (.skip)))
  (.seq (.seq (.region [⟨(some 30), .move (.t 4), none⟩,
 ⟨(some 31), .len .slice (.t 30), none⟩,
 ⟨(some 32), .move (.v (.lit (.int .i64 0))), none⟩])
  (.block 0 (.loop (.seq (.region [⟨(some 33), .bin false .other .lss (.t 32) (.t 31), none⟩])
  (.seq (.cond (.t 33)
    (.skip)
    (.exit 0))
  (.seq (.block 1 (.seq (.region [⟨(some 34), .indexAddr (.t 30) (.t 32) 1, none⟩,
 ⟨(some 35), .load (.t 34) 1 false, none⟩,
 ⟨(some 7), .move (.t 35), none⟩])
  (.seq (.region [⟨(some 36), .load (.t 1) 1 false, none⟩,
 ⟨(some 37), .nilCheck (.t 36), none⟩,
 ⟨(some 38), .fieldAddr (.t 37) 6, none⟩,
 ⟨(some 39), .load (.t 38) 1 false, none⟩,
 ⟨(some 40), .move (.t 7), none⟩,
 ⟨(some 41), .call (.v (.func (.func 20) [] [])) [(.t 39), (.t 40)], none⟩,
 ⟨(some 42), .move (.t 41), none⟩,
 ⟨(some 43), .move (.t 0), some (42, true)⟩,
 ⟨(some 44), .load (.t 1) 1 false, some (42, true)⟩,
 ⟨(some 45), .nilCheck (.t 44), some (42, true)⟩,
 ⟨(some 46), .fieldAddr (.t 45) 8, some (42, true)⟩,
 ⟨(some 47), .load (.t 46) 1 false, some (42, true)⟩,
 ⟨(some 48), .move (.t 7), some (42, true)⟩,
 ⟨(some 49), .indexAddr (.t 47) (.t 48) 1, some (42, true)⟩,
 ⟨(some 50), .load (.t 49) 1 false, some (42, true)⟩,
 ⟨(some 51), .call (.t 43) [(.t 50)], some (42, true)⟩,
 ⟨(some 52), .un .not (.t 51), some (42, true)⟩,
 ⟨(some 53), .pick (.t 42) (.t 52) (.v (.lit (.bool false))), none⟩])
  (.cond (.t 53)
    (.ret)
    (.skip)))))
  (.region [⟨(some 54), .bin true .other .add (.t 32) (.v (.lit (.int .i64 1))), none⟩,
 ⟨(some 32), .move (.t 54), none⟩])))))))
  (.seq (.region [⟨(some 55), .move (.t 5), none⟩])
  (.cond (.t 55)
    (.region [⟨(some 56), .move (.t 0), none⟩,
      ⟨(some 57), .load (.t 1) 1 false, none⟩,
      ⟨(some 58), .nilCheck (.t 57), none⟩,
      ⟨(some 59), .fieldAddr (.t 58) 0, none⟩,
      ⟨(some 60), .fieldAddr (.t 59) 3, none⟩,
      ⟨(some 61), .load (.t 60) 1 false, none⟩,
      ⟨(some 62), .call (.t 56) [(.t 61)], none⟩])
    (.skip))))))
theorem xf188 : xfunc Tryz.prog 188 = some ⟨xn188, xr188, xc188⟩ := by kernel_rfl
noncomputable def xn189 : Nat := 8
noncomputable def xr189 : List XRes := [.tmp 4]
noncomputable def xc189 : XCode := .seq (.region [⟨(some 4), .move (.v (.lit (.int .u64 0))), none⟩])
  (.seq (.region [⟨(some 5), .move (.t 0), none⟩,
 ⟨(some 6), .move (.t 1), none⟩,
 ⟨(some 7), .bin false .other .and (.t 5) (.t 6), none⟩,
 ⟨(some 4), .move (.t 7), none⟩])
  (.ret))
theorem xf189 : xfunc Tryz.prog 189 = some ⟨xn189, xr189, xc189⟩ := by kernel_rfl
noncomputable def xn191 : Nat := 29
noncomputable def xr191 : List XRes := []
noncomputable def xc191 : XCode := .seq (.region [⟨(some 5), .load (.t 1) 1 false, none⟩,
 ⟨(some 6), .nilCheck (.t 5), none⟩,
 ⟨(some 7), .fieldAddr (.t 6) 1, none⟩,
 ⟨(some 8), .load (.t 7) 1 false, none⟩,
 ⟨(some 9), .len .slice (.t 8), none⟩,
 ⟨(some 10), .load (.t 2) 1 false, none⟩,
 ⟨(some 11), .nilCheck (.t 10), none⟩,
 ⟨(some 12), .fieldAddr (.t 11) 1, none⟩,
 ⟨(some 13), .load (.t 12) 1 false, none⟩,
 ⟨(some 14), .len .slice (.t 13), none⟩,
 ⟨(some 15), .minMax true [(.t 9), (.t 14)], none⟩,
 ⟨(some 16), .move (.v (.lit (.int .i64 0))), none⟩])
  (.block 0 (.loop (.seq (.region [⟨(some 17), .bin false .other .lss (.t 16) (.t 15), none⟩])
  (.seq (.cond (.t 17)
    (.skip)
    (.exit 0))
  (.seq (.block 1 (.seq (.region [⟨(some 18), .move (.t 16), none⟩,
 ⟨(some 4), .move (.t 18), none⟩])
  (.seq (.draw [⟨.pure, 0, 2⟩, ⟨.read, 0, 0⟩, ⟨.pure, 0, 0⟩, ⟨.eff, 0, 1⟩, ⟨.read, 0, 1⟩, ⟨.pure, 0, 1⟩, ⟨.eff, 1, 2⟩, ⟨.eff, 2, 3⟩, ⟨.pure, 3, 3⟩] [⟨(some 19), .move (.t 0), none⟩,
 ⟨(some 20), .load (.t 1) 1 false, none⟩,
 ⟨(some 21), .move (.t 4), none⟩,
 ⟨(some 22), .call (.v (.func (.func 138) [] [])) [(.t 20), (.t 21)], none⟩,
 ⟨(some 23), .load (.t 2) 1 false, none⟩,
 ⟨(some 24), .move (.t 4), none⟩,
 ⟨(some 25), .call (.v (.func (.func 138) [] [])) [(.t 23), (.t 24)], none⟩,
 ⟨(some 26), .call (.t 19) [(.t 22), (.t 25)], none⟩,
 ⟨(some 27), .un .not (.t 26), none⟩])
  (.cond (.t 27)
    (.ret)
    (.skip)))))
  (.region [⟨(some 28), .bin true .other .add (.t 16) (.v (.lit (.int .i64 1))), none⟩,
 ⟨(some 16), .move (.t 28), none⟩]))))))
theorem xf191 : xfunc Tryz.prog 191 = some ⟨xn191, xr191, xc191⟩ := by kernel_rfl
noncomputable def xn194 : Nat := 9
noncomputable def xr194 : List XRes := [.tmp 2]
noncomputable def xc194 : XCode := .seq (.region [⟨(some 2), .move (.v (.lit (.bool false))), none⟩])
  (.seq (.region [⟨(some 3), .move (.t 0), none⟩,
 ⟨(some 4), .bin true .other .geq (.t 3) (.v (.lit (.int .u8 97))), none⟩,
 ⟨(some 5), .move (.t 4), none⟩,
 ⟨(some 6), .move (.t 0), some (5, true)⟩,
 ⟨(some 7), .bin true .other .leq (.t 6) (.v (.lit (.int .u8 122))), some (5, true)⟩,
 ⟨(some 8), .pick (.t 5) (.t 7) (.v (.lit (.bool false))), none⟩,
 ⟨(some 2), .move (.t 8), none⟩])
  (.ret))
theorem xf194 : xfunc Tryz.prog 194 = some ⟨xn194, xr194, xc194⟩ := by kernel_rfl
noncomputable def xn195 : Nat := 6
noncomputable def xr195 : List XRes := [.tmp 2]
noncomputable def xc195 : XCode := .seq (.region [⟨(some 2), .move (.v (.lit (.bool false))), none⟩])
  (.seq (.region [⟨(some 3), .call (.v (.func (.func 239) [] [])) [], none⟩,
 ⟨(some 4), .move (.t 0), none⟩,
 ⟨(some 5), .call (.v (.func (.func 221) [] [])) [(.t 3), (.t 4)], none⟩,
 ⟨(some 2), .move (.t 5), none⟩])
  (.ret))
theorem xf195 : xfunc Tryz.prog 195 = some ⟨xn195, xr195, xc195⟩ := by kernel_rfl
noncomputable def xn196 : Nat := 20
noncomputable def xr196 : List XRes := [.tmp 4]
noncomputable def xc196 : XCode := .seq (.region [⟨(some 4), .move (.v (.lit (.int .i64 0))), none⟩])
  (.seq (.region [⟨(some 5), .move (.v (.lit (.int .i64 0))), none⟩])
  (.seq (.block 0 (.loop (.seq (.seq (.region [⟨(some 6), .move (.t 5), none⟩,
 ⟨(some 7), .move (.t 0), none⟩,
 ⟨(some 8), .len .other (.t 7), none⟩,
 ⟨(some 9), .bin false .other .lss (.t 6) (.t 8), none⟩,
 ⟨(some 10), .move (.t 9), none⟩,
 ⟨(some 11), .move (.t 1), some (10, true)⟩,
 ⟨(some 12), .move (.t 0), some (10, true)⟩,
 ⟨(some 13), .move (.t 5), some (10, true)⟩,
 ⟨(some 14), .index (.t 12) (.t 13), some (10, true)⟩,
 ⟨(some 15), .call (.t 11) [(.t 14)], some (10, true)⟩,
 ⟨(some 16), .pick (.t 10) (.t 15) (.v (.lit (.bool false))), none⟩])
  (.cond (.t 16)
    (.skip)
    (.exit 0)))
  (.block 1 (.region [⟨(some 17), .move (.t 5), none⟩,
 ⟨(some 18), .bin true .other .add (.t 17) (.v (.lit (.int .i64 1))), none⟩,
 ⟨(some 5), .move (.t 18), none⟩])))))
  (.seq (.region [⟨(some 19), .move (.t 5), none⟩,
 ⟨(some 4), .move (.t 19), none⟩])
  (.ret))))
theorem xf196 : xfunc Tryz.prog 196 = some ⟨xn196, xr196, xc196⟩ := by kernel_rfl
noncomputable def xn197 : Nat := 13
noncomputable def xr197 : List XRes := [.tmp 2]
noncomputable def xc197 : XCode := .seq (.region [⟨(some 2), .move (.v (.lit (.bool false))), none⟩])
  (.seq (.region [⟨(some 3), .move (.t 0), none⟩,
 ⟨(some 4), .call (.v (.func (.func 194) [] [])) [(.t 3)], none⟩,
 ⟨(some 5), .move (.t 4), none⟩,
 ⟨(some 6), .move (.t 0), some (5, false)⟩,
 ⟨(some 7), .call (.v (.func (.func 217) [] [])) [(.t 6)], some (5, false)⟩,
 ⟨(some 8), .pick (.t 5) (.v (.lit (.bool true))) (.t 7), none⟩,
 ⟨(some 9), .move (.t 8), none⟩,
 ⟨(some 10), .move (.t 0), some (9, false)⟩,
 ⟨(some 11), .bin true .other .eql (.t 10) (.v (.lit (.int .u8 95))), some (9, false)⟩,
 ⟨(some 12), .pick (.t 9) (.v (.lit (.bool true))) (.t 11), none⟩,
 ⟨(some 2), .move (.t 12), none⟩])
  (.ret))
theorem xf197 : xfunc Tryz.prog 197 = some ⟨xn197, xr197, xc197⟩ := by kernel_rfl
noncomputable def xn215 : Nat := 8
noncomputable def xr215 : List XRes := [.tmp 4]
noncomputable def xc215 : XCode := .seq (.region [⟨(some 4), .move (.v (.lit (.int .i64 0))), none⟩])
  (.seq (.region [⟨(some 5), .move (.t 0), none⟩,
 ⟨(some 6), .move (.t 1), none⟩,
 ⟨(some 7), .call (.v (.func (.func 258) [] [])) [(.t 5), (.t 6)], none⟩,
 ⟨(some 4), .move (.t 7), none⟩])
  (.ret))
theorem xf215 : xfunc Tryz.prog 215 = some ⟨xn215, xr215, xc215⟩ := by kernel_rfl
noncomputable def xn217 : Nat := 9
noncomputable def xr217 : List XRes := [.tmp 2]
noncomputable def xc217 : XCode := .seq (.region [⟨(some 2), .move (.v (.lit (.bool false))), none⟩])
  (.seq (.region [⟨(some 3), .move (.t 0), none⟩,
 ⟨(some 4), .bin true .other .geq (.t 3) (.v (.lit (.int .u8 48))), none⟩,
 ⟨(some 5), .move (.t 4), none⟩,
 ⟨(some 6), .move (.t 0), some (5, true)⟩,
 ⟨(some 7), .bin true .other .leq (.t 6) (.v (.lit (.int .u8 57))), some (5, true)⟩,
 ⟨(some 8), .pick (.t 5) (.t 7) (.v (.lit (.bool false))), none⟩,
 ⟨(some 2), .move (.t 8), none⟩])
  (.ret))
theorem xf217 : xfunc Tryz.prog 217 = some ⟨xn217, xr217, xc217⟩ := by kernel_rfl
noncomputable def xn219 : Nat := 28
noncomputable def xr219 : List XRes := [.tmp 4]
noncomputable def xc219 : XCode := .seq (.region [⟨(some 4), .move (.v (.lit (.bool false))), none⟩])
  (.seq (.region [⟨(some 5), .move (.t 0), none⟩,
 ⟨(some 6), .nilCheck (.t 5), none⟩,
 ⟨(some 7), .fieldAddr (.t 6) 2, none⟩,
 ⟨(some 8), .load (.t 7) 1 false, none⟩,
 ⟨(some 9), .bin true .other .eql (.t 8) (.v (.lit (.int .i64 (-1)))), none⟩,
 ⟨(some 10), .move (.t 9), none⟩,
 ⟨(some 11), .move (.t 0), some (10, true)⟩,
 ⟨(some 12), .nilCheck (.t 11), some (10, true)⟩,
 ⟨(some 13), .fieldAddr (.t 12) 0, some (10, true)⟩,
 ⟨(some 14), .load (.t 13) 1 false, some (10, true)⟩,
 ⟨(some 15), .len .slice (.t 14), some (10, true)⟩,
 ⟨(some 16), .bin true .other .gtr (.t 15) (.v (.lit (.int .i64 0))), some (10, true)⟩,
 ⟨(some 17), .pick (.t 10) (.t 16) (.v (.lit (.bool false))), none⟩,
 ⟨(some 18), .move (.t 17), none⟩,
 ⟨(some 19), .move (.t 1), some (18, true)⟩,
 ⟨(some 20), .move (.t 0), some (18, true)⟩,
 ⟨(some 21), .nilCheck (.t 20), some (18, true)⟩,
 ⟨(some 22), .fieldAddr (.t 21) 0, some (18, true)⟩,
 ⟨(some 23), .load (.t 22) 1 false, some (18, true)⟩,
 ⟨(some 24), .indexAddr (.t 23) (.v (.lit (.int .i64 0))) 4, some (18, true)⟩,
 ⟨(some 25), .load (.t 24) 4 true, some (18, true)⟩,
 ⟨(some 26), .call (.t 19) [(.t 25)], some (18, true)⟩,
 ⟨(some 27), .pick (.t 18) (.t 26) (.v (.lit (.bool false))), none⟩,
 ⟨(some 4), .move (.t 27), none⟩])
  (.ret))
theorem xf219 : xfunc Tryz.prog 219 = some ⟨xn219, xr219, xc219⟩ := by kernel_rfl
noncomputable def xn220 : Nat := 18
noncomputable def xr220 : List XRes := [.tmp 3]
noncomputable def xc220 : XCode := .seq (.region [⟨(some 2), .box (.t 0), none⟩,
 ⟨(some 3), .move (.v (.lit (.bool false))), none⟩])
  (.seq (.region [⟨(some 4), .fieldAddr (.t 2) 0, none⟩,
 ⟨(some 5), .load (.t 4) 1 false, none⟩,
 ⟨(some 6), .bin true .other .eql (.t 5) (.v (.lit (.int .i64 2))), none⟩,
 ⟨(some 7), .move (.t 6), none⟩,
 ⟨(some 8), .fieldAddr (.t 2) 0, some (7, false)⟩,
 ⟨(some 9), .load (.t 8) 1 false, some (7, false)⟩,
 ⟨(some 10), .bin true .other .eql (.t 9) (.v (.lit (.int .i64 4))), some (7, false)⟩,
 ⟨(some 11), .pick (.t 7) (.v (.lit (.bool true))) (.t 10), none⟩,
 ⟨(some 12), .move (.t 11), none⟩,
 ⟨(some 13), .load (.t 1) 1 false, some (12, true)⟩,
 ⟨(some 14), .fieldAddr (.t 2) 2, some (12, true)⟩,
 ⟨(some 15), .load (.t 14) 1 false, some (12, true)⟩,
 ⟨(some 16), .call (.v (.func (.func 221) [] [])) [(.t 13), (.t 15)], some (12, true)⟩,
 ⟨(some 17), .pick (.t 12) (.t 16) (.v (.lit (.bool false))), none⟩,
 ⟨(some 3), .move (.t 17), none⟩])
  (.ret))
theorem xf220 : xfunc Tryz.prog 220 = some ⟨xn220, xr220, xc220⟩ := by kernel_rfl
noncomputable def xn221 : Nat := 9
noncomputable def xr221 : List XRes := [.tmp 4]
noncomputable def xc221 : XCode := .seq (.region [⟨(some 4), .move (.v (.lit (.bool false))), none⟩])
  (.seq (.region [⟨(some 5), .move (.t 0), none⟩,
 ⟨(some 6), .move (.t 1), none⟩,
 ⟨(some 7), .call (.v (.func (.func 261) [] [])) [(.t 5), (.t 6)], none⟩,
 ⟨(some 8), .bin true .other .geq (.t 7) (.v (.lit (.int .i64 0))), none⟩,
 ⟨(some 4), .move (.t 8), none⟩])
  (.ret))
theorem xf221 : xfunc Tryz.prog 221 = some ⟨xn221, xr221, xc221⟩ := by kernel_rfl
noncomputable def xn222 : Nat := 20
noncomputable def xr222 : List XRes := [.tmp 2]
noncomputable def xc222 : XCode := .seq (.region [⟨(some 2), .move (.v (.lit (.int .i64 0))), none⟩])
  (.seq (.seq (.region [⟨(some 3), .move (.t 0), none⟩,
 ⟨(some 4), .nilCheck (.t 3), none⟩,
 ⟨(some 5), .fieldAddr (.t 4) 0, none⟩,
 ⟨(some 6), .load (.t 5) 1 false, none⟩,
 ⟨(some 7), .len .slice (.t 6), none⟩,
 ⟨(some 8), .bin true .other .eql (.t 7) (.v (.lit (.int .i64 0))), none⟩])
  (.cond (.t 8)
    (.seq (.region [⟨(some 9), .move (.t 0), none⟩,
      ⟨(some 10), .nilCheck (.t 9), none⟩,
      ⟨(some 11), .fieldAddr (.t 10) 1, none⟩,
      ⟨(some 12), .load (.t 11) 1 false, none⟩,
      ⟨(some 2), .move (.t 12), none⟩])
    (.ret))
    (.skip)))
  (.seq (.region [⟨(some 13), .move (.t 0), none⟩,
 ⟨(some 14), .nilCheck (.t 13), none⟩,
 ⟨(some 15), .fieldAddr (.t 14) 0, none⟩,
 ⟨(some 16), .load (.t 15) 1 false, none⟩,
 ⟨(some 17), .indexAddr (.t 16) (.v (.lit (.int .i64 0))) 4, none⟩,
 ⟨(some 18), .fieldAddr (.t 17) 1, none⟩,
 ⟨(some 19), .load (.t 18) 1 false, none⟩,
 ⟨(some 2), .move (.t 19), none⟩])
  (.ret)))
theorem xf222 : xfunc Tryz.prog 222 = some ⟨xn222, xr222, xc222⟩ := by kernel_rfl
noncomputable def xn223 : Nat := 19
noncomputable def xr223 : List XRes := []
noncomputable def xc223 : XCode := .seq (.region [⟨(some 6), .move (.t 1), none⟩,
 ⟨(some 7), .len .slice (.t 6), none⟩,
 ⟨(some 8), .move (.v (.lit (.int .i64 0))), none⟩])
  (.block 0 (.loop (.seq (.region [⟨(some 9), .bin false .other .lss (.t 8) (.t 7), none⟩])
  (.seq (.cond (.t 9)
    (.skip)
    (.exit 0))
  (.seq (.block 1 (.seq (.region [⟨(some 10), .indexAddr (.t 6) (.t 8) 1, none⟩,
 ⟨(some 11), .load (.t 10) 1 false, none⟩,
 ⟨(some 5), .move (.t 11), none⟩])
  (.seq (.region [⟨(some 12), .move (.t 0), none⟩,
 ⟨(some 13), .move (.t 5), none⟩,
 ⟨(some 14), .call (.v (.func (.func 225) [] [])) [(.t 12), (.t 13)], none⟩,
 ⟨(some 15), .un .not (.t 14), none⟩])
  (.cond (.t 15)
    (.region [⟨(some 16), .move (.t 0), none⟩,
      ⟨(some 17), .call (.v (.func (.func 170) [] [])) [(.t 16)], none⟩])
    (.skip)))))
  (.region [⟨(some 18), .bin true .other .add (.t 8) (.v (.lit (.int .i64 1))), none⟩,
 ⟨(some 8), .move (.t 18), none⟩]))))))
theorem xf223 : xfunc Tryz.prog 223 = some ⟨xn223, xr223, xc223⟩ := by kernel_rfl
noncomputable def xn224 : Nat := 11
noncomputable def xr224 : List XRes := [.tmp 2]
noncomputable def xc224 : XCode := .seq (.region [⟨(some 2), .move (.v (.str [])), none⟩])
  (.seq (.seq (.region [⟨(some 3), .move (.t 0), none⟩,
 ⟨(some 4), .call (.v (.func (.func 262) [] [])) [(.t 3)], none⟩,
 ⟨(some 5), .un .not (.t 4), none⟩])
  (.cond (.t 5)
    (.seq (.region [⟨(some 6), .move (.t 0), none⟩,
      ⟨(some 7), .call (.v (.func (.func 170) [] [])) [(.t 6)], none⟩])
    (.seq (.region [⟨(some 2), .move (.v (.str [])), none⟩])
    (.ret)))
    (.skip)))
  (.seq (.region [⟨(some 8), .move (.t 0), none⟩,
 ⟨(some 9), .call (.v (.func (.func 263) [] [])) [(.t 8)], none⟩,
 ⟨(some 10), .field (.t 9) 2 1 false, none⟩,
 ⟨(some 2), .move (.t 10), none⟩])
  (.ret)))
theorem xf224 : xfunc Tryz.prog 224 = some ⟨xn224, xr224, xc224⟩ := by kernel_rfl
noncomputable def xn225 : Nat := 12
noncomputable def xr225 : List XRes := [.tmp 4]
noncomputable def xc225 : XCode := .seq (.region [⟨(some 4), .move (.v (.lit (.bool false))), none⟩])
  (.seq (.seq (.region [⟨(some 5), .move (.t 0), none⟩,
 ⟨(some 6), .move (.t 1), none⟩,
 ⟨(some 7), .buildSlice [(.str [])] 1 [(0, (.t 6))], none⟩,
 ⟨(some 8), .call (.v (.func (.func 165) [] [])) [(.t 5), (.t 7)], none⟩,
 ⟨(some 9), .un .not (.t 8), none⟩])
  (.cond (.t 9)
    (.seq (.region [⟨(some 4), .move (.v (.lit (.bool false))), none⟩])
    (.ret))
    (.skip)))
  (.seq (.region [⟨(some 10), .move (.t 0), none⟩,
 ⟨(some 11), .call (.v (.func (.func 263) [] [])) [(.t 10)], none⟩])
  (.seq (.region [⟨(some 4), .move (.v (.lit (.bool true))), none⟩])
  (.ret))))
theorem xf225 : xfunc Tryz.prog 225 = some ⟨xn225, xr225, xc225⟩ := by kernel_rfl
noncomputable def xn230 : Nat := 8
noncomputable def xr230 : List XRes := [.cell 2 2 true]
noncomputable def xc230 : XCode := .seq (.region [⟨(some 2), .alloc [(.str []), (.str [])], none⟩])
  (.seq (.region [⟨(some 3), .move (.t 0), none⟩,
 ⟨(some 4), .call (.v (.func (.func 224) [] [])) [(.t 3)], none⟩,
 ⟨(some 5), .move (.t 0), none⟩,
 ⟨(some 6), .call (.v (.func (.func 264) [] [])) [(.t 5)], none⟩,
 ⟨(some 7), .build [(.str []), (.str [])] [(0, 1), (1, 1)] [(0, (.t 4)), (1, (.t 6))], none⟩,
 ⟨none, .store (.t 2) (.t 7) 2, none⟩])
  (.ret))
theorem xf230 : xfunc Tryz.prog 230 = some ⟨xn230, xr230, xc230⟩ := by kernel_rfl
noncomputable def xn231 : Nat := 43
noncomputable def xr231 : List XRes := [.tmp 2]
noncomputable def xc231 : XCode := .seq (.region [⟨(some 2), .move (.v (.str [])), none⟩])
  (.seq (.region [⟨(some 6), .move (.t 0), none⟩,
 ⟨(some 7), .call (.v (.func (.func 222) [] [])) [(.t 6)], none⟩,
 ⟨(some 3), .move (.t 7), none⟩,
 ⟨(some 4), .move (.v (.str [])), none⟩])
  (.seq (.region [⟨(some 5), .move (.v (.lit (.int .i64 0))), none⟩])
  (.seq (.block 0 (.loop (.seq (.seq (.region [⟨(some 8), .move (.t 0), none⟩,
 ⟨(some 9), .call (.v (.func (.func 225) [] [])) [(.t 8), (.v (.str [98, 111, 120]))], none⟩])
  (.cond (.t 9)
    (.skip)
    (.exit 0)))
  (.seq (.block 1 (.region [⟨(some 12), .move (.t 4), none⟩,
 ⟨(some 13), .bin true .other .add (.t 12) (.v (.str [98, 111, 120, 32])), none⟩,
 ⟨(some 4), .move (.t 13), none⟩]))
  (.region [⟨(some 10), .move (.t 5), none⟩,
 ⟨(some 11), .bin true .other .add (.t 10) (.v (.lit (.int .i64 1))), none⟩,
 ⟨(some 5), .move (.t 11), none⟩])))))
  (.seq (.seq (.region [⟨(some 14), .move (.t 5), none⟩,
 ⟨(some 15), .bin true .other .gtr (.t 14) (.v (.lit (.int .i64 8))), none⟩,
 ⟨(some 16), .move (.t 15), none⟩,
 ⟨(some 17), .move (.t 0), some (16, true)⟩,
 ⟨(some 18), .nilCheck (.t 17), some (16, true)⟩,
 ⟨(some 19), .fieldAddr (.t 18) 3, some (16, true)⟩,
 ⟨(some 20), .load (.t 19) 1 false, some (16, true)⟩,
 ⟨(some 21), .bin true .other .eql (.t 20) (.v (.lit (.int .i64 (-1)))), some (16, true)⟩,
 ⟨(some 22), .move (.t 21), some (16, true)⟩,
 ⟨(some 23), .move (.t 3), some (22, false)⟩,
 ⟨(some 24), .move (.t 0), some (22, false)⟩,
 ⟨(some 25), .nilCheck (.t 24), some (22, false)⟩,
 ⟨(some 26), .fieldAddr (.t 25) 3, some (22, false)⟩,
 ⟨(some 27), .load (.t 26) 1 false, some (22, false)⟩,
 ⟨(some 28), .bin false .other .lss (.t 23) (.t 27), some (22, false)⟩,
 ⟨(some 29), .pick (.t 22) (.v (.lit (.bool true))) (.t 28), some (16, true)⟩,
 ⟨(some 30), .pick (.t 16) (.t 29) (.v (.lit (.bool false))), none⟩])
  (.cond (.t 30)
    (.region [⟨(some 31), .move (.t 0), none⟩,
      ⟨(some 32), .move (.t 3), none⟩,
      ⟨(some 33), .nilCheck (.t 31), none⟩,
      ⟨(some 34), .fieldAddr (.t 33) 3, none⟩,
      ⟨none, .store (.t 34) (.t 32) 1, none⟩])
    (.skip)))
  (.seq (.seq (.region [⟨(some 35), .move (.t 0), none⟩,
 ⟨(some 36), .call (.v (.func (.func 225) [] [])) [(.t 35), (.v (.str [105, 110, 116]))], none⟩])
  (.cond (.t 36)
    (.seq (.region [⟨(some 37), .move (.t 4), none⟩,
      ⟨(some 38), .bin true .other .add (.t 37) (.v (.str [105, 110, 116])), none⟩,
      ⟨(some 2), .move (.t 38), none⟩])
    (.ret))
    (.skip)))
  (.seq (.region [⟨(some 39), .move (.t 4), none⟩,
 ⟨(some 40), .move (.t 0), none⟩,
 ⟨(some 41), .call (.v (.func (.func 224) [] [])) [(.t 40)], none⟩,
 ⟨(some 42), .bin false .other .add (.t 39) (.t 41), none⟩,
 ⟨(some 2), .move (.t 42), none⟩])
  (.ret)))))))
theorem xf231 : xfunc Tryz.prog 231 = some ⟨xn231, xr231, xc231⟩ := by kernel_rfl
noncomputable def xn232 : Nat := 38
noncomputable def xr232 : List XRes := [.cell 2 11 true]
noncomputable def xc232 : XCode := .seq (.region [⟨(some 2), .alloc [(.lit (.int .i64 0)), (.str []), (.lit (.slice none 0 0)), (.lit (.int .i64 0)), (.lit (.int .i64 0)), (.str []), (.lit (.slice none 0 0)), (.str []), (.lit (.slice none 0 0)), (.lit (.slice none 0 0)), (.lit (.slice none 0 0))], none⟩])
  (.seq (.region [⟨(some 4), .move (.t 0), none⟩,
 ⟨(some 5), .call (.v (.func (.func 222) [] [])) [(.t 4)], none⟩,
 ⟨(some 6), .move (.t 0), none⟩,
 ⟨(some 7), .call (.v (.func (.func 224) [] [])) [(.t 6)], none⟩,
 ⟨(some 8), .build [(.lit (.int .i64 0)), (.str []), (.lit (.slice none 0 0)), (.lit (.int .i64 0)), (.lit (.int .i64 0)), (.str []), (.lit (.slice none 0 0)), (.str []), (.lit (.slice none 0 0)), (.lit (.slice none 0 0)), (.lit (.slice none 0 0))] [(0, 1), (1, 1), (2, 1), (3, 8)] [(0, (.t 5)), (1, (.t 7))], none⟩,
 ⟨(some 3), .alloc [(.lit (.int .i64 0)), (.str []), (.lit (.slice none 0 0)), (.lit (.int .i64 0)), (.lit (.int .i64 0)), (.str []), (.lit (.slice none 0 0)), (.str []), (.lit (.slice none 0 0)), (.lit (.slice none 0 0)), (.lit (.slice none 0 0))], none⟩,
 ⟨none, .store (.t 3) (.t 8) 11, none⟩])
  (.seq (.region [⟨(some 9), .move (.t 0), none⟩,
 ⟨(some 10), .buildSlice [(.str [])] 1 [(0, (.v (.str [58])))], none⟩,
 ⟨(some 11), .call (.v (.func (.func 223) [] [])) [(.t 9), (.t 10)], none⟩])
  (.seq (.block 0 (.loop (.seq (.seq (.region [⟨(some 12), .move (.t 0), none⟩,
 ⟨(some 13), .nilCheck (.t 12), none⟩,
 ⟨(some 14), .fieldAddr (.t 13) 2, none⟩,
 ⟨(some 15), .load (.t 14) 1 false, none⟩,
 ⟨(some 16), .bin true .other .eql (.t 15) (.v (.lit (.int .i64 (-1)))), none⟩,
 ⟨(some 17), .move (.t 16), none⟩,
 ⟨(some 18), .move (.t 0), some (17, true)⟩,
 ⟨(some 19), .call (.v (.func (.func 265) [] [])) [(.t 18)], some (17, true)⟩,
 ⟨(some 20), .un .not (.t 19), some (17, true)⟩,
 ⟨(some 21), .pick (.t 17) (.t 20) (.v (.lit (.bool false))), none⟩])
  (.cond (.t 21)
    (.skip)
    (.exit 0)))
  (.block 1 (.seq (.region [⟨(some 22), .move (.t 0), none⟩,
 ⟨(some 23), .fieldAddr (.t 3) 2, none⟩,
 ⟨(some 24), .load (.t 23) 1 false, none⟩,
 ⟨(some 25), .len .slice (.t 24), none⟩,
 ⟨(some 26), .call (.v (.func (.func 166) [] [])) [(.t 22), (.t 25), (.v (.lit (.int .i64 64)))], none⟩])
  (.draw [⟨.pure, 0, 1⟩, ⟨.read, 0, 1⟩, ⟨.pure, 0, 0⟩, ⟨.eff, 0, 1⟩, ⟨.fresh, 1, 1⟩, ⟨.eff, 1, 2⟩, ⟨.pure, 2, 2⟩, ⟨.eff, 2, 3⟩] [⟨(some 27), .fieldAddr (.t 3) 2, none⟩,
 ⟨(some 28), .load (.t 27) 1 false, none⟩,
 ⟨(some 29), .move (.t 0), none⟩,
 ⟨(some 30), .call (.v (.func (.func 266) [] [])) [(.t 29)], none⟩,
 ⟨(some 31), .buildSlice [(.lit (.int .i64 0)), (.lit (.int .i64 0)), (.str []), (.lit (.slice none 0 0)), (.lit (.int .i64 0)), (.str []), (.str []), (.lit (.slice none 0 0))] 1 [(0, (.t 30))], none⟩,
 ⟨(some 32), .append 8 (.t 28) (.t 31), none⟩,
 ⟨(some 33), .fieldAddr (.t 3) 2, none⟩,
 ⟨none, .store (.t 33) (.t 32) 1, none⟩]))))))
  (.seq (.region [⟨(some 34), .move (.t 0), none⟩,
 ⟨(some 35), .call (.v (.func (.func 267) [] [])) [(.t 34)], none⟩,
 ⟨(some 36), .fieldAddr (.t 3) 3, none⟩,
 ⟨none, .store (.t 36) (.t 35) 8, none⟩])
  (.seq (.region [⟨(some 37), .load (.t 3) 11 true, none⟩,
 ⟨none, .store (.t 2) (.t 37) 11, none⟩])
  (.ret))))))
theorem xf232 : xfunc Tryz.prog 232 = some ⟨xn232, xr232, xc232⟩ := by kernel_rfl
noncomputable def xn239 : Nat := 2
noncomputable def xr239 : List XRes := [.tmp 0]
noncomputable def xc239 : XCode := .seq (.region [⟨(some 0), .move (.v (.lit (.slice none 0 0))), none⟩])
  (.seq (.region [⟨(some 1), .call (.v (.func (.func 269) [] [])) [(.v (.str [115, 116, 114, 117, 99, 116, 32, 101, 110, 117, 109, 32, 102, 110, 32, 108, 101, 116, 32, 115, 97, 102, 101, 32, 104, 111, 111, 107, 32, 105, 110, 116, 32, 98, 111, 120, 32, 114, 101, 102, 32, 109, 117, 116, 32, 97, 100, 100, 32, 115, 117, 98, 32, 108, 101, 115, 115, 32, 117, 115, 101, 32, 110, 101, 119, 32, 116, 97, 103, 32, 111, 117, 116, 32, 103, 111, 116, 111, 32, 105, 102, 32, 109, 97, 116, 99, 104, 32, 99, 104, 101, 99, 107, 32, 99, 97, 108, 108, 32, 99, 97, 116, 99, 104, 32, 114, 101, 116, 117, 114, 110]))], none⟩,
 ⟨(some 0), .move (.t 1), none⟩])
  (.ret))
theorem xf239 : xfunc Tryz.prog 239 = some ⟨xn239, xr239, xc239⟩ := by kernel_rfl
noncomputable def xn258 : Nat := 8
noncomputable def xr258 : List XRes := [.tmp 4]
noncomputable def xc258 : XCode := .seq (.region [⟨(some 4), .move (.v (.lit (.int .i64 0))), none⟩])
  (.seq (.region [⟨(some 5), .move (.t 0), none⟩,
 ⟨(some 6), .move (.t 1), none⟩,
 ⟨(some 7), .call (.v (.func (.func 283) [] [])) [(.t 5), (.t 6)], none⟩,
 ⟨(some 4), .move (.t 7), none⟩])
  (.ret))
theorem xf258 : xfunc Tryz.prog 258 = some ⟨xn258, xr258, xc258⟩ := by kernel_rfl
noncomputable def xn261 : Nat := 19
noncomputable def xr261 : List XRes := [.tmp 4]
noncomputable def xc261 : XCode := .seq (.region [⟨(some 4), .move (.v (.lit (.int .i64 0))), none⟩])
  (.seq (.seq (.region [⟨(some 6), .move (.t 0), none⟩,
 ⟨(some 7), .len .slice (.t 6), none⟩,
 ⟨(some 8), .move (.v (.lit (.int .i64 0))), none⟩])
  (.block 0 (.loop (.seq (.region [⟨(some 9), .bin false .other .lss (.t 8) (.t 7), none⟩])
  (.seq (.cond (.t 9)
    (.skip)
    (.exit 0))
  (.seq (.block 1 (.seq (.region [⟨(some 10), .move (.t 8), none⟩,
 ⟨(some 5), .move (.t 10), none⟩])
  (.seq (.region [⟨(some 11), .move (.t 1), none⟩,
 ⟨(some 12), .move (.t 0), none⟩,
 ⟨(some 13), .move (.t 5), none⟩,
 ⟨(some 14), .indexAddr (.t 12) (.t 13) 1, none⟩,
 ⟨(some 15), .load (.t 14) 1 false, none⟩,
 ⟨(some 16), .bin false .other .eql (.t 11) (.t 15), none⟩])
  (.cond (.t 16)
    (.seq (.region [⟨(some 17), .move (.t 5), none⟩,
      ⟨(some 4), .move (.t 17), none⟩])
    (.ret))
    (.skip)))))
  (.region [⟨(some 18), .bin true .other .add (.t 8) (.v (.lit (.int .i64 1))), none⟩,
 ⟨(some 8), .move (.t 18), none⟩])))))))
  (.seq (.region [⟨(some 4), .move (.v (.lit (.int .i64 (-1)))), none⟩])
  (.ret)))
theorem xf261 : xfunc Tryz.prog 261 = some ⟨xn261, xr261, xc261⟩ := by kernel_rfl
noncomputable def xn262 : Nat := 5
noncomputable def xr262 : List XRes := [.tmp 2]
noncomputable def xc262 : XCode := .seq (.region [⟨(some 2), .move (.v (.lit (.bool false))), none⟩])
  (.seq (.region [⟨(some 3), .move (.t 0), none⟩,
 ⟨(some 4), .call (.v (.func (.func 219) [] [])) [(.t 3), (.v (.func (.func 289) [] []))], none⟩,
 ⟨(some 2), .move (.t 4), none⟩])
  (.ret))
theorem xf262 : xfunc Tryz.prog 262 = some ⟨xn262, xr262, xc262⟩ := by kernel_rfl
noncomputable def xn263 : Nat := 19
noncomputable def xr263 : List XRes := [.cell 2 4 true]
noncomputable def xc263 : XCode := .seq (.region [⟨(some 2), .alloc [(.lit (.int .i64 0)), (.lit (.int .i64 0)), (.str []), (.lit (.int .i64 0))], none⟩])
  (.seq (.region [⟨(some 4), .move (.t 0), none⟩,
 ⟨(some 5), .nilCheck (.t 4), none⟩,
 ⟨(some 6), .fieldAddr (.t 5) 0, none⟩,
 ⟨(some 7), .load (.t 6) 1 false, none⟩,
 ⟨(some 8), .indexAddr (.t 7) (.v (.lit (.int .i64 0))) 4, none⟩,
 ⟨(some 9), .load (.t 8) 4 true, none⟩,
 ⟨(some 3), .alloc [(.lit (.int .i64 0)), (.lit (.int .i64 0)), (.str []), (.lit (.int .i64 0))], none⟩,
 ⟨none, .store (.t 3) (.t 9) 4, none⟩])
  (.seq (.region [⟨(some 10), .move (.t 0), none⟩,
 ⟨(some 11), .move (.t 0), none⟩,
 ⟨(some 12), .nilCheck (.t 11), none⟩,
 ⟨(some 13), .fieldAddr (.t 12) 0, none⟩,
 ⟨(some 14), .load (.t 13) 1 false, none⟩,
 ⟨(some 15), .slice false (.t 14) (some (.v (.lit (.int .i64 1)))) none 4, none⟩,
 ⟨(some 16), .nilCheck (.t 10), none⟩,
 ⟨(some 17), .fieldAddr (.t 16) 0, none⟩,
 ⟨none, .store (.t 17) (.t 15) 1, none⟩])
  (.seq (.region [⟨(some 18), .load (.t 3) 4 true, none⟩,
 ⟨none, .store (.t 2) (.t 18) 4, none⟩])
  (.ret))))
theorem xf263 : xfunc Tryz.prog 263 = some ⟨xn263, xr263, xc263⟩ := by kernel_rfl
noncomputable def xn264 : Nat := 17
noncomputable def xr264 : List XRes := [.tmp 2]
noncomputable def xc264 : XCode := .seq (.region [⟨(some 2), .move (.v (.str [])), none⟩])
  (.seq (.seq (.region [⟨(some 4), .move (.t 0), none⟩,
 ⟨(some 5), .buildSlice [(.str [])] 2 [(0, (.v (.str [114, 101, 102]))), (1, (.v (.str [109, 117, 116])))], none⟩,
 ⟨(some 6), .call (.v (.func (.func 165) [] [])) [(.t 4), (.t 5)], none⟩])
  (.cond (.t 6)
    (.seq (.region [⟨(some 7), .move (.t 0), none⟩,
      ⟨(some 8), .call (.v (.func (.func 263) [] [])) [(.t 7)], none⟩,
      ⟨(some 9), .field (.t 8) 2 1 false, none⟩,
      ⟨(some 3), .move (.t 9), none⟩])
    (.seq (.region [⟨(some 10), .move (.t 3), none⟩,
      ⟨(some 11), .bin true .other .add (.t 10) (.v (.str [32])), none⟩,
      ⟨(some 12), .move (.t 0), none⟩,
      ⟨(some 13), .call (.v (.func (.func 231) [] [])) [(.t 12)], none⟩,
      ⟨(some 14), .bin false .other .add (.t 11) (.t 13), none⟩,
      ⟨(some 2), .move (.t 14), none⟩])
    (.ret)))
    (.skip)))
  (.seq (.region [⟨(some 15), .move (.t 0), none⟩,
 ⟨(some 16), .call (.v (.func (.func 231) [] [])) [(.t 15)], none⟩,
 ⟨(some 2), .move (.t 16), none⟩])
  (.ret)))
theorem xf264 : xfunc Tryz.prog 264 = some ⟨xn264, xr264, xc264⟩ := by kernel_rfl
noncomputable def xn265 : Nat := 5
noncomputable def xr265 : List XRes := [.tmp 2]
noncomputable def xc265 : XCode := .seq (.region [⟨(some 2), .move (.v (.lit (.bool false))), none⟩])
  (.seq (.region [⟨(some 3), .move (.t 0), none⟩,
 ⟨(some 4), .call (.v (.func (.func 219) [] [])) [(.t 3), (.v (.func (.func 290) [] []))], none⟩,
 ⟨(some 2), .move (.t 4), none⟩])
  (.ret))
theorem xf265 : xfunc Tryz.prog 265 = some ⟨xn265, xr265, xc265⟩ := by kernel_rfl
noncomputable def xn267 : Nat := 72
noncomputable def xr267 : List XRes := [.cell 2 8 true]
noncomputable def xc267 : XCode := .seq (.region [⟨(some 2), .alloc [(.lit (.int .i64 0)), (.lit (.int .i64 0)), (.str []), (.lit (.slice none 0 0)), (.str []), (.lit (.slice none 0 0)), (.lit (.slice none 0 0)), (.lit (.slice none 0 0))], none⟩])
  (.seq (.region [⟨(some 4), .move (.t 0), none⟩,
 ⟨(some 5), .call (.v (.func (.func 222) [] [])) [(.t 4)], none⟩,
 ⟨(some 6), .build [(.lit (.int .i64 0)), (.lit (.int .i64 0)), (.str []), (.lit (.slice none 0 0)), (.str []), (.lit (.slice none 0 0)), (.lit (.slice none 0 0)), (.lit (.slice none 0 0))] [(0, 1), (1, 1), (2, 2), (4, 1), (5, 1), (6, 1), (7, 1)] [(0, (.t 5))], none⟩,
 ⟨(some 3), .alloc [(.lit (.int .i64 0)), (.lit (.int .i64 0)), (.str []), (.lit (.slice none 0 0)), (.str []), (.lit (.slice none 0 0)), (.lit (.slice none 0 0)), (.lit (.slice none 0 0))], none⟩,
 ⟨none, .store (.t 3) (.t 6) 8, none⟩])
  (.seq (.seq (.region [⟨(some 7), .move (.t 0), none⟩,
 ⟨(some 8), .call (.v (.func (.func 265) [] [])) [(.t 7)], none⟩,
 ⟨(some 9), .un .not (.t 8), none⟩])
  (.cond (.t 9)
    (.seq (.region [⟨(some 10), .move (.t 0), none⟩,
      ⟨(some 11), .call (.v (.func (.func 170) [] [])) [(.t 10)], none⟩])
    (.seq (.region [⟨(some 12), .load (.t 3) 8 true, none⟩,
      ⟨none, .store (.t 2) (.t 12) 8, none⟩])
    (.ret)))
    (.skip)))
  (.seq (.seq (.region [⟨(some 13), .call (.v (.func (.func 291) [] [])) [], none⟩,
 ⟨(some 14), .move (.t 0), none⟩,
 ⟨(some 15), .call (.v (.func (.func 263) [] [])) [(.t 14)], none⟩,
 ⟨(some 16), .field (.t 15) 2 1 false, none⟩,
 ⟨(some 17), .mapGet false (.lit (.int .i64 0)) (.t 13) (.t 16) false, none⟩,
 ⟨(some 18), .fieldAddr (.t 3) 1, none⟩,
 ⟨none, .store (.t 18) (.t 17) 1, none⟩])
  (.seq (.region [⟨(some 19), .fieldAddr (.t 3) 1, none⟩,
 ⟨(some 20), .load (.t 19) 1 false, none⟩])
  (.block 0 (.seq (.seq (.region [⟨(some 22), .bin true .other .eql (.t 20) (.v (.lit (.int .i64 1))), none⟩,
 ⟨(some 21), .move (.t 22), none⟩])
  (.cond (.t 21)
    (.skip)
    (.region [⟨(some 23), .bin true .other .eql (.t 20) (.v (.lit (.int .i64 4))), none⟩,
      ⟨(some 21), .move (.t 23), none⟩])))
  (.cond (.t 21)
    (.region [⟨(some 24), .move (.t 0), none⟩,
      ⟨(some 25), .call (.v (.func (.func 295) [] [])) [(.t 24), (.v (.lit (.int .i64 1)))], none⟩,
      ⟨(some 26), .fieldAddr (.t 3) 6, none⟩,
      ⟨none, .store (.t 26) (.t 25) 1, none⟩])
    (.seq (.region [⟨(some 28), .bin true .other .eql (.t 20) (.v (.lit (.int .i64 2))), none⟩,
      ⟨(some 27), .move (.t 28), none⟩])
    (.cond (.t 27)
      (.region [⟨(some 29), .move (.t 0), none⟩,
        ⟨(some 30), .call (.v (.func (.func 292) [] [])) [(.t 29), (.v (.lit (.int .i64 1)))], none⟩,
        ⟨(some 31), .move (.t 0), none⟩,
        ⟨(some 32), .call (.v (.func (.func 295) [] [])) [(.t 31), (.v (.lit (.int .i64 2)))], none⟩,
        ⟨(some 33), .fieldAddr (.t 3) 5, none⟩,
        ⟨none, .store (.t 33) (.t 30) 1, none⟩,
        ⟨(some 34), .fieldAddr (.t 3) 6, none⟩,
        ⟨none, .store (.t 34) (.t 32) 1, none⟩])
      (.seq (.region [⟨(some 36), .bin true .other .eql (.t 20) (.v (.lit (.int .i64 3))), none⟩,
        ⟨(some 35), .move (.t 36), none⟩])
      (.cond (.t 35)
        (.region [⟨(some 37), .move (.t 0), none⟩,
          ⟨(some 38), .call (.v (.func (.func 292) [] [])) [(.t 37), (.v (.lit (.int .i64 1)))], none⟩,
          ⟨(some 39), .move (.t 0), none⟩,
          ⟨(some 40), .move (.t 0), none⟩,
          ⟨(some 41), .func (.func 297) [(.t 40)] [], none⟩,
          ⟨(some 42), .call (.v (.func (.func 296) [] [])) [(.t 39), (.t 41)], none⟩,
          ⟨(some 43), .fieldAddr (.t 3) 5, none⟩,
          ⟨none, .store (.t 43) (.t 38) 1, none⟩,
          ⟨(some 44), .fieldAddr (.t 3) 7, none⟩,
          ⟨none, .store (.t 44) (.t 42) 1, none⟩])
        (.seq (.seq (.region [⟨(some 46), .bin true .other .eql (.t 20) (.v (.lit (.int .i64 5))), none⟩,
          ⟨(some 45), .move (.t 46), none⟩])
        (.cond (.t 45)
          (.skip)
          (.region [⟨(some 47), .bin true .other .eql (.t 20) (.v (.lit (.int .i64 6))), none⟩,
            ⟨(some 45), .move (.t 47), none⟩])))
        (.cond (.t 45)
          (.seq (.region [⟨(some 48), .move (.t 0), none⟩,
            ⟨(some 49), .call (.v (.func (.func 293) [] [])) [(.t 48)], none⟩,
            ⟨(some 50), .fieldAddr (.t 3) 2, none⟩,
            ⟨none, .store (.t 50) (.t 49) 2, none⟩])
          (.seq (.region [⟨(some 51), .move (.t 0), none⟩,
            ⟨(some 52), .buildSlice [(.str [])] 1 [(0, (.v (.str [61])))], none⟩,
            ⟨(some 53), .call (.v (.func (.func 223) [] [])) [(.t 51), (.t 52)], none⟩])
          (.region [⟨(some 54), .move (.t 0), none⟩,
            ⟨(some 55), .call (.v (.func (.func 224) [] [])) [(.t 54)], none⟩,
            ⟨(some 56), .move (.t 0), none⟩,
            ⟨(some 57), .call (.v (.func (.func 298) [] [])) [(.t 56)], none⟩,
            ⟨(some 58), .move (.t 0), none⟩,
            ⟨(some 59), .call (.v (.func (.func 295) [] [])) [(.t 58), (.v (.lit (.int .i64 1)))], none⟩,
            ⟨(some 60), .fieldAddr (.t 3) 4, none⟩,
            ⟨none, .store (.t 60) (.t 55) 1, none⟩,
            ⟨(some 61), .fieldAddr (.t 3) 5, none⟩,
            ⟨none, .store (.t 61) (.t 57) 1, none⟩,
            ⟨(some 62), .fieldAddr (.t 3) 6, none⟩,
            ⟨none, .store (.t 62) (.t 59) 1, none⟩])))
          (.seq (.region [⟨(some 64), .bin true .other .eql (.t 20) (.v (.lit (.int .i64 7))), none⟩,
            ⟨(some 63), .move (.t 64), none⟩])
          (.cond (.t 63)
            (.region [⟨(some 65), .move (.t 0), none⟩,
              ⟨(some 66), .call (.v (.func (.func 292) [] [])) [(.t 65), (.v (.lit (.int .i64 1)))], none⟩,
              ⟨(some 67), .fieldAddr (.t 3) 5, none⟩,
              ⟨none, .store (.t 67) (.t 66) 1, none⟩])
            (.skip))))))))))))))
  (.seq (.region [⟨(some 68), .move (.t 0), none⟩,
 ⟨(some 69), .buildSlice [(.str [])] 1 [(0, (.v (.str [59])))], none⟩,
 ⟨(some 70), .call (.v (.func (.func 223) [] [])) [(.t 68), (.t 69)], none⟩])
  (.seq (.region [⟨(some 71), .load (.t 3) 8 true, none⟩,
 ⟨none, .store (.t 2) (.t 71) 8, none⟩])
  (.ret))))))
theorem xf267 : xfunc Tryz.prog 267 = some ⟨xn267, xr267, xc267⟩ := by kernel_rfl
noncomputable def xn269 : Nat := 106
noncomputable def xr269 : List XRes := [.tmp 2]
noncomputable def xc269 : XCode := .seq (.region [⟨(some 2), .move (.v (.lit (.slice none 0 0))), none⟩])
  (.seq (.region [⟨(some 3), .move (.v (.lit (.int .i64 0))), none⟩])
  (.seq (.region [⟨(some 4), .move (.v (.lit (.int .i64 1))), none⟩])
  (.seq (.region [⟨(some 5), .move (.v (.lit (.int .u8 0))), none⟩])
  (.seq (.seq (.region [⟨(some 6), .move (.v (.lit (.int .i64 0))), none⟩])
  (.block 0 (.loop (.seq (.seq (.region [⟨(some 13), .move (.t 6), none⟩,
 ⟨(some 14), .move (.t 0), none⟩,
 ⟨(some 15), .len .other (.t 14), none⟩,
 ⟨(some 16), .bin false .other .lss (.t 13) (.t 15), none⟩])
  (.cond (.t 16)
    (.skip)
    (.exit 0)))
  (.seq (.block 1 (.seq (.region [⟨(some 19), .move (.t 0), none⟩,
 ⟨(some 20), .move (.t 6), none⟩,
 ⟨(some 21), .index (.t 19) (.t 20), none⟩,
 ⟨(some 7), .move (.t 21), none⟩])
  (.seq (.region [⟨(some 22), .move (.t 5), none⟩,
 ⟨(some 23), .move (.t 7), none⟩,
 ⟨(some 24), .bin false .other .or (.t 22) (.t 23), none⟩,
 ⟨(some 5), .move (.t 24), none⟩])
  (.seq (.region [⟨(some 25), .move (.t 7), none⟩,
 ⟨(some 26), .idxA (.v (globA 1)) (.t 25) 256 1, none⟩,
 ⟨(some 27), .load (.t 26) 1 false, none⟩,
 ⟨(some 28), .conv (.int .i64) (.t 27), none⟩,
 ⟨(some 8), .move (.t 28), none⟩])
  (.seq (.region [⟨(some 29), .move (.t 3), none⟩,
 ⟨(some 30), .move (.t 4), none⟩,
 ⟨(some 31), .move (.t 8), none⟩,
 ⟨(some 32), .un .xor (.t 31), none⟩,
 ⟨(some 33), .bin false .other .and (.t 30) (.t 32), none⟩,
 ⟨(some 34), .bin false .other .add (.t 29) (.t 33), none⟩,
 ⟨(some 3), .move (.t 34), none⟩])
  (.region [⟨(some 35), .move (.t 8), none⟩,
 ⟨(some 4), .move (.t 35), none⟩]))))))
  (.region [⟨(some 17), .move (.t 6), none⟩,
 ⟨(some 18), .bin true .other .add (.t 17) (.v (.lit (.int .i64 1))), none⟩,
 ⟨(some 6), .move (.t 18), none⟩]))))))
  (.seq (.seq (.region [⟨(some 36), .move (.t 5), none⟩,
 ⟨(some 37), .bin true .other .geq (.t 36) (.v (.lit (.int .u8 128))), none⟩])
  (.cond (.t 37)
    (.seq (.region [⟨(some 38), .move (.t 0), none⟩,
      ⟨(some 39), .call (.v (.func (.func 303) [] [])) [(.t 38), (.v (.func (.func 304) [] []))], none⟩,
      ⟨(some 2), .move (.t 39), none⟩])
    (.ret))
    (.skip)))
  (.seq (.region [⟨(some 40), .move (.t 3), none⟩,
 ⟨(some 41), .makeSlice [(.str [])] (.t 40) (.t 40), none⟩,
 ⟨(some 9), .move (.t 41), none⟩])
  (.seq (.region [⟨(some 10), .move (.v (.lit (.int .i64 0))), none⟩])
  (.seq (.region [⟨(some 11), .move (.v (.lit (.int .i64 0))), none⟩])
  (.seq (.region [⟨(some 12), .move (.v (.lit (.int .i64 0))), none⟩])
  (.seq (.block 2 (.loop (.seq (.seq (.region [⟨(some 42), .move (.t 12), none⟩,
 ⟨(some 43), .move (.t 0), none⟩,
 ⟨(some 44), .len .other (.t 43), none⟩,
 ⟨(some 45), .bin false .other .lss (.t 42) (.t 44), none⟩,
 ⟨(some 46), .move (.t 45), none⟩,
 ⟨(some 47), .move (.t 0), some (46, true)⟩,
 ⟨(some 48), .move (.t 12), some (46, true)⟩,
 ⟨(some 49), .index (.t 47) (.t 48), some (46, true)⟩,
 ⟨(some 50), .idxA (.v (globA 1)) (.t 49) 256 1, some (46, true)⟩,
 ⟨(some 51), .load (.t 50) 1 false, some (46, true)⟩,
 ⟨(some 52), .bin true .other .neq (.t 51) (.v (.lit (.int .u8 0))), some (46, true)⟩,
 ⟨(some 53), .pick (.t 46) (.t 52) (.v (.lit (.bool false))), none⟩])
  (.cond (.t 53)
    (.skip)
    (.exit 2)))
  (.block 3 (.region [⟨(some 54), .move (.t 12), none⟩,
 ⟨(some 55), .bin true .other .add (.t 54) (.v (.lit (.int .i64 1))), none⟩,
 ⟨(some 12), .move (.t 55), none⟩])))))
  (.seq (.region [⟨(some 56), .move (.t 12), none⟩,
 ⟨(some 11), .move (.t 56), none⟩])
  (.seq (.block 4 (.loop (.seq (.seq (.region [⟨(some 57), .move (.t 12), none⟩,
 ⟨(some 58), .move (.t 0), none⟩,
 ⟨(some 59), .len .other (.t 58), none⟩,
 ⟨(some 60), .bin false .other .lss (.t 57) (.t 59), none⟩])
  (.cond (.t 60)
    (.skip)
    (.exit 4)))
  (.block 5 (.seq (.seq (.region [⟨(some 61), .move (.t 0), none⟩,
 ⟨(some 62), .move (.t 12), none⟩,
 ⟨(some 63), .index (.t 61) (.t 62), none⟩,
 ⟨(some 64), .idxA (.v (globA 1)) (.t 63) 256 1, none⟩,
 ⟨(some 65), .load (.t 64) 1 false, none⟩,
 ⟨(some 66), .bin true .other .eql (.t 65) (.v (.lit (.int .u8 0))), none⟩])
  (.cond (.t 66)
    (.seq (.region [⟨(some 67), .move (.t 12), none⟩,
      ⟨(some 68), .bin true .other .add (.t 67) (.v (.lit (.int .i64 1))), none⟩,
      ⟨(some 12), .move (.t 68), none⟩])
    (.exit 5))
    (.skip)))
  (.seq (.region [⟨(some 69), .move (.t 9), none⟩,
 ⟨(some 70), .move (.t 10), none⟩,
 ⟨(some 71), .move (.t 0), none⟩,
 ⟨(some 72), .move (.t 11), none⟩,
 ⟨(some 73), .move (.t 12), none⟩,
 ⟨(some 74), .slice true (.t 71) (some (.t 72)) (some (.t 73)) 0, none⟩,
 ⟨(some 75), .indexAddr (.t 69) (.t 70) 1, none⟩,
 ⟨none, .store (.t 75) (.t 74) 1, none⟩])
  (.seq (.region [⟨(some 76), .move (.t 10), none⟩,
 ⟨(some 77), .bin true .other .add (.t 76) (.v (.lit (.int .i64 1))), none⟩,
 ⟨(some 10), .move (.t 77), none⟩])
  (.seq (.region [⟨(some 78), .move (.t 12), none⟩,
 ⟨(some 79), .bin true .other .add (.t 78) (.v (.lit (.int .i64 1))), none⟩,
 ⟨(some 12), .move (.t 79), none⟩])
  (.seq (.block 6 (.loop (.seq (.seq (.region [⟨(some 80), .move (.t 12), none⟩,
 ⟨(some 81), .move (.t 0), none⟩,
 ⟨(some 82), .len .other (.t 81), none⟩,
 ⟨(some 83), .bin false .other .lss (.t 80) (.t 82), none⟩,
 ⟨(some 84), .move (.t 83), none⟩,
 ⟨(some 85), .move (.t 0), some (84, true)⟩,
 ⟨(some 86), .move (.t 12), some (84, true)⟩,
 ⟨(some 87), .index (.t 85) (.t 86), some (84, true)⟩,
 ⟨(some 88), .idxA (.v (globA 1)) (.t 87) 256 1, some (84, true)⟩,
 ⟨(some 89), .load (.t 88) 1 false, some (84, true)⟩,
 ⟨(some 90), .bin true .other .neq (.t 89) (.v (.lit (.int .u8 0))), some (84, true)⟩,
 ⟨(some 91), .pick (.t 84) (.t 90) (.v (.lit (.bool false))), none⟩])
  (.cond (.t 91)
    (.skip)
    (.exit 6)))
  (.block 7 (.region [⟨(some 92), .move (.t 12), none⟩,
 ⟨(some 93), .bin true .other .add (.t 92) (.v (.lit (.int .i64 1))), none⟩,
 ⟨(some 12), .move (.t 93), none⟩])))))
  (.region [⟨(some 94), .move (.t 12), none⟩,
 ⟨(some 11), .move (.t 94), none⟩]))))))))))
  (.seq (.seq (.region [⟨(some 95), .move (.t 11), none⟩,
 ⟨(some 96), .move (.t 0), none⟩,
 ⟨(some 97), .len .other (.t 96), none⟩,
 ⟨(some 98), .bin false .other .lss (.t 95) (.t 97), none⟩])
  (.cond (.t 98)
    (.region [⟨(some 99), .move (.t 9), none⟩,
      ⟨(some 100), .move (.t 10), none⟩,
      ⟨(some 101), .move (.t 0), none⟩,
      ⟨(some 102), .move (.t 11), none⟩,
      ⟨(some 103), .slice true (.t 101) (some (.t 102)) none 0, none⟩,
      ⟨(some 104), .indexAddr (.t 99) (.t 100) 1, none⟩,
      ⟨none, .store (.t 104) (.t 103) 1, none⟩])
    (.skip)))
  (.seq (.region [⟨(some 105), .move (.t 9), none⟩,
 ⟨(some 2), .move (.t 105), none⟩])
  (.ret)))))))))))))))
theorem xf269 : xfunc Tryz.prog 269 = some ⟨xn269, xr269, xc269⟩ := by kernel_rfl
noncomputable def xn289 : Nat := 6
noncomputable def xr289 : List XRes := [.tmp 2]
noncomputable def xc289 : XCode := .seq (.region [⟨(some 1), .box (.t 0), none⟩,
 ⟨(some 2), .move (.v (.lit (.bool false))), none⟩])
  (.seq (.region [⟨(some 3), .fieldAddr (.t 1) 0, none⟩,
 ⟨(some 4), .load (.t 3) 1 false, none⟩,
 ⟨(some 5), .bin true .other .eql (.t 4) (.v (.lit (.int .i64 1))), none⟩,
 ⟨(some 2), .move (.t 5), none⟩])
  (.ret))
theorem xf289 : xfunc Tryz.prog 289 = some ⟨xn289, xr289, xc289⟩ := by kernel_rfl
noncomputable def xn290 : Nat := 8
noncomputable def xr290 : List XRes := [.tmp 2]
noncomputable def xc290 : XCode := .seq (.region [⟨(some 1), .box (.t 0), none⟩,
 ⟨(some 2), .move (.v (.lit (.bool false))), none⟩])
  (.seq (.draw [⟨.eff, 0, 1⟩, ⟨.pure, 0, 1⟩, ⟨.read, 0, 1⟩, ⟨.eff, 1, 2⟩, ⟨.pure, 2, 2⟩, ⟨.pure, 2, 2⟩] [⟨(some 3), .call (.v (.func (.func 291) [] [])) [], none⟩,
 ⟨(some 4), .fieldAddr (.t 1) 2, none⟩,
 ⟨(some 5), .load (.t 4) 1 false, none⟩,
 ⟨(some 6), .mapGet false (.lit (.int .i64 0)) (.t 3) (.t 5) false, none⟩,
 ⟨(some 7), .bin true .other .neq (.t 6) (.v (.lit (.int .i64 0))), none⟩,
 ⟨(some 2), .move (.t 7), none⟩])
  (.ret))
theorem xf290 : xfunc Tryz.prog 290 = some ⟨xn290, xr290, xc290⟩ := by kernel_rfl
noncomputable def xn291 : Nat := 3
noncomputable def xr291 : List XRes := [.tmp 0]
noncomputable def xc291 : XCode := .seq (.region [⟨(some 0), .move (.v (.lit (.map none))), none⟩])
  (.seq (.region [⟨(some 1), .makeMap, none⟩,
 ⟨none, .mapPut false (.t 1) (.v (.str [103, 111, 116, 111])) (.v (.lit (.int .i64 1))), none⟩,
 ⟨none, .mapPut false (.t 1) (.v (.str [105, 102])) (.v (.lit (.int .i64 2))), none⟩,
 ⟨none, .mapPut false (.t 1) (.v (.str [109, 97, 116, 99, 104])) (.v (.lit (.int .i64 3))), none⟩,
 ⟨none, .mapPut false (.t 1) (.v (.str [99, 104, 101, 99, 107])) (.v (.lit (.int .i64 4))), none⟩,
 ⟨none, .mapPut false (.t 1) (.v (.str [99, 97, 108, 108])) (.v (.lit (.int .i64 5))), none⟩,
 ⟨none, .mapPut false (.t 1) (.v (.str [99, 97, 116, 99, 104])) (.v (.lit (.int .i64 6))), none⟩,
 ⟨none, .mapPut false (.t 1) (.v (.str [114, 101, 116, 117, 114, 110])) (.v (.lit (.int .i64 7))), none⟩,
 ⟨(some 2), .move (.t 1), none⟩,
 ⟨(some 0), .move (.t 2), none⟩])
  (.ret))
theorem xf291 : xfunc Tryz.prog 291 = some ⟨xn291, xr291, xc291⟩ := by kernel_rfl
noncomputable def xn292 : Nat := 16
noncomputable def xr292 : List XRes := [.tmp 4]
noncomputable def xc292 : XCode := .seq (.region [⟨(some 4), .move (.v (.lit (.slice none 0 0))), none⟩])
  (.seq (.region [⟨(some 5), .move (.v (.lit (.slice none 0 0))), none⟩])
  (.seq (.seq (.region [⟨(some 6), .move (.t 1), none⟩,
 ⟨(some 7), .move (.v (.lit (.int .i64 0))), none⟩])
  (.block 0 (.loop (.seq (.region [⟨(some 8), .bin false .other .lss (.t 7) (.t 6), none⟩])
  (.seq (.cond (.t 8)
    (.skip)
    (.exit 0))
  (.seq (.block 1 (.region [⟨(some 9), .move (.t 5), none⟩,
 ⟨(some 10), .move (.t 0), none⟩,
 ⟨(some 11), .call (.v (.func (.func 293) [] [])) [(.t 10)], none⟩,
 ⟨(some 12), .buildSlice [(.str []), (.lit (.slice none 0 0))] 1 [(0, (.t 11))], none⟩,
 ⟨(some 13), .append 2 (.t 9) (.t 12), none⟩,
 ⟨(some 5), .move (.t 13), none⟩]))
  (.region [⟨(some 14), .bin true .other .add (.t 7) (.v (.lit (.int .i64 1))), none⟩,
 ⟨(some 7), .move (.t 14), none⟩])))))))
  (.seq (.region [⟨(some 15), .move (.t 5), none⟩,
 ⟨(some 4), .move (.t 15), none⟩])
  (.ret))))
theorem xf292 : xfunc Tryz.prog 292 = some ⟨xn292, xr292, xc292⟩ := by kernel_rfl
noncomputable def xn293 : Nat := 50
noncomputable def xr293 : List XRes := [.cell 2 2 true]
noncomputable def xc293 : XCode := .seq (.region [⟨(some 2), .alloc [(.str []), (.lit (.slice none 0 0))], none⟩])
  (.seq (.region [⟨(some 5), .move (.t 0), none⟩,
 ⟨(some 6), .call (.v (.func (.func 222) [] [])) [(.t 5)], none⟩,
 ⟨(some 3), .move (.t 6), none⟩])
  (.seq (.region [⟨(some 7), .move (.t 0), none⟩,
 ⟨(some 8), .call (.v (.func (.func 224) [] [])) [(.t 7)], none⟩,
 ⟨(some 9), .build [(.str []), (.lit (.slice none 0 0))] [(0, 1), (1, 1)] [(0, (.t 8))], none⟩,
 ⟨(some 4), .alloc [(.str []), (.lit (.slice none 0 0))], none⟩,
 ⟨none, .store (.t 4) (.t 9) 2, none⟩])
  (.seq (.block 0 (.loop (.seq (.seq (.region [⟨(some 10), .move (.t 0), none⟩,
 ⟨(some 11), .call (.v (.func (.func 225) [] [])) [(.t 10), (.v (.str [46]))], none⟩])
  (.cond (.t 11)
    (.skip)
    (.exit 0)))
  (.block 1 (.seq (.seq (.region [⟨(some 12), .move (.t 0), none⟩,
 ⟨(some 13), .call (.v (.func (.func 225) [] [])) [(.t 12), (.v (.str [42]))], none⟩])
  (.cond (.t 13)
    (.seq (.region [⟨(some 14), .fieldAddr (.t 4) 1, none⟩,
      ⟨(some 15), .load (.t 14) 1 false, none⟩,
      ⟨(some 16), .buildSlice [(.str [])] 1 [(0, (.v (.str [42])))], none⟩,
      ⟨(some 17), .append 1 (.t 15) (.t 16), none⟩,
      ⟨(some 18), .fieldAddr (.t 4) 1, none⟩,
      ⟨none, .store (.t 18) (.t 17) 1, none⟩])
    (.exit 1))
    (.skip)))
  (.draw [⟨.pure, 0, 1⟩, ⟨.read, 0, 1⟩, ⟨.pure, 0, 0⟩, ⟨.eff, 0, 1⟩, ⟨.fresh, 1, 1⟩, ⟨.eff, 1, 2⟩, ⟨.pure, 2, 2⟩, ⟨.eff, 2, 3⟩] [⟨(some 19), .fieldAddr (.t 4) 1, none⟩,
 ⟨(some 20), .load (.t 19) 1 false, none⟩,
 ⟨(some 21), .move (.t 0), none⟩,
 ⟨(some 22), .call (.v (.func (.func 224) [] [])) [(.t 21)], none⟩,
 ⟨(some 23), .buildSlice [(.str [])] 1 [(0, (.t 22))], none⟩,
 ⟨(some 24), .append 1 (.t 20) (.t 23), none⟩,
 ⟨(some 25), .fieldAddr (.t 4) 1, none⟩,
 ⟨none, .store (.t 25) (.t 24) 1, none⟩]))))))
  (.seq (.seq (.region [⟨(some 26), .fieldAddr (.t 4) 1, none⟩,
 ⟨(some 27), .load (.t 26) 1 false, none⟩,
 ⟨(some 28), .len .slice (.t 27), none⟩,
 ⟨(some 29), .bin true .other .gtr (.t 28) (.v (.lit (.int .i64 8))), none⟩,
 ⟨(some 30), .move (.t 29), none⟩,
 ⟨(some 31), .move (.t 0), some (30, true)⟩,
 ⟨(some 32), .nilCheck (.t 31), some (30, true)⟩,
 ⟨(some 33), .fieldAddr (.t 32) 3, some (30, true)⟩,
 ⟨(some 34), .load (.t 33) 1 false, some (30, true)⟩,
 ⟨(some 35), .bin true .other .eql (.t 34) (.v (.lit (.int .i64 (-1)))), some (30, true)⟩,
 ⟨(some 36), .move (.t 35), some (30, true)⟩,
 ⟨(some 37), .move (.t 3), some (36, false)⟩,
 ⟨(some 38), .move (.t 0), some (36, false)⟩,
 ⟨(some 39), .nilCheck (.t 38), some (36, false)⟩,
 ⟨(some 40), .fieldAddr (.t 39) 3, some (36, false)⟩,
 ⟨(some 41), .load (.t 40) 1 false, some (36, false)⟩,
 ⟨(some 42), .bin false .other .lss (.t 37) (.t 41), some (36, false)⟩,
 ⟨(some 43), .pick (.t 36) (.v (.lit (.bool true))) (.t 42), some (30, true)⟩,
 ⟨(some 44), .pick (.t 30) (.t 43) (.v (.lit (.bool false))), none⟩])
  (.cond (.t 44)
    (.region [⟨(some 45), .move (.t 0), none⟩,
      ⟨(some 46), .move (.t 3), none⟩,
      ⟨(some 47), .nilCheck (.t 45), none⟩,
      ⟨(some 48), .fieldAddr (.t 47) 3, none⟩,
      ⟨none, .store (.t 48) (.t 46) 1, none⟩])
    (.skip)))
  (.seq (.region [⟨(some 49), .load (.t 4) 2 true, none⟩,
 ⟨none, .store (.t 2) (.t 49) 2, none⟩])
  (.ret))))))
theorem xf293 : xfunc Tryz.prog 293 = some ⟨xn293, xr293, xc293⟩ := by kernel_rfl
noncomputable def xn295 : Nat := 16
noncomputable def xr295 : List XRes := [.tmp 4]
noncomputable def xc295 : XCode := .seq (.region [⟨(some 4), .move (.v (.lit (.slice none 0 0))), none⟩])
  (.seq (.region [⟨(some 5), .move (.v (.lit (.slice none 0 0))), none⟩])
  (.seq (.seq (.region [⟨(some 6), .move (.t 1), none⟩,
 ⟨(some 7), .move (.v (.lit (.int .i64 0))), none⟩])
  (.block 0 (.loop (.seq (.region [⟨(some 8), .bin false .other .lss (.t 7) (.t 6), none⟩])
  (.seq (.cond (.t 8)
    (.skip)
    (.exit 0))
  (.seq (.block 1 (.region [⟨(some 9), .move (.t 5), none⟩,
 ⟨(some 10), .move (.t 0), none⟩,
 ⟨(some 11), .call (.v (.func (.func 224) [] [])) [(.t 10)], none⟩,
 ⟨(some 12), .buildSlice [(.str [])] 1 [(0, (.t 11))], none⟩,
 ⟨(some 13), .append 1 (.t 9) (.t 12), none⟩,
 ⟨(some 5), .move (.t 13), none⟩]))
  (.region [⟨(some 14), .bin true .other .add (.t 7) (.v (.lit (.int .i64 1))), none⟩,
 ⟨(some 7), .move (.t 14), none⟩])))))))
  (.seq (.region [⟨(some 15), .move (.t 5), none⟩,
 ⟨(some 4), .move (.t 15), none⟩])
  (.ret))))
theorem xf295 : xfunc Tryz.prog 295 = some ⟨xn295, xr295, xc295⟩ := by kernel_rfl
noncomputable def xtab : XTree := (.node 120 (.node 58 (.node 33 (.node 21 (.node 17 (.node 14 (.leaf 14 ⟨xn14, xr14, xc14⟩) (.node 16 (.leaf 16 ⟨xn16, xr16, xc16⟩) (.leaf 17 ⟨xn17, xr17, xc17⟩))) (.node 19 (.node 18 (.leaf 18 ⟨xn18, xr18, xc18⟩) (.leaf 19 ⟨xn19, xr19, xc19⟩)) (.node 20 (.leaf 20 ⟨xn20, xr20, xc20⟩) (.leaf 21 ⟨xn21, xr21, xc21⟩)))) (.node 27 (.node 22 (.leaf 22 ⟨xn22, xr22, xc22⟩) (.node 24 (.leaf 24 ⟨xn24, xr24, xc24⟩) (.leaf 27 ⟨xn27, xr27, xc27⟩))) (.node 30 (.node 28 (.leaf 28 ⟨xn28, xr28, xc28⟩) (.leaf 30 ⟨xn30, xr30, xc30⟩)) (.node 31 (.leaf 31 ⟨xn31, xr31, xc31⟩) (.leaf 33 ⟨xn33, xr33, xc33⟩))))) (.node 51 (.node 37 (.node 34 (.leaf 34 ⟨xn34, xr34, xc34⟩) (.node 36 (.leaf 36 ⟨xn36, xr36, xc36⟩) (.leaf 37 ⟨xn37, xr37, xc37⟩))) (.node 44 (.node 39 (.leaf 39 ⟨xn39, xr39, xc39⟩) (.leaf 44 ⟨xn44, xr44, xc44⟩)) (.node 50 (.leaf 50 ⟨xn50, xr50, xc50⟩) (.leaf 51 ⟨xn51, xr51, xc51⟩)))) (.node 54 (.node 52 (.leaf 52 ⟨xn52, xr52, xc52⟩) (.node 53 (.leaf 53 ⟨xn53, xr53, xc53⟩) (.leaf 54 ⟨xn54, xr54, xc54⟩))) (.node 56 (.node 55 (.leaf 55 ⟨xn55, xr55, xc55⟩) (.leaf 56 ⟨xn56, xr56, xc56⟩)) (.node 57 (.leaf 57 ⟨xn57, xr57, xc57⟩) (.leaf 58 ⟨xn58, xr58, xc58⟩)))))) (.node 77 (.node 66 (.node 61 (.node 59 (.leaf 59 ⟨xn59, xr59, xc59⟩) (.node 60 (.leaf 60 ⟨xn60, xr60, xc60⟩) (.leaf 61 ⟨xn61, xr61, xc61⟩))) (.node 63 (.node 62 (.leaf 62 ⟨xn62, xr62, xc62⟩) (.leaf 63 ⟨xn63, xr63, xc63⟩)) (.node 64 (.leaf 64 ⟨xn64, xr64, xc64⟩) (.leaf 66 ⟨xn66, xr66, xc66⟩)))) (.node 69 (.node 67 (.leaf 67 ⟨xn67, xr67, xc67⟩) (.node 68 (.leaf 68 ⟨xn68, xr68, xc68⟩) (.leaf 69 ⟨xn69, xr69, xc69⟩))) (.node 74 (.node 70 (.leaf 70 ⟨xn70, xr70, xc70⟩) (.leaf 74 ⟨xn74, xr74, xc74⟩)) (.node 76 (.leaf 76 ⟨xn76, xr76, xc76⟩) (.leaf 77 ⟨xn77, xr77, xc77⟩))))) (.node 85 (.node 80 (.node 78 (.leaf 78 ⟨xn78, xr78, xc78⟩) (.node 79 (.leaf 79 ⟨xn79, xr79, xc79⟩) (.leaf 80 ⟨xn80, xr80, xc80⟩))) (.node 83 (.node 81 (.leaf 81 ⟨xn81, xr81, xc81⟩) (.leaf 83 ⟨xn83, xr83, xc83⟩)) (.node 84 (.leaf 84 ⟨xn84, xr84, xc84⟩) (.leaf 85 ⟨xn85, xr85, xc85⟩)))) (.node 116 (.node 99 (.leaf 99 ⟨xn99, xr99, xc99⟩) (.node 100 (.leaf 100 ⟨xn100, xr100, xc100⟩) (.leaf 116 ⟨xn116, xr116, xc116⟩))) (.node 118 (.node 117 (.leaf 117 ⟨xn117, xr117, xc117⟩) (.leaf 118 ⟨xn118, xr118, xc118⟩)) (.node 119 (.leaf 119 ⟨xn119, xr119, xc119⟩) (.leaf 120 ⟨xn120, xr120, xc120⟩))))))) (.node 195 (.node 138 (.node 127 (.node 123 (.node 121 (.leaf 121 ⟨xn121, xr121, xc121⟩) (.node 122 (.leaf 122 ⟨xn122, xr122, xc122⟩) (.leaf 123 ⟨xn123, xr123, xc123⟩))) (.node 125 (.node 124 (.leaf 124 ⟨xn124, xr124, xc124⟩) (.leaf 125 ⟨xn125, xr125, xc125⟩)) (.node 126 (.leaf 126 ⟨xn126, xr126, xc126⟩) (.leaf 127 ⟨xn127, xr127, xc127⟩)))) (.node 130 (.node 128 (.leaf 128 ⟨xn128, xr128, xc128⟩) (.node 129 (.leaf 129 ⟨xn129, xr129, xc129⟩) (.leaf 130 ⟨xn130, xr130, xc130⟩))) (.node 136 (.node 131 (.leaf 131 ⟨xn131, xr131, xc131⟩) (.leaf 136 ⟨xn136, xr136, xc136⟩)) (.node 137 (.leaf 137 ⟨xn137, xr137, xc137⟩) (.leaf 138 ⟨xn138, xr138, xc138⟩))))) (.node 185 (.node 164 (.node 139 (.leaf 139 ⟨xn139, xr139, xc139⟩) (.node 163 (.leaf 163 ⟨xn163, xr163, xc163⟩) (.leaf 164 ⟨xn164, xr164, xc164⟩))) (.node 166 (.node 165 (.leaf 165 ⟨xn165, xr165, xc165⟩) (.leaf 166 ⟨xn166, xr166, xc166⟩)) (.node 169 (.leaf 169 ⟨xn169, xr169, xc169⟩) (.leaf 185 ⟨xn185, xr185, xc185⟩)))) (.node 188 (.node 186 (.leaf 186 ⟨xn186, xr186, xc186⟩) (.node 187 (.leaf 187 ⟨xn187, xr187, xc187⟩) (.leaf 188 ⟨xn188, xr188, xc188⟩))) (.node 191 (.node 189 (.leaf 189 ⟨xn189, xr189, xc189⟩) (.leaf 191 ⟨xn191, xr191, xc191⟩)) (.node 194 (.leaf 194 ⟨xn194, xr194, xc194⟩) (.leaf 195 ⟨xn195, xr195, xc195⟩)))))) (.node 232 (.node 221 (.node 215 (.node 196 (.leaf 196 ⟨xn196, xr196, xc196⟩) (.node 197 (.leaf 197 ⟨xn197, xr197, xc197⟩) (.leaf 215 ⟨xn215, xr215, xc215⟩))) (.node 219 (.node 217 (.leaf 217 ⟨xn217, xr217, xc217⟩) (.leaf 219 ⟨xn219, xr219, xc219⟩)) (.node 220 (.leaf 220 ⟨xn220, xr220, xc220⟩) (.leaf 221 ⟨xn221, xr221, xc221⟩)))) (.node 224 (.node 222 (.leaf 222 ⟨xn222, xr222, xc222⟩) (.node 223 (.leaf 223 ⟨xn223, xr223, xc223⟩) (.leaf 224 ⟨xn224, xr224, xc224⟩))) (.node 230 (.node 225 (.leaf 225 ⟨xn225, xr225, xc225⟩) (.leaf 230 ⟨xn230, xr230, xc230⟩)) (.node 231 (.leaf 231 ⟨xn231, xr231, xc231⟩) (.leaf 232 ⟨xn232, xr232, xc232⟩))))) (.node 265 (.node 261 (.node 239 (.leaf 239 ⟨xn239, xr239, xc239⟩) (.node 258 (.leaf 258 ⟨xn258, xr258, xc258⟩) (.leaf 261 ⟨xn261, xr261, xc261⟩))) (.node 263 (.node 262 (.leaf 262 ⟨xn262, xr262, xc262⟩) (.leaf 263 ⟨xn263, xr263, xc263⟩)) (.node 264 (.leaf 264 ⟨xn264, xr264, xc264⟩) (.leaf 265 ⟨xn265, xr265, xc265⟩)))) (.node 290 (.node 269 (.node 267 (.leaf 267 ⟨xn267, xr267, xc267⟩) (.leaf 269 ⟨xn269, xr269, xc269⟩)) (.node 289 (.leaf 289 ⟨xn289, xr289, xc289⟩) (.leaf 290 ⟨xn290, xr290, xc290⟩))) (.node 292 (.node 291 (.leaf 291 ⟨xn291, xr291, xc291⟩) (.leaf 292 ⟨xn292, xr292, xc292⟩)) (.node 293 (.leaf 293 ⟨xn293, xr293, xc293⟩) (.leaf 295 ⟨xn295, xr295, xc295⟩))))))))
theorem xtab_ok : xtab.Ok Tryz.prog := ⟨⟨⟨⟨⟨⟨xf14, ⟨xf16, xf17⟩⟩, ⟨⟨xf18, xf19⟩, ⟨xf20, xf21⟩⟩⟩, ⟨⟨xf22, ⟨xf24, xf27⟩⟩, ⟨⟨xf28, xf30⟩, ⟨xf31, xf33⟩⟩⟩⟩, ⟨⟨⟨xf34, ⟨xf36, xf37⟩⟩, ⟨⟨xf39, xf44⟩, ⟨xf50, xf51⟩⟩⟩, ⟨⟨xf52, ⟨xf53, xf54⟩⟩, ⟨⟨xf55, xf56⟩, ⟨xf57, xf58⟩⟩⟩⟩⟩, ⟨⟨⟨⟨xf59, ⟨xf60, xf61⟩⟩, ⟨⟨xf62, xf63⟩, ⟨xf64, xf66⟩⟩⟩, ⟨⟨xf67, ⟨xf68, xf69⟩⟩, ⟨⟨xf70, xf74⟩, ⟨xf76, xf77⟩⟩⟩⟩, ⟨⟨⟨xf78, ⟨xf79, xf80⟩⟩, ⟨⟨xf81, xf83⟩, ⟨xf84, xf85⟩⟩⟩, ⟨⟨xf99, ⟨xf100, xf116⟩⟩, ⟨⟨xf117, xf118⟩, ⟨xf119, xf120⟩⟩⟩⟩⟩⟩, ⟨⟨⟨⟨⟨xf121, ⟨xf122, xf123⟩⟩, ⟨⟨xf124, xf125⟩, ⟨xf126, xf127⟩⟩⟩, ⟨⟨xf128, ⟨xf129, xf130⟩⟩, ⟨⟨xf131, xf136⟩, ⟨xf137, xf138⟩⟩⟩⟩, ⟨⟨⟨xf139, ⟨xf163, xf164⟩⟩, ⟨⟨xf165, xf166⟩, ⟨xf169, xf185⟩⟩⟩, ⟨⟨xf186, ⟨xf187, xf188⟩⟩, ⟨⟨xf189, xf191⟩, ⟨xf194, xf195⟩⟩⟩⟩⟩, ⟨⟨⟨⟨xf196, ⟨xf197, xf215⟩⟩, ⟨⟨xf217, xf219⟩, ⟨xf220, xf221⟩⟩⟩, ⟨⟨xf222, ⟨xf223, xf224⟩⟩, ⟨⟨xf225, xf230⟩, ⟨xf231, xf232⟩⟩⟩⟩, ⟨⟨⟨xf239, ⟨xf258, xf261⟩⟩, ⟨⟨xf262, xf263⟩, ⟨xf264, xf265⟩⟩⟩, ⟨⟨⟨xf267, xf269⟩, ⟨xf289, xf290⟩⟩, ⟨⟨xf291, xf292⟩, ⟨xf293, xf295⟩⟩⟩⟩⟩⟩⟩
end Go.AL
namespace Go.AL
open Go.Proofs
theorem mixed : Tryz.prog.follows .mixedOrders = true := by kernel_rfl
noncomputable def extl : List (Nat × ExtK) := [(250, .same), (283, .indexByte)]
theorem extl_ok : ∀ p ∈ extl, externK Tryz.prog p.1 = some p.2 := by
  intro p hp
  simp only [extl, List.mem_cons, List.not_mem_nil, or_false] at hp
  rcases hp with rfl | rfl
  · kernel_rfl
  · kernel_rfl
noncomputable def xR0 (k : Nat) : XRun := xrun Tryz.prog nomemo xtab.look (xext extl) 100000 k
theorem xR0_ok (k : Nat) : (xR0 k).Ok Tryz.prog := xrun_ok mixed nomemo_ok (fun _ _ => XTree.look_ok xtab_ok _ _) (xext_ok extl_ok) _ k
end Go.AL
