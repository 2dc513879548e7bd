/- The functions of the laws, and what is reckoned. -/
import Derived.Test.YtjiccnebfbpcgaaGreatDoorPd
import Derived.KernelRfl
set_option linter.unusedSimpArgs false
set_option linter.unusedVariables false
set_option linter.unusedSectionVars false
namespace Go.AL
open Go.Proofs
noncomputable def xn3 : Nat := 125
noncomputable def xr3 : List XRes := [.cell 8 1 false]
noncomputable def xa3_0 : XCode := .region [⟨(some 13), .move (.t 31), none⟩]
noncomputable def xb3_0 : XCode := .block 1 (.seq (.region [⟨(some 32), .load (.t 11) 1 false, none⟩,
 ⟨(some 33), .move (.t 32), none⟩,
 ⟨(some 34), .move (.t 13), some (33, false)⟩,
 ⟨(some 35), .load (.t 5) 1 false, some (33, false)⟩,
 ⟨(some 36), .bin false .other .eql (.t 34) (.t 35), some (33, false)⟩,
 ⟨(some 37), .pick (.t 33) (.v (.lit (.bool true))) (.t 36), none⟩,
 ⟨none, .store (.t 11) (.t 37) 1, none⟩])
  (.seq (.region [⟨(some 38), .load (.t 12) 1 false, none⟩,
 ⟨(some 39), .bin true .other .add (.t 38) (.v (.lit (.int .i64 1))), none⟩,
 ⟨none, .store (.t 12) (.t 39) 1, none⟩])
  (.seq (.region [⟨(some 40), .load (.t 12) 1 false, none⟩,
 ⟨(some 41), .bin true .other .gtr (.t 40) (.v (.lit (.int .i64 100))), none⟩])
  (.cond (.t 41)
    (.seq (.region [⟨none, .store (.t 8) (.v (.lit (.bool false))) 1, none⟩])
    (.ret))
    (.skip)))))
theorem xaf3_0 : xcomp Tryz.prog 125 (bodyAt Tryz.prog 3 [1, 1, 1, 1, 1, 1, 1, 1, 0, 1, 0, 0]) = some xa3_0 := by kernel_rfl
theorem xbf3_0 : xcomp Tryz.prog 125 (bodyAt Tryz.prog 3 [1, 1, 1, 1, 1, 1, 1, 1, 0, 1, 0, 1]) = some xb3_0 := by kernel_rfl
noncomputable def xc3 : XCode := .seq (.region [⟨(some 4), .box (.t 0), none⟩,
 ⟨(some 5), .box (.t 1), none⟩,
 ⟨(some 8), .alloc [(.lit (.bool false))], none⟩])
  (.seq (.seq (.region [⟨(some 14), .call (.v (.func (.func 14) [] [])) [], none⟩,
 ⟨(some 15), .un .not (.t 14), none⟩])
  (.cond (.t 15)
    (.seq (.region [⟨none, .store (.t 8) (.v (.lit (.bool false))) 1, none⟩])
    (.ret))
    (.skip)))
  (.seq (.seq (.region [⟨(some 16), .load (.t 4) 6 true, none⟩,
 ⟨(some 17), .call (.v (.func (.func 15) [] [])) [(.t 16)], none⟩])
  (.cond (.t 17)
    (.seq (.region [⟨none, .store (.t 8) (.v (.lit (.bool true))) 1, none⟩])
    (.ret))
    (.skip)))
  (.seq (.region [⟨(some 18), .load (.t 4) 6 true, none⟩,
 ⟨(some 19), .call (.v (.func (.func 16) [] [])) [(.t 18)], none⟩,
 ⟨(some 9), .move (.t 19), none⟩])
  (.seq (.region [⟨(some 20), .move (.t 9), none⟩,
 ⟨(some 21), .call (.v (.func (.func 17) [] [])) [(.t 20)], none⟩,
 ⟨(some 10), .move (.t 21), none⟩])
  (.seq (.seq (.region [⟨(some 22), .move (.t 9), none⟩,
 ⟨(some 23), .bin true .ptr .eql (.t 22) (.v (.lit (.pointer none))), none⟩,
 ⟨(some 24), .move (.t 23), none⟩,
 ⟨(some 25), .move (.t 10), some (24, false)⟩,
 ⟨(some 26), .bin true .ptr .eql (.t 25) (.v (.lit (.pointer none))), some (24, false)⟩,
 ⟨(some 27), .pick (.t 24) (.v (.lit (.bool true))) (.t 26), none⟩])
  (.cond (.t 27)
    (.seq (.region [⟨none, .store (.t 8) (.v (.lit (.bool false))) 1, none⟩])
    (.ret))
    (.skip)))
  (.seq (.region [⟨(some 11), .alloc [(.lit (.bool false))], none⟩,
 ⟨none, .store (.t 11) (.v (.lit (.bool false))) 1, none⟩])
  (.seq (.region [⟨(some 12), .alloc [(.lit (.int .i64 0))], none⟩,
 ⟨none, .store (.t 12) (.v (.lit (.int .i64 0))) 1, none⟩])
  (.seq (.seq (.region [⟨(some 28), .move (.t 10), none⟩,
 ⟨(some 29), .move (.t 2), none⟩,
 ⟨(some 30), .call (.v (.func (.func 18) [] [])) [(.t 28), (.t 29)], none⟩])
  (.block 0 (.range (.t 30) #[31] (bodyAt Tryz.prog 3 [1, 1, 1, 1, 1, 1, 1, 1, 0, 1, 0, 0]) (bodyAt Tryz.prog 3 [1, 1, 1, 1, 1, 1, 1, 1, 0, 1, 0, 1]) xa3_0 xb3_0)))
  (.seq (.seq (.draw [⟨.pure, 0, 0⟩, ⟨.read, 0, 0⟩, ⟨.pure, 0, 0⟩, ⟨.eff, 0, 1⟩, ⟨.read, 0, 1⟩, ⟨.pure, 1, 1⟩, ⟨.pure, 1, 1⟩, ⟨.pure, 1, 1⟩, ⟨.read, 1, 1⟩, ⟨.pure, 1, 1⟩, ⟨.eff, 1, 2⟩, ⟨.pure, 2, 2⟩, ⟨.pure, 2, 2⟩, ⟨.pure, 2, 2⟩, ⟨.pure, 2, 2⟩, ⟨.eff, 2, 3⟩, ⟨.pure, 3, 3⟩, ⟨.pure, 3, 3⟩, ⟨.pure, 3, 3⟩, ⟨.read, 3, 3⟩, ⟨.pure, 3, 3⟩, ⟨.eff, 3, 4⟩, ⟨.pure, 4, 4⟩, ⟨.pure, 4, 4⟩, ⟨.pure, 4, 4⟩, ⟨.pure, 4, 4⟩, ⟨.pure, 4, 4⟩, ⟨.read, 4, 4⟩, ⟨.eff, 4, 5⟩, ⟨.pure, 5, 5⟩, ⟨.pure, 5, 5⟩, ⟨.pure, 5, 5⟩] [⟨(some 42), .move (.t 10), none⟩,
 ⟨(some 43), .load (.t 5) 1 false, none⟩,
 ⟨(some 44), .move (.t 2), none⟩,
 ⟨(some 45), .call (.v (.func (.func 19) [] [])) [(.t 42), (.t 43), (.t 44)], none⟩,
 ⟨(some 46), .load (.t 11) 1 false, none⟩,
 ⟨(some 47), .bin false .bool .neq (.t 45) (.t 46), none⟩,
 ⟨(some 48), .move (.t 47), none⟩,
 ⟨(some 49), .move (.t 10), some (48, false)⟩,
 ⟨(some 50), .load (.t 5) 1 false, some (48, false)⟩,
 ⟨(some 51), .move (.t 3), some (48, false)⟩,
 ⟨(some 52), .call (.v (.func (.func 19) [] [])) [(.t 49), (.t 50), (.t 51)], some (48, false)⟩,
 ⟨(some 53), .move (.t 52), some (48, false)⟩,
 ⟨(some 54), .move (.t 10), some (53, true)⟩,
 ⟨(some 55), .move (.t 2), some (53, true)⟩,
 ⟨(some 56), .move (.t 3), some (53, true)⟩,
 ⟨(some 57), .call (.v (.func (.func 19) [] [])) [(.t 54), (.t 55), (.t 56)], some (53, true)⟩,
 ⟨(some 58), .pick (.t 53) (.t 57) (.v (.lit (.bool false))), some (48, false)⟩,
 ⟨(some 59), .move (.t 58), some (48, false)⟩,
 ⟨(some 60), .move (.t 10), some (59, true)⟩,
 ⟨(some 61), .load (.t 5) 1 false, some (59, true)⟩,
 ⟨(some 62), .move (.t 2), some (59, true)⟩,
 ⟨(some 63), .call (.v (.func (.func 19) [] [])) [(.t 60), (.t 61), (.t 62)], some (59, true)⟩,
 ⟨(some 64), .un .not (.t 63), some (59, true)⟩,
 ⟨(some 65), .pick (.t 59) (.t 64) (.v (.lit (.bool false))), some (48, false)⟩,
 ⟨(some 66), .move (.t 65), some (48, false)⟩,
 ⟨(some 67), .move (.t 10), some (66, true)⟩,
 ⟨(some 68), .move (.t 2), some (66, true)⟩,
 ⟨(some 69), .load (.t 5) 1 false, some (66, true)⟩,
 ⟨(some 70), .call (.v (.func (.func 19) [] [])) [(.t 67), (.t 68), (.t 69)], some (66, true)⟩,
 ⟨(some 71), .un .not (.t 70), some (66, true)⟩,
 ⟨(some 72), .pick (.t 66) (.t 71) (.v (.lit (.bool false))), some (48, false)⟩,
 ⟨(some 73), .pick (.t 48) (.v (.lit (.bool true))) (.t 72), none⟩])
  (.cond (.t 73)
    (.seq (.region [⟨none, .store (.t 8) (.v (.lit (.bool false))) 1, none⟩])
    (.ret))
    (.skip)))
  (.seq (.seq (.region [⟨(some 74), .move (.t 10), none⟩,
 ⟨(some 75), .load (.t 5) 1 false, none⟩,
 ⟨(some 76), .move (.t 2), none⟩,
 ⟨(some 77), .call (.v (.func (.func 19) [] [])) [(.t 74), (.t 75), (.t 76)], none⟩,
 ⟨(some 78), .move (.t 77), none⟩,
 ⟨(some 79), .move (.t 10), some (78, true)⟩,
 ⟨(some 80), .move (.t 2), some (78, true)⟩,
 ⟨(some 81), .move (.t 3), some (78, true)⟩,
 ⟨(some 82), .call (.v (.func (.func 19) [] [])) [(.t 79), (.t 80), (.t 81)], some (78, true)⟩,
 ⟨(some 83), .pick (.t 78) (.t 82) (.v (.lit (.bool false))), none⟩,
 ⟨(some 84), .move (.t 83), none⟩,
 ⟨(some 85), .move (.t 10), some (84, true)⟩,
 ⟨(some 86), .load (.t 5) 1 false, some (84, true)⟩,
 ⟨(some 87), .move (.t 3), some (84, true)⟩,
 ⟨(some 88), .call (.v (.func (.func 19) [] [])) [(.t 85), (.t 86), (.t 87)], some (84, true)⟩,
 ⟨(some 89), .un .not (.t 88), some (84, true)⟩,
 ⟨(some 90), .pick (.t 84) (.t 89) (.v (.lit (.bool false))), none⟩,
 ⟨(some 91), .move (.t 90), none⟩,
 ⟨(some 92), .load (.t 5) 1 false, some (91, false)⟩,
 ⟨(some 93), .move (.t 2), some (91, false)⟩,
 ⟨(some 94), .bin false .other .neq (.t 92) (.t 93), some (91, false)⟩,
 ⟨(some 95), .move (.t 94), some (91, false)⟩,
 ⟨(some 96), .move (.t 10), some (95, true)⟩,
 ⟨(some 97), .load (.t 5) 1 false, some (95, true)⟩,
 ⟨(some 98), .move (.t 2), some (95, true)⟩,
 ⟨(some 99), .call (.v (.func (.func 19) [] [])) [(.t 96), (.t 97), (.t 98)], some (95, true)⟩,
 ⟨(some 100), .pick (.t 95) (.t 99) (.v (.lit (.bool false))), some (91, false)⟩,
 ⟨(some 101), .move (.t 100), some (91, false)⟩,
 ⟨(some 102), .move (.t 10), some (101, true)⟩,
 ⟨(some 103), .move (.t 2), some (101, true)⟩,
 ⟨(some 104), .load (.t 5) 1 false, some (101, true)⟩,
 ⟨(some 105), .call (.v (.func (.func 19) [] [])) [(.t 102), (.t 103), (.t 104)], some (101, true)⟩,
 ⟨(some 106), .pick (.t 101) (.t 105) (.v (.lit (.bool false))), some (91, false)⟩,
 ⟨(some 107), .pick (.t 91) (.v (.lit (.bool true))) (.t 106), none⟩])
  (.cond (.t 107)
    (.seq (.region [⟨none, .store (.t 8) (.v (.lit (.bool false))) 1, none⟩])
    (.ret))
    (.skip)))
  (.seq (.region [⟨(some 108), .move (.t 10), none⟩,
 ⟨(some 109), .move (.t 2), none⟩,
 ⟨(some 110), .call (.v (.func (.func 19) [] [])) [(.t 108), (.v (.lit (.int .i64 0))), (.t 109)], none⟩,
 ⟨(some 111), .move (.t 9), none⟩,
 ⟨(some 112), .move (.t 2), none⟩,
 ⟨(some 113), .call (.v (.func (.func 20) [] [])) [(.t 111), (.t 112)], none⟩,
 ⟨(some 114), .bin false .bool .eql (.t 110) (.t 113), none⟩,
 ⟨(some 115), .move (.t 114), none⟩,
 ⟨(some 116), .move (.t 10), some (115, true)⟩,
 ⟨(some 117), .move (.t 2), some (115, true)⟩,
 ⟨(some 118), .move (.t 2), some (115, true)⟩,
 ⟨(some 119), .call (.v (.func (.func 19) [] [])) [(.t 116), (.t 117), (.t 118)], some (115, true)⟩,
 ⟨(some 120), .move (.t 9), some (115, true)⟩,
 ⟨(some 121), .move (.t 2), some (115, true)⟩,
 ⟨(some 122), .call (.v (.func (.func 20) [] [])) [(.t 120), (.t 121)], some (115, true)⟩,
 ⟨(some 123), .bin false .bool .eql (.t 119) (.t 122), some (115, true)⟩,
 ⟨(some 124), .pick (.t 115) (.t 123) (.v (.lit (.bool false))), none⟩,
 ⟨none, .store (.t 8) (.t 124) 1, none⟩])
  (.ret))))))))))))
theorem xf3 : xfunc Tryz.prog 3 = some ⟨xn3, xr3, xc3⟩ := by kernel_rfl
noncomputable def xn4 : Nat := 83
noncomputable def xr4 : List XRes := [.tmp 6]
noncomputable def xc4 : XCode := .seq (.region [⟨(some 3), .box (.t 0), none⟩,
 ⟨(some 6), .move (.v (.lit (.bool false))), none⟩])
  (.seq (.seq (.region [⟨(some 12), .call (.v (.func (.func 14) [] [])) [], none⟩,
 ⟨(some 13), .un .not (.t 12), none⟩])
  (.cond (.t 13)
    (.seq (.region [⟨(some 6), .move (.v (.lit (.bool false))), none⟩])
    (.ret))
    (.skip)))
  (.seq (.seq (.region [⟨(some 14), .load (.t 3) 6 true, none⟩,
 ⟨(some 15), .call (.v (.func (.func 15) [] [])) [(.t 14)], none⟩])
  (.cond (.t 15)
    (.seq (.region [⟨(some 6), .move (.v (.lit (.bool true))), none⟩])
    (.ret))
    (.skip)))
  (.seq (.region [⟨(some 16), .load (.t 3) 6 true, none⟩,
 ⟨(some 17), .call (.v (.func (.func 16) [] [])) [(.t 16)], none⟩,
 ⟨(some 7), .move (.t 17), none⟩])
  (.seq (.region [⟨(some 18), .move (.t 7), none⟩,
 ⟨(some 19), .call (.v (.func (.func 17) [] [])) [(.t 18)], none⟩,
 ⟨(some 8), .move (.t 19), none⟩])
  (.seq (.seq (.region [⟨(some 20), .move (.t 7), none⟩,
 ⟨(some 21), .bin true .ptr .eql (.t 20) (.v (.lit (.pointer none))), none⟩,
 ⟨(some 22), .move (.t 21), none⟩,
 ⟨(some 23), .move (.t 8), some (22, false)⟩,
 ⟨(some 24), .bin true .ptr .eql (.t 23) (.v (.lit (.pointer none))), some (22, false)⟩,
 ⟨(some 25), .pick (.t 22) (.v (.lit (.bool true))) (.t 24), none⟩])
  (.cond (.t 25)
    (.seq (.region [⟨(some 6), .move (.v (.lit (.bool false))), none⟩])
    (.ret))
    (.skip)))
  (.seq (.seq (.region [⟨(some 26), .move (.t 7), none⟩,
 ⟨(some 27), .move (.t 1), none⟩,
 ⟨(some 28), .call (.v (.func (.func 20) [] [])) [(.t 26), (.t 27)], none⟩,
 ⟨(some 29), .un .not (.t 28), none⟩,
 ⟨(some 30), .move (.t 29), none⟩,
 ⟨(some 31), .move (.t 7), some (30, false)⟩,
 ⟨(some 32), .move (.t 2), some (30, false)⟩,
 ⟨(some 33), .call (.v (.func (.func 20) [] [])) [(.t 31), (.t 32)], some (30, false)⟩,
 ⟨(some 34), .un .not (.t 33), some (30, false)⟩,
 ⟨(some 35), .pick (.t 30) (.v (.lit (.bool true))) (.t 34), none⟩])
  (.cond (.t 35)
    (.seq (.region [⟨(some 36), .move (.t 8), none⟩,
      ⟨(some 37), .move (.t 2), none⟩,
      ⟨(some 38), .move (.t 1), none⟩,
      ⟨(some 39), .call (.v (.func (.func 19) [] [])) [(.t 36), (.t 37), (.t 38)], none⟩,
      ⟨(some 40), .bin true .bool .eql (.t 39) (.v (.lit (.bool false))), none⟩,
      ⟨(some 6), .move (.t 40), none⟩])
    (.ret))
    (.skip)))
  (.seq (.region [⟨(some 41), .move (.t 8), none⟩,
 ⟨(some 42), .move (.t 1), none⟩,
 ⟨(some 43), .call (.v (.func (.func 21) [] [])) [(.t 41), (.t 42)], none⟩,
 ⟨(some 9), .move (.t 43), none⟩])
  (.seq (.region [⟨(some 44), .move (.t 7), none⟩,
 ⟨(some 45), .move (.t 1), none⟩,
 ⟨(some 46), .call (.v (.func (.func 22) [] [])) [(.t 44), (.t 45)], none⟩,
 ⟨(some 10), .move (.t 46), none⟩])
  (.seq (.seq (.region [⟨(some 11), .move (.v (.lit (.int .i64 0))), none⟩])
  (.block 0 (.loop (.seq (.seq (.region [⟨(some 47), .move (.t 11), none⟩,
 ⟨(some 48), .move (.t 10), none⟩,
 ⟨(some 49), .len .slice (.t 48), none⟩,
 ⟨(some 50), .bin false .other .lss (.t 47) (.t 49), none⟩,
 ⟨(some 51), .move (.t 50), none⟩,
 ⟨(some 52), .move (.t 9), some (51, true)⟩,
 ⟨(some 53), .bin true .other .geq (.t 52) (.v (.lit (.int .i64 0))), some (51, true)⟩,
 ⟨(some 54), .pick (.t 51) (.t 53) (.v (.lit (.bool false))), none⟩])
  (.cond (.t 54)
    (.skip)
    (.exit 0)))
  (.seq (.block 1 (.seq (.region [⟨(some 57), .move (.t 7), none⟩,
 ⟨(some 58), .move (.t 10), none⟩,
 ⟨(some 59), .move (.t 11), none⟩,
 ⟨(some 60), .indexAddr (.t 58) (.t 59) 1, none⟩,
 ⟨(some 61), .load (.t 60) 1 false, none⟩,
 ⟨(some 62), .call (.v (.func (.func 20) [] [])) [(.t 57), (.t 61)], none⟩,
 ⟨(some 63), .move (.t 62), none⟩,
 ⟨(some 64), .move (.t 8), some (63, true)⟩,
 ⟨(some 65), .move (.t 9), some (63, true)⟩,
 ⟨(some 66), .move (.t 10), some (63, true)⟩,
 ⟨(some 67), .move (.t 11), some (63, true)⟩,
 ⟨(some 68), .indexAddr (.t 66) (.t 67) 1, some (63, true)⟩,
 ⟨(some 69), .load (.t 68) 1 false, some (63, true)⟩,
 ⟨(some 70), .call (.v (.func (.func 19) [] [])) [(.t 64), (.t 65), (.t 69)], some (63, true)⟩,
 ⟨(some 71), .un .not (.t 70), some (63, true)⟩,
 ⟨(some 72), .pick (.t 63) (.t 71) (.v (.lit (.bool false))), none⟩])
  (.cond (.t 72)
    (.seq (.region [⟨(some 6), .move (.v (.lit (.bool false))), none⟩])
    (.ret))
    (.skip))))
  (.region [⟨(some 55), .move (.t 11), none⟩,
 ⟨(some 56), .bin true .other .add (.t 55) (.v (.lit (.int .i64 1))), none⟩,
 ⟨(some 11), .move (.t 56), none⟩]))))))
  (.seq (.region [⟨(some 73), .move (.t 8), none⟩,
 ⟨(some 74), .move (.t 2), none⟩,
 ⟨(some 75), .move (.t 1), none⟩,
 ⟨(some 76), .call (.v (.func (.func 19) [] [])) [(.t 73), (.t 74), (.t 75)], none⟩,
 ⟨(some 77), .move (.t 7), none⟩,
 ⟨(some 78), .move (.t 2), none⟩,
 ⟨(some 79), .move (.t 1), none⟩,
 ⟨(some 80), .call (.v (.func (.func 23) [] [])) [(.t 77), (.t 78), (.t 79)], none⟩,
 ⟨(some 81), .un .not (.t 80), none⟩,
 ⟨(some 82), .bin false .bool .eql (.t 76) (.t 81), none⟩,
 ⟨(some 6), .move (.t 82), none⟩])
  (.ret)))))))))))
theorem xf4 : xfunc Tryz.prog 4 = some ⟨xn4, xr4, xc4⟩ := by kernel_rfl
noncomputable def xn15 : Nat := 13
noncomputable def xr15 : List XRes := [.tmp 2]
noncomputable def xc15 : XCode := .seq (.region [⟨(some 1), .box (.t 0), none⟩,
 ⟨(some 2), .move (.v (.lit (.bool false))), none⟩])
  (.seq (.region [⟨(some 3), .fieldAddr (.t 1) 5, none⟩,
 ⟨(some 4), .load (.t 3) 1 false, none⟩,
 ⟨(some 5), .len .slice (.t 4), none⟩,
 ⟨(some 6), .bin true .other .gtr (.t 5) (.v (.lit (.int .i64 20))), none⟩,
 ⟨(some 7), .move (.t 6), none⟩,
 ⟨(some 8), .load (.t 1) 6 true, some (7, false)⟩,
 ⟨(some 9), .buildSlice [(.lit (.int .i64 0)), (.str []), (.lit (.slice none 0 0)), (.lit (.slice none 0 0)), (.str []), (.lit (.slice none 0 0))] 1 [(0, (.t 8))], some (7, false)⟩,
 ⟨(some 10), .build [(.lit (.slice none 0 0)), (.lit (.slice none 0 0)), (.lit (.slice none 0 0))] [(0, 1), (1, 1), (2, 1)] [(2, (.t 9))], some (7, false)⟩,
 ⟨(some 11), .call (.v (.func (.func 41) [] [])) [(.t 10)], some (7, false)⟩,
 ⟨(some 12), .pick (.t 7) (.v (.lit (.bool true))) (.t 11), none⟩,
 ⟨(some 2), .move (.t 12), none⟩])
  (.ret))
theorem xf15 : xfunc Tryz.prog 15 = some ⟨xn15, xr15, xc15⟩ := by kernel_rfl
noncomputable def xn23 : Nat := 41
noncomputable def xr23 : List XRes := [.tmp 6]
noncomputable def xc23 : XCode := .seq (.region [⟨(some 6), .move (.v (.lit (.bool false))), none⟩])
  (.seq (.region [⟨(some 10), .makeMap, none⟩,
 ⟨(some 11), .move (.t 1), none⟩,
 ⟨none, .mapPut true (.t 10) (.t 11) (.v (.lit (.bool true))), none⟩,
 ⟨(some 12), .move (.t 10), none⟩,
 ⟨(some 7), .move (.t 12), none⟩])
  (.seq (.region [⟨(some 13), .buildSlice [(.lit (.int .i64 0))] 1 [(0, (.v (.lit (.int .i64 0))))], none⟩,
 ⟨(some 8), .move (.t 13), none⟩])
  (.seq (.block 0 (.loop (.seq (.seq (.region [⟨(some 14), .move (.t 8), none⟩,
 ⟨(some 15), .len .slice (.t 14), none⟩,
 ⟨(some 16), .bin true .other .gtr (.t 15) (.v (.lit (.int .i64 0))), none⟩])
  (.cond (.t 16)
    (.skip)
    (.exit 0)))
  (.block 1 (.seq (.region [⟨(some 17), .move (.t 8), none⟩,
 ⟨(some 18), .move (.t 8), none⟩,
 ⟨(some 19), .len .slice (.t 18), none⟩,
 ⟨(some 20), .bin true .other .sub (.t 19) (.v (.lit (.int .i64 1))), none⟩,
 ⟨(some 21), .indexAddr (.t 17) (.t 20) 1, none⟩,
 ⟨(some 22), .load (.t 21) 1 false, none⟩,
 ⟨(some 9), .move (.t 22), none⟩])
  (.seq (.region [⟨(some 23), .move (.t 8), none⟩,
 ⟨(some 24), .move (.t 8), none⟩,
 ⟨(some 25), .len .slice (.t 24), none⟩,
 ⟨(some 26), .bin true .other .sub (.t 25) (.v (.lit (.int .i64 1))), none⟩,
 ⟨(some 27), .slice false (.t 23) none (some (.t 26)) 1, none⟩,
 ⟨(some 8), .move (.t 27), none⟩])
  (.seq (.seq (.region [⟨(some 28), .move (.t 7), none⟩,
 ⟨(some 29), .move (.t 9), none⟩,
 ⟨(some 30), .mapGet true (.lit (.bool false)) (.t 28) (.t 29) false, none⟩])
  (.cond (.t 30)
    (.exit 1)
    (.skip)))
  (.seq (.seq (.region [⟨(some 31), .move (.t 9), none⟩,
 ⟨(some 32), .move (.t 2), none⟩,
 ⟨(some 33), .bin false .other .eql (.t 31) (.t 32), none⟩])
  (.cond (.t 33)
    (.seq (.region [⟨(some 6), .move (.v (.lit (.bool true))), none⟩])
    (.ret))
    (.skip)))
  (.seq (.region [⟨(some 34), .move (.t 7), none⟩,
 ⟨(some 35), .move (.t 9), none⟩,
 ⟨none, .mapPut true (.t 34) (.t 35) (.v (.lit (.bool true))), none⟩])
  (.region [⟨(some 36), .move (.t 8), none⟩,
 ⟨(some 37), .move (.t 0), none⟩,
 ⟨(some 38), .move (.t 9), none⟩,
 ⟨(some 39), .call (.v (.func (.func 64) [] [])) [(.t 37), (.t 38)], none⟩,
 ⟨(some 40), .append 1 (.t 36) (.t 39), none⟩,
 ⟨(some 8), .move (.t 40), none⟩]))))))))))
  (.seq (.region [⟨(some 6), .move (.v (.lit (.bool false))), none⟩])
  (.ret)))))
theorem xf23 : xfunc Tryz.prog 23 = some ⟨xn23, xr23, xc23⟩ := by kernel_rfl
noncomputable def xn41 : Nat := 177
noncomputable def xr41 : List XRes := [.tmp 2]
noncomputable def xc41 : XCode := .seq (.region [⟨(some 1), .box (.t 0), none⟩,
 ⟨(some 2), .move (.v (.lit (.bool false))), none⟩])
  (.seq (.region [⟨(some 12), .fieldAddr (.t 1) 0, none⟩,
 ⟨(some 13), .load (.t 12) 1 false, none⟩,
 ⟨(some 14), .len .slice (.t 13), none⟩,
 ⟨(some 15), .fieldAddr (.t 1) 1, none⟩,
 ⟨(some 16), .load (.t 15) 1 false, none⟩,
 ⟨(some 17), .len .slice (.t 16), none⟩,
 ⟨(some 18), .bin false .other .add (.t 14) (.t 17), none⟩,
 ⟨(some 19), .fieldAddr (.t 1) 2, none⟩,
 ⟨(some 20), .load (.t 19) 1 false, none⟩,
 ⟨(some 21), .len .slice (.t 20), none⟩,
 ⟨(some 22), .bin false .other .add (.t 18) (.t 21), none⟩,
 ⟨(some 3), .move (.t 22), none⟩])
  (.seq (.seq (.region [⟨(some 23), .move (.t 3), none⟩,
 ⟨(some 24), .bin true .other .gtr (.t 23) (.v (.lit (.int .i64 100))), none⟩])
  (.cond (.t 24)
    (.seq (.region [⟨(some 2), .move (.v (.lit (.bool true))), none⟩])
    (.ret))
    (.skip)))
  (.seq (.seq (.region [⟨(some 4), .move (.v (.lit (.int .i64 0))), none⟩])
  (.block 0 (.loop (.seq (.seq (.region [⟨(some 25), .move (.t 4), none⟩,
 ⟨(some 26), .fieldAddr (.t 1) 0, none⟩,
 ⟨(some 27), .load (.t 26) 1 false, none⟩,
 ⟨(some 28), .len .slice (.t 27), none⟩,
 ⟨(some 29), .bin false .other .lss (.t 25) (.t 28), none⟩])
  (.cond (.t 29)
    (.skip)
    (.exit 0)))
  (.seq (.block 1 (.region [⟨(some 32), .move (.t 3), none⟩,
 ⟨(some 33), .fieldAddr (.t 1) 0, none⟩,
 ⟨(some 34), .load (.t 33) 1 false, none⟩,
 ⟨(some 35), .move (.t 4), none⟩,
 ⟨(some 36), .indexAddr (.t 34) (.t 35) 5, none⟩,
 ⟨(some 37), .fieldAddr (.t 36) 4, none⟩,
 ⟨(some 38), .load (.t 37) 1 false, none⟩,
 ⟨(some 39), .len .slice (.t 38), none⟩,
 ⟨(some 40), .bin false .other .add (.t 32) (.t 39), none⟩,
 ⟨(some 3), .move (.t 40), none⟩]))
  (.region [⟨(some 30), .move (.t 4), none⟩,
 ⟨(some 31), .bin true .other .add (.t 30) (.v (.lit (.int .i64 1))), none⟩,
 ⟨(some 4), .move (.t 31), none⟩]))))))
  (.seq (.seq (.region [⟨(some 5), .move (.v (.lit (.int .i64 0))), none⟩])
  (.block 2 (.loop (.seq (.seq (.region [⟨(some 41), .move (.t 5), none⟩,
 ⟨(some 42), .fieldAddr (.t 1) 1, none⟩,
 ⟨(some 43), .load (.t 42) 1 false, none⟩,
 ⟨(some 44), .len .slice (.t 43), none⟩,
 ⟨(some 45), .bin false .other .lss (.t 41) (.t 44), none⟩])
  (.cond (.t 45)
    (.skip)
    (.exit 2)))
  (.seq (.block 3 (.region [⟨(some 48), .move (.t 3), none⟩,
 ⟨(some 49), .fieldAddr (.t 1) 1, none⟩,
 ⟨(some 50), .load (.t 49) 1 false, none⟩,
 ⟨(some 51), .move (.t 5), none⟩,
 ⟨(some 52), .indexAddr (.t 50) (.t 51) 3, none⟩,
 ⟨(some 53), .fieldAddr (.t 52) 2, none⟩,
 ⟨(some 54), .load (.t 53) 1 false, none⟩,
 ⟨(some 55), .len .slice (.t 54), none⟩,
 ⟨(some 56), .bin false .other .add (.t 48) (.t 55), none⟩,
 ⟨(some 3), .move (.t 56), none⟩]))
  (.region [⟨(some 46), .move (.t 5), none⟩,
 ⟨(some 47), .bin true .other .add (.t 46) (.v (.lit (.int .i64 1))), none⟩,
 ⟨(some 5), .move (.t 47), none⟩]))))))
  (.seq (.seq (.region [⟨(some 6), .move (.v (.lit (.int .i64 0))), none⟩])
  (.block 4 (.loop (.seq (.seq (.region [⟨(some 57), .move (.t 6), none⟩,
 ⟨(some 58), .fieldAddr (.t 1) 2, none⟩,
 ⟨(some 59), .load (.t 58) 1 false, none⟩,
 ⟨(some 60), .len .slice (.t 59), none⟩,
 ⟨(some 61), .bin false .other .lss (.t 57) (.t 60), none⟩])
  (.cond (.t 61)
    (.skip)
    (.exit 4)))
  (.seq (.block 5 (.seq (.region [⟨(some 64), .fieldAddr (.t 1) 2, none⟩,
 ⟨(some 65), .load (.t 64) 1 false, none⟩,
 ⟨(some 66), .move (.t 6), none⟩,
 ⟨(some 67), .indexAddr (.t 65) (.t 66) 6, none⟩,
 ⟨(some 68), .load (.t 67) 6 true, none⟩,
 ⟨(some 7), .alloc [(.lit (.int .i64 0)), (.str []), (.lit (.slice none 0 0)), (.lit (.slice none 0 0)), (.str []), (.lit (.slice none 0 0))], none⟩,
 ⟨none, .store (.t 7) (.t 68) 6, none⟩])
  (.seq (.region [⟨(some 69), .move (.t 3), none⟩,
 ⟨(some 70), .fieldAddr (.t 7) 2, none⟩,
 ⟨(some 71), .load (.t 70) 1 false, none⟩,
 ⟨(some 72), .len .slice (.t 71), none⟩,
 ⟨(some 73), .fieldAddr (.t 7) 3, none⟩,
 ⟨(some 74), .load (.t 73) 1 false, none⟩,
 ⟨(some 75), .len .slice (.t 74), none⟩,
 ⟨(some 76), .bin false .other .add (.t 72) (.t 75), none⟩,
 ⟨(some 77), .fieldAddr (.t 7) 5, none⟩,
 ⟨(some 78), .load (.t 77) 1 false, none⟩,
 ⟨(some 79), .len .slice (.t 78), none⟩,
 ⟨(some 80), .bin false .other .add (.t 76) (.t 79), none⟩,
 ⟨(some 81), .bin false .other .add (.t 69) (.t 80), none⟩,
 ⟨(some 3), .move (.t 81), none⟩])
  (.seq (.seq (.region [⟨(some 82), .move (.t 3), none⟩,
 ⟨(some 83), .bin true .other .gtr (.t 82) (.v (.lit (.int .i64 5000))), none⟩])
  (.cond (.t 83)
    (.seq (.region [⟨(some 2), .move (.v (.lit (.bool true))), none⟩])
    (.ret))
    (.skip)))
  (.seq (.seq (.region [⟨(some 8), .move (.v (.lit (.int .i64 0))), none⟩])
  (.block 6 (.loop (.seq (.seq (.region [⟨(some 84), .move (.t 8), none⟩,
 ⟨(some 85), .fieldAddr (.t 7) 5, none⟩,
 ⟨(some 86), .load (.t 85) 1 false, none⟩,
 ⟨(some 87), .len .slice (.t 86), none⟩,
 ⟨(some 88), .bin false .other .lss (.t 84) (.t 87), none⟩])
  (.cond (.t 88)
    (.skip)
    (.exit 6)))
  (.seq (.block 7 (.seq (.region [⟨(some 91), .move (.t 3), none⟩,
 ⟨(some 92), .fieldAddr (.t 7) 5, none⟩,
 ⟨(some 93), .load (.t 92) 1 false, none⟩,
 ⟨(some 94), .move (.t 8), none⟩,
 ⟨(some 95), .indexAddr (.t 93) (.t 94) 11, none⟩,
 ⟨(some 96), .fieldAddr (.t 95) 2, none⟩,
 ⟨(some 97), .load (.t 96) 1 false, none⟩,
 ⟨(some 98), .len .slice (.t 97), none⟩,
 ⟨(some 99), .fieldAddr (.t 7) 5, none⟩,
 ⟨(some 100), .load (.t 99) 1 false, none⟩,
 ⟨(some 101), .move (.t 8), none⟩,
 ⟨(some 102), .indexAddr (.t 100) (.t 101) 11, none⟩,
 ⟨(some 103), .fieldAddr (.t 102) 3, none⟩,
 ⟨(some 104), .fieldAddr (.t 103) 5, none⟩,
 ⟨(some 105), .load (.t 104) 1 false, none⟩,
 ⟨(some 106), .len .slice (.t 105), none⟩,
 ⟨(some 107), .bin false .other .add (.t 98) (.t 106), none⟩,
 ⟨(some 108), .fieldAddr (.t 7) 5, none⟩,
 ⟨(some 109), .load (.t 108) 1 false, none⟩,
 ⟨(some 110), .move (.t 8), none⟩,
 ⟨(some 111), .indexAddr (.t 109) (.t 110) 11, none⟩,
 ⟨(some 112), .fieldAddr (.t 111) 3, none⟩,
 ⟨(some 113), .fieldAddr (.t 112) 6, none⟩,
 ⟨(some 114), .load (.t 113) 1 false, none⟩,
 ⟨(some 115), .len .slice (.t 114), none⟩,
 ⟨(some 116), .bin false .other .add (.t 107) (.t 115), none⟩,
 ⟨(some 117), .fieldAddr (.t 7) 5, none⟩,
 ⟨(some 118), .load (.t 117) 1 false, none⟩,
 ⟨(some 119), .move (.t 8), none⟩,
 ⟨(some 120), .indexAddr (.t 118) (.t 119) 11, none⟩,
 ⟨(some 121), .fieldAddr (.t 120) 3, none⟩,
 ⟨(some 122), .fieldAddr (.t 121) 7, none⟩,
 ⟨(some 123), .load (.t 122) 1 false, none⟩,
 ⟨(some 124), .len .slice (.t 123), none⟩,
 ⟨(some 125), .bin false .other .add (.t 116) (.t 124), none⟩,
 ⟨(some 126), .bin false .other .add (.t 91) (.t 125), none⟩,
 ⟨(some 3), .move (.t 126), none⟩])
  (.seq (.seq (.region [⟨(some 127), .move (.t 3), none⟩,
 ⟨(some 128), .bin true .other .gtr (.t 127) (.v (.lit (.int .i64 5000))), none⟩])
  (.cond (.t 128)
    (.seq (.region [⟨(some 2), .move (.v (.lit (.bool true))), none⟩])
    (.ret))
    (.skip)))
  (.seq (.region [⟨(some 9), .move (.v (.lit (.int .i64 0))), none⟩])
  (.block 8 (.loop (.seq (.seq (.region [⟨(some 129), .move (.t 9), none⟩,
 ⟨(some 130), .fieldAddr (.t 7) 5, none⟩,
 ⟨(some 131), .load (.t 130) 1 false, none⟩,
 ⟨(some 132), .move (.t 8), none⟩,
 ⟨(some 133), .indexAddr (.t 131) (.t 132) 11, none⟩,
 ⟨(some 134), .fieldAddr (.t 133) 2, none⟩,
 ⟨(some 135), .load (.t 134) 1 false, none⟩,
 ⟨(some 136), .len .slice (.t 135), none⟩,
 ⟨(some 137), .bin false .other .lss (.t 129) (.t 136), none⟩])
  (.cond (.t 137)
    (.skip)
    (.exit 8)))
  (.seq (.block 9 (.region [⟨(some 140), .move (.t 3), none⟩,
 ⟨(some 141), .fieldAddr (.t 7) 5, none⟩,
 ⟨(some 142), .load (.t 141) 1 false, none⟩,
 ⟨(some 143), .move (.t 8), none⟩,
 ⟨(some 144), .indexAddr (.t 142) (.t 143) 11, none⟩,
 ⟨(some 145), .fieldAddr (.t 144) 2, none⟩,
 ⟨(some 146), .load (.t 145) 1 false, none⟩,
 ⟨(some 147), .move (.t 9), none⟩,
 ⟨(some 148), .indexAddr (.t 146) (.t 147) 8, none⟩,
 ⟨(some 149), .fieldAddr (.t 148) 7, none⟩,
 ⟨(some 150), .load (.t 149) 1 false, none⟩,
 ⟨(some 151), .len .slice (.t 150), none⟩,
 ⟨(some 152), .bin false .other .add (.t 140) (.t 151), none⟩,
 ⟨(some 3), .move (.t 152), none⟩]))
  (.region [⟨(some 138), .move (.t 9), none⟩,
 ⟨(some 139), .bin true .other .add (.t 138) (.v (.lit (.int .i64 1))), none⟩,
 ⟨(some 9), .move (.t 139), none⟩])))))))))
  (.region [⟨(some 89), .move (.t 8), none⟩,
 ⟨(some 90), .bin true .other .add (.t 89) (.v (.lit (.int .i64 1))), none⟩,
 ⟨(some 8), .move (.t 90), none⟩]))))))
  (.seq (.region [⟨(some 153), .load (.t 7) 6 true, none⟩,
 ⟨(some 154), .call (.v (.func (.func 87) [] [])) [(.t 153)], none⟩,
 ⟨(some 10), .move (.t 154), none⟩])
  (.seq (.region [⟨(some 11), .move (.v (.lit (.int .i64 0))), none⟩])
  (.block 10 (.loop (.seq (.seq (.region [⟨(some 155), .move (.t 11), none⟩,
 ⟨(some 156), .move (.t 10), none⟩,
 ⟨(some 157), .len .slice (.t 156), none⟩,
 ⟨(some 158), .bin false .other .lss (.t 155) (.t 157), none⟩])
  (.cond (.t 158)
    (.skip)
    (.exit 10)))
  (.seq (.block 11 (.region [⟨(some 161), .move (.t 3), none⟩,
 ⟨(some 162), .move (.t 10), none⟩,
 ⟨(some 163), .move (.t 11), none⟩,
 ⟨(some 164), .indexAddr (.t 162) (.t 163) 2, none⟩,
 ⟨(some 165), .fieldAddr (.t 164) 1, none⟩,
 ⟨(some 166), .load (.t 165) 1 false, none⟩,
 ⟨(some 167), .len .slice (.t 166), none⟩,
 ⟨(some 168), .bin false .other .add (.t 161) (.t 167), none⟩,
 ⟨(some 3), .move (.t 168), none⟩]))
  (.region [⟨(some 159), .move (.t 11), none⟩,
 ⟨(some 160), .bin true .other .add (.t 159) (.v (.lit (.int .i64 1))), none⟩,
 ⟨(some 11), .move (.t 160), none⟩]))))))))))))
  (.region [⟨(some 62), .move (.t 6), none⟩,
 ⟨(some 63), .bin true .other .add (.t 62) (.v (.lit (.int .i64 1))), none⟩,
 ⟨(some 6), .move (.t 63), none⟩]))))))
  (.seq (.region [⟨(some 169), .move (.t 3), none⟩,
 ⟨(some 170), .bin true .other .gtr (.t 169) (.v (.lit (.int .i64 5000))), none⟩,
 ⟨(some 171), .move (.t 170), none⟩,
 ⟨(some 172), .load (.t 1) 3 true, some (171, false)⟩,
 ⟨(some 173), .call (.v (.func (.func 88) [] [])) [(.t 172)], some (171, false)⟩,
 ⟨(some 174), .len .other (.t 173), some (171, false)⟩,
 ⟨(some 175), .bin true .other .gtr (.t 174) (.v (.lit (.int .i64 60000))), some (171, false)⟩,
 ⟨(some 176), .pick (.t 171) (.v (.lit (.bool true))) (.t 175), none⟩,
 ⟨(some 2), .move (.t 176), none⟩])
  (.ret)))))))
theorem xf41 : xfunc Tryz.prog 41 = some ⟨xn41, xr41, xc41⟩ := by kernel_rfl
noncomputable def xn87 : Nat := 69
noncomputable def xr87 : List XRes := [.tmp 2]
noncomputable def xc87 : XCode := .seq (.region [⟨(some 1), .box (.t 0), none⟩,
 ⟨(some 2), .move (.v (.lit (.slice none 0 0))), none⟩])
  (.seq (.region [⟨(some 7), .buildSlice [(.str []), (.lit (.slice none 0 0))] 0 [], none⟩,
 ⟨(some 3), .move (.t 7), none⟩])
  (.seq (.seq (.region [⟨(some 4), .move (.v (.lit (.int .i64 0))), none⟩])
  (.block 0 (.loop (.seq (.seq (.region [⟨(some 8), .move (.t 4), none⟩,
 ⟨(some 9), .fieldAddr (.t 1) 5, none⟩,
 ⟨(some 10), .load (.t 9) 1 false, none⟩,
 ⟨(some 11), .len .slice (.t 10), none⟩,
 ⟨(some 12), .bin false .other .lss (.t 8) (.t 11), none⟩])
  (.cond (.t 12)
    (.skip)
    (.exit 0)))
  (.seq (.block 1 (.seq (.region [⟨(some 15), .fieldAddr (.t 1) 5, none⟩,
 ⟨(some 16), .load (.t 15) 1 false, none⟩,
 ⟨(some 17), .move (.t 4), none⟩,
 ⟨(some 18), .indexAddr (.t 16) (.t 17) 11, none⟩,
 ⟨(some 19), .load (.t 18) 11 true, none⟩,
 ⟨(some 5), .alloc [(.lit (.int .i64 0)), (.str []), (.lit (.slice none 0 0)), (.lit (.int .i64 0)), (.lit (.int .i64 0)), (.str []), (.lit (.slice none 0 0)), (.str []), (.lit (.slice none 0 0)), (.lit (.slice none 0 0)), (.lit (.slice none 0 0))], none⟩,
 ⟨none, .store (.t 5) (.t 19) 11, none⟩])
  (.seq (.seq (.region [⟨(some 6), .move (.v (.lit (.int .i64 0))), none⟩])
  (.block 2 (.loop (.seq (.seq (.region [⟨(some 20), .move (.t 6), none⟩,
 ⟨(some 21), .fieldAddr (.t 5) 2, none⟩,
 ⟨(some 22), .load (.t 21) 1 false, none⟩,
 ⟨(some 23), .len .slice (.t 22), none⟩,
 ⟨(some 24), .bin false .other .lss (.t 20) (.t 23), none⟩])
  (.cond (.t 24)
    (.skip)
    (.exit 2)))
  (.seq (.block 3 (.seq (.region [⟨(some 27), .move (.t 3), none⟩,
 ⟨(some 28), .fieldAddr (.t 5) 2, none⟩,
 ⟨(some 29), .load (.t 28) 1 false, none⟩,
 ⟨(some 30), .move (.t 6), none⟩,
 ⟨(some 31), .indexAddr (.t 29) (.t 30) 8, none⟩,
 ⟨(some 32), .fieldAddr (.t 31) 7, none⟩,
 ⟨(some 33), .load (.t 32) 1 false, none⟩,
 ⟨(some 34), .append 2 (.t 27) (.t 33), none⟩,
 ⟨(some 3), .move (.t 34), none⟩])
  (.seq (.region [⟨(some 35), .fieldAddr (.t 5) 2, none⟩,
 ⟨(some 36), .load (.t 35) 1 false, none⟩,
 ⟨(some 37), .move (.t 6), none⟩,
 ⟨(some 38), .indexAddr (.t 36) (.t 37) 8, none⟩,
 ⟨(some 39), .fieldAddr (.t 38) 2, none⟩,
 ⟨(some 40), .fieldAddr (.t 39) 0, none⟩,
 ⟨(some 41), .load (.t 40) 1 false, none⟩,
 ⟨(some 42), .bin true .other .neq (.t 41) (.v (.str [])), none⟩])
  (.cond (.t 42)
    (.region [⟨(some 43), .move (.t 3), none⟩,
      ⟨(some 44), .fieldAddr (.t 5) 2, none⟩,
      ⟨(some 45), .load (.t 44) 1 false, none⟩,
      ⟨(some 46), .move (.t 6), none⟩,
      ⟨(some 47), .indexAddr (.t 45) (.t 46) 8, none⟩,
      ⟨(some 48), .fieldAddr (.t 47) 2, none⟩,
      ⟨(some 49), .load (.t 48) 2 true, none⟩,
      ⟨(some 50), .buildSlice [(.str []), (.lit (.slice none 0 0))] 1 [(0, (.t 49))], none⟩,
      ⟨(some 51), .append 2 (.t 43) (.t 50), none⟩,
      ⟨(some 3), .move (.t 51), none⟩])
    (.skip)))))
  (.region [⟨(some 25), .move (.t 6), none⟩,
 ⟨(some 26), .bin true .other .add (.t 25) (.v (.lit (.int .i64 1))), none⟩,
 ⟨(some 6), .move (.t 26), none⟩]))))))
  (.seq (.region [⟨(some 52), .move (.t 3), none⟩,
 ⟨(some 53), .fieldAddr (.t 5) 3, none⟩,
 ⟨(some 54), .fieldAddr (.t 53) 5, none⟩,
 ⟨(some 55), .load (.t 54) 1 false, none⟩,
 ⟨(some 56), .append 2 (.t 52) (.t 55), none⟩,
 ⟨(some 3), .move (.t 56), none⟩])
  (.seq (.region [⟨(some 57), .fieldAddr (.t 5) 3, none⟩,
 ⟨(some 58), .fieldAddr (.t 57) 2, none⟩,
 ⟨(some 59), .fieldAddr (.t 58) 0, none⟩,
 ⟨(some 60), .load (.t 59) 1 false, none⟩,
 ⟨(some 61), .bin true .other .neq (.t 60) (.v (.str [])), none⟩])
  (.cond (.t 61)
    (.region [⟨(some 62), .move (.t 3), none⟩,
      ⟨(some 63), .fieldAddr (.t 5) 3, none⟩,
      ⟨(some 64), .fieldAddr (.t 63) 2, none⟩,
      ⟨(some 65), .load (.t 64) 2 true, none⟩,
      ⟨(some 66), .buildSlice [(.str []), (.lit (.slice none 0 0))] 1 [(0, (.t 65))], none⟩,
      ⟨(some 67), .append 2 (.t 62) (.t 66), none⟩,
      ⟨(some 3), .move (.t 67), none⟩])
    (.skip)))))))
  (.region [⟨(some 13), .move (.t 4), none⟩,
 ⟨(some 14), .bin true .other .add (.t 13) (.v (.lit (.int .i64 1))), none⟩,
 ⟨(some 4), .move (.t 14), none⟩]))))))
  (.seq (.region [⟨(some 68), .move (.t 3), none⟩,
 ⟨(some 2), .move (.t 68), none⟩])
  (.ret))))
theorem xf87 : xfunc Tryz.prog 87 = some ⟨xn87, xr87, xc87⟩ := by kernel_rfl
noncomputable def xn88 : Nat := 253
noncomputable def xr88 : List XRes := [.tmp 2]
noncomputable def xc88 : XCode := .seq (.region [⟨(some 1), .box (.t 0), none⟩,
 ⟨(some 2), .move (.v (.str [])), none⟩])
  (.seq (.region [⟨(some 15), .fieldAddr (.t 1) 0, none⟩,
 ⟨(some 16), .load (.t 15) 1 false, none⟩,
 ⟨(some 17), .len .slice (.t 16), none⟩,
 ⟨(some 18), .conv (.int .u64) (.t 17), none⟩,
 ⟨(some 19), .call (.v (.func (.func 140) [] [])) [(.t 18)], none⟩,
 ⟨(some 20), .bin true .other .add (.t 19) (.v (.str [115])), none⟩,
 ⟨(some 3), .move (.t 20), none⟩])
  (.seq (.seq (.region [⟨(some 4), .move (.v (.lit (.int .i64 0))), none⟩])
  (.block 0 (.loop (.seq (.seq (.region [⟨(some 21), .move (.t 4), none⟩,
 ⟨(some 22), .fieldAddr (.t 1) 0, none⟩,
 ⟨(some 23), .load (.t 22) 1 false, none⟩,
 ⟨(some 24), .len .slice (.t 23), none⟩,
 ⟨(some 25), .bin false .other .lss (.t 21) (.t 24), none⟩])
  (.cond (.t 25)
    (.skip)
    (.exit 0)))
  (.seq (.block 1 (.seq (.region [⟨(some 28), .fieldAddr (.t 1) 0, none⟩,
 ⟨(some 29), .load (.t 28) 1 false, none⟩,
 ⟨(some 30), .move (.t 4), none⟩,
 ⟨(some 31), .indexAddr (.t 29) (.t 30) 5, none⟩,
 ⟨(some 32), .load (.t 31) 5 true, none⟩,
 ⟨(some 5), .alloc [(.lit (.int .i64 0)), (.str []), (.lit (.bool false)), (.lit (.bool false)), (.lit (.slice none 0 0))], none⟩,
 ⟨none, .store (.t 5) (.t 32) 5, none⟩])
  (.draw [⟨.pure, 0, 4⟩, ⟨.pure, 0, 0⟩, ⟨.read, 0, 0⟩, ⟨.eff, 0, 1⟩, ⟨.pure, 0, 1⟩, ⟨.read, 0, 1⟩, ⟨.eff, 1, 2⟩, ⟨.pure, 2, 4⟩, ⟨.pure, 0, 2⟩, ⟨.read, 0, 2⟩, ⟨.eff, 2, 3⟩, ⟨.pure, 3, 4⟩, ⟨.pure, 0, 3⟩, ⟨.read, 0, 3⟩, ⟨.eff, 3, 4⟩, ⟨.pure, 4, 4⟩, ⟨.pure, 4, 4⟩, ⟨.pure, 4, 4⟩] [⟨(some 33), .move (.t 3), none⟩,
 ⟨(some 34), .fieldAddr (.t 5) 1, none⟩,
 ⟨(some 35), .load (.t 34) 1 false, none⟩,
 ⟨(some 36), .call (.v (.func (.func 141) [] [])) [(.t 35)], none⟩,
 ⟨(some 37), .fieldAddr (.t 5) 2, none⟩,
 ⟨(some 38), .load (.t 37) 1 false, none⟩,
 ⟨(some 39), .call (.v (.func (.func 142) [] [])) [(.t 38)], none⟩,
 ⟨(some 40), .bin false .other .add (.t 36) (.t 39), none⟩,
 ⟨(some 41), .fieldAddr (.t 5) 3, none⟩,
 ⟨(some 42), .load (.t 41) 1 false, none⟩,
 ⟨(some 43), .call (.v (.func (.func 142) [] [])) [(.t 42)], none⟩,
 ⟨(some 44), .bin false .other .add (.t 40) (.t 43), none⟩,
 ⟨(some 45), .fieldAddr (.t 5) 4, none⟩,
 ⟨(some 46), .load (.t 45) 1 false, none⟩,
 ⟨(some 47), .call (.v (.func (.func 143) [] [])) [(.t 46)], none⟩,
 ⟨(some 48), .bin false .other .add (.t 44) (.t 47), none⟩,
 ⟨(some 49), .bin false .other .add (.t 33) (.t 48), none⟩,
 ⟨(some 3), .move (.t 49), none⟩])))
  (.region [⟨(some 26), .move (.t 4), none⟩,
 ⟨(some 27), .bin true .other .add (.t 26) (.v (.lit (.int .i64 1))), none⟩,
 ⟨(some 4), .move (.t 27), none⟩]))))))
  (.seq (.region [⟨(some 50), .move (.t 3), none⟩,
 ⟨(some 51), .fieldAddr (.t 1) 1, none⟩,
 ⟨(some 52), .load (.t 51) 1 false, none⟩,
 ⟨(some 53), .len .slice (.t 52), none⟩,
 ⟨(some 54), .conv (.int .u64) (.t 53), none⟩,
 ⟨(some 55), .call (.v (.func (.func 140) [] [])) [(.t 54)], none⟩,
 ⟨(some 56), .bin true .other .add (.t 55) (.v (.str [101])), none⟩,
 ⟨(some 57), .bin false .other .add (.t 50) (.t 56), none⟩,
 ⟨(some 3), .move (.t 57), none⟩])
  (.seq (.seq (.region [⟨(some 6), .move (.v (.lit (.int .i64 0))), none⟩])
  (.block 2 (.loop (.seq (.seq (.region [⟨(some 58), .move (.t 6), none⟩,
 ⟨(some 59), .fieldAddr (.t 1) 1, none⟩,
 ⟨(some 60), .load (.t 59) 1 false, none⟩,
 ⟨(some 61), .len .slice (.t 60), none⟩,
 ⟨(some 62), .bin false .other .lss (.t 58) (.t 61), none⟩])
  (.cond (.t 62)
    (.skip)
    (.exit 2)))
  (.seq (.block 3 (.draw [⟨.pure, 0, 2⟩, ⟨.pure, 0, 0⟩, ⟨.read, 0, 0⟩, ⟨.pure, 0, 0⟩, ⟨.pure, 0, 0⟩, ⟨.pure, 0, 0⟩, ⟨.read, 0, 0⟩, ⟨.eff, 0, 1⟩, ⟨.pure, 0, 1⟩, ⟨.read, 0, 1⟩, ⟨.pure, 0, 1⟩, ⟨.pure, 0, 1⟩, ⟨.pure, 0, 1⟩, ⟨.read, 0, 1⟩, ⟨.eff, 1, 2⟩, ⟨.pure, 2, 2⟩, ⟨.pure, 2, 2⟩, ⟨.pure, 2, 2⟩] [⟨(some 65), .move (.t 3), none⟩,
 ⟨(some 66), .fieldAddr (.t 1) 1, none⟩,
 ⟨(some 67), .load (.t 66) 1 false, none⟩,
 ⟨(some 68), .move (.t 6), none⟩,
 ⟨(some 69), .indexAddr (.t 67) (.t 68) 3, none⟩,
 ⟨(some 70), .fieldAddr (.t 69) 1, none⟩,
 ⟨(some 71), .load (.t 70) 1 false, none⟩,
 ⟨(some 72), .call (.v (.func (.func 141) [] [])) [(.t 71)], none⟩,
 ⟨(some 73), .fieldAddr (.t 1) 1, none⟩,
 ⟨(some 74), .load (.t 73) 1 false, none⟩,
 ⟨(some 75), .move (.t 6), none⟩,
 ⟨(some 76), .indexAddr (.t 74) (.t 75) 3, none⟩,
 ⟨(some 77), .fieldAddr (.t 76) 2, none⟩,
 ⟨(some 78), .load (.t 77) 1 false, none⟩,
 ⟨(some 79), .call (.v (.func (.func 143) [] [])) [(.t 78)], none⟩,
 ⟨(some 80), .bin false .other .add (.t 72) (.t 79), none⟩,
 ⟨(some 81), .bin false .other .add (.t 65) (.t 80), none⟩,
 ⟨(some 3), .move (.t 81), none⟩]))
  (.region [⟨(some 63), .move (.t 6), none⟩,
 ⟨(some 64), .bin true .other .add (.t 63) (.v (.lit (.int .i64 1))), none⟩,
 ⟨(some 6), .move (.t 64), none⟩]))))))
  (.seq (.region [⟨(some 82), .move (.t 3), none⟩,
 ⟨(some 83), .fieldAddr (.t 1) 2, none⟩,
 ⟨(some 84), .load (.t 83) 1 false, none⟩,
 ⟨(some 85), .len .slice (.t 84), none⟩,
 ⟨(some 86), .conv (.int .u64) (.t 85), none⟩,
 ⟨(some 87), .call (.v (.func (.func 140) [] [])) [(.t 86)], none⟩,
 ⟨(some 88), .bin true .other .add (.t 87) (.v (.str [102])), none⟩,
 ⟨(some 89), .bin false .other .add (.t 82) (.t 88), none⟩,
 ⟨(some 3), .move (.t 89), none⟩])
  (.seq (.seq (.region [⟨(some 7), .move (.v (.lit (.int .i64 0))), none⟩])
  (.block 4 (.loop (.seq (.seq (.region [⟨(some 90), .move (.t 7), none⟩,
 ⟨(some 91), .fieldAddr (.t 1) 2, none⟩,
 ⟨(some 92), .load (.t 91) 1 false, none⟩,
 ⟨(some 93), .len .slice (.t 92), none⟩,
 ⟨(some 94), .bin false .other .lss (.t 90) (.t 93), none⟩])
  (.cond (.t 94)
    (.skip)
    (.exit 4)))
  (.seq (.block 5 (.seq (.region [⟨(some 97), .fieldAddr (.t 1) 2, none⟩,
 ⟨(some 98), .load (.t 97) 1 false, none⟩,
 ⟨(some 99), .move (.t 7), none⟩,
 ⟨(some 100), .indexAddr (.t 98) (.t 99) 6, none⟩,
 ⟨(some 101), .load (.t 100) 6 true, none⟩,
 ⟨(some 8), .alloc [(.lit (.int .i64 0)), (.str []), (.lit (.slice none 0 0)), (.lit (.slice none 0 0)), (.str []), (.lit (.slice none 0 0))], none⟩,
 ⟨none, .store (.t 8) (.t 101) 6, none⟩])
  (.seq (.draw [⟨.pure, 0, 5⟩, ⟨.pure, 0, 0⟩, ⟨.read, 0, 0⟩, ⟨.eff, 0, 1⟩, ⟨.pure, 0, 1⟩, ⟨.read, 0, 1⟩, ⟨.eff, 1, 2⟩, ⟨.pure, 2, 5⟩, ⟨.pure, 0, 2⟩, ⟨.read, 0, 2⟩, ⟨.eff, 2, 3⟩, ⟨.pure, 3, 5⟩, ⟨.pure, 0, 3⟩, ⟨.read, 0, 3⟩, ⟨.eff, 3, 4⟩, ⟨.pure, 4, 5⟩, ⟨.pure, 0, 4⟩, ⟨.read, 0, 4⟩, ⟨.read, 0, 4⟩, ⟨.pure, 0, 4⟩, ⟨.eff, 4, 5⟩, ⟨.pure, 5, 5⟩, ⟨.pure, 5, 5⟩, ⟨.pure, 5, 5⟩, ⟨.pure, 5, 5⟩] [⟨(some 102), .move (.t 3), none⟩,
 ⟨(some 103), .fieldAddr (.t 8) 1, none⟩,
 ⟨(some 104), .load (.t 103) 1 false, none⟩,
 ⟨(some 105), .call (.v (.func (.func 141) [] [])) [(.t 104)], none⟩,
 ⟨(some 106), .fieldAddr (.t 8) 2, none⟩,
 ⟨(some 107), .load (.t 106) 1 false, none⟩,
 ⟨(some 108), .call (.v (.func (.func 143) [] [])) [(.t 107)], none⟩,
 ⟨(some 109), .bin false .other .add (.t 105) (.t 108), none⟩,
 ⟨(some 110), .fieldAddr (.t 8) 3, none⟩,
 ⟨(some 111), .load (.t 110) 1 false, none⟩,
 ⟨(some 112), .call (.v (.func (.func 143) [] [])) [(.t 111)], none⟩,
 ⟨(some 113), .bin false .other .add (.t 109) (.t 112), none⟩,
 ⟨(some 114), .fieldAddr (.t 8) 4, none⟩,
 ⟨(some 115), .load (.t 114) 1 false, none⟩,
 ⟨(some 116), .call (.v (.func (.func 141) [] [])) [(.t 115)], none⟩,
 ⟨(some 117), .bin false .other .add (.t 113) (.t 116), none⟩,
 ⟨(some 118), .fieldAddr (.t 8) 5, none⟩,
 ⟨(some 119), .load (.t 118) 1 false, none⟩,
 ⟨(some 120), .len .slice (.t 119), none⟩,
 ⟨(some 121), .conv (.int .u64) (.t 120), none⟩,
 ⟨(some 122), .call (.v (.func (.func 140) [] [])) [(.t 121)], none⟩,
 ⟨(some 123), .bin false .other .add (.t 117) (.t 122), none⟩,
 ⟨(some 124), .bin true .other .add (.t 123) (.v (.str [98])), none⟩,
 ⟨(some 125), .bin false .other .add (.t 102) (.t 124), none⟩,
 ⟨(some 3), .move (.t 125), none⟩])
  (.seq (.region [⟨(some 9), .move (.v (.lit (.int .i64 0))), none⟩])
  (.block 6 (.loop (.seq (.seq (.region [⟨(some 126), .move (.t 9), none⟩,
 ⟨(some 127), .fieldAddr (.t 8) 5, none⟩,
 ⟨(some 128), .load (.t 127) 1 false, none⟩,
 ⟨(some 129), .len .slice (.t 128), none⟩,
 ⟨(some 130), .bin false .other .lss (.t 126) (.t 129), none⟩])
  (.cond (.t 130)
    (.skip)
    (.exit 6)))
  (.seq (.block 7 (.seq (.region [⟨(some 133), .fieldAddr (.t 8) 5, none⟩,
 ⟨(some 134), .load (.t 133) 1 false, none⟩,
 ⟨(some 135), .move (.t 9), none⟩,
 ⟨(some 136), .indexAddr (.t 134) (.t 135) 11, none⟩,
 ⟨(some 137), .load (.t 136) 11 true, none⟩,
 ⟨(some 10), .alloc [(.lit (.int .i64 0)), (.str []), (.lit (.slice none 0 0)), (.lit (.int .i64 0)), (.lit (.int .i64 0)), (.str []), (.lit (.slice none 0 0)), (.str []), (.lit (.slice none 0 0)), (.lit (.slice none 0 0)), (.lit (.slice none 0 0))], none⟩,
 ⟨none, .store (.t 10) (.t 137) 11, none⟩])
  (.seq (.draw [⟨.pure, 0, 2⟩, ⟨.pure, 0, 0⟩, ⟨.read, 0, 0⟩, ⟨.eff, 0, 1⟩, ⟨.pure, 0, 1⟩, ⟨.read, 0, 1⟩, ⟨.read, 0, 1⟩, ⟨.pure, 0, 1⟩, ⟨.eff, 1, 2⟩, ⟨.pure, 2, 2⟩, ⟨.pure, 2, 2⟩, ⟨.pure, 2, 2⟩, ⟨.pure, 2, 2⟩] [⟨(some 138), .move (.t 3), none⟩,
 ⟨(some 139), .fieldAddr (.t 10) 1, none⟩,
 ⟨(some 140), .load (.t 139) 1 false, none⟩,
 ⟨(some 141), .call (.v (.func (.func 141) [] [])) [(.t 140)], none⟩,
 ⟨(some 142), .fieldAddr (.t 10) 2, none⟩,
 ⟨(some 143), .load (.t 142) 1 false, none⟩,
 ⟨(some 144), .len .slice (.t 143), none⟩,
 ⟨(some 145), .conv (.int .u64) (.t 144), none⟩,
 ⟨(some 146), .call (.v (.func (.func 140) [] [])) [(.t 145)], none⟩,
 ⟨(some 147), .bin false .other .add (.t 141) (.t 146), none⟩,
 ⟨(some 148), .bin true .other .add (.t 147) (.v (.str [116])), none⟩,
 ⟨(some 149), .bin false .other .add (.t 138) (.t 148), none⟩,
 ⟨(some 3), .move (.t 149), none⟩])
  (.seq (.seq (.region [⟨(some 11), .move (.v (.lit (.int .i64 0))), none⟩])
  (.block 8 (.loop (.seq (.seq (.region [⟨(some 150), .move (.t 11), none⟩,
 ⟨(some 151), .fieldAddr (.t 10) 2, none⟩,
 ⟨(some 152), .load (.t 151) 1 false, none⟩,
 ⟨(some 153), .len .slice (.t 152), none⟩,
 ⟨(some 154), .bin false .other .lss (.t 150) (.t 153), none⟩])
  (.cond (.t 154)
    (.skip)
    (.exit 8)))
  (.seq (.block 9 (.seq (.region [⟨(some 157), .fieldAddr (.t 10) 2, none⟩,
 ⟨(some 158), .load (.t 157) 1 false, none⟩,
 ⟨(some 159), .move (.t 11), none⟩,
 ⟨(some 160), .indexAddr (.t 158) (.t 159) 8, none⟩,
 ⟨(some 161), .load (.t 160) 8 true, none⟩,
 ⟨(some 12), .alloc [(.lit (.int .i64 0)), (.lit (.int .i64 0)), (.str []), (.lit (.slice none 0 0)), (.lit (.int .i64 0)), (.str []), (.str []), (.lit (.slice none 0 0))], none⟩,
 ⟨none, .store (.t 12) (.t 161) 8, none⟩])
  (.draw [⟨.pure, 0, 6⟩, ⟨.pure, 0, 0⟩, ⟨.read, 0, 0⟩, ⟨.eff, 0, 1⟩, ⟨.pure, 0, 1⟩, ⟨.read, 0, 1⟩, ⟨.fresh, 0, 1⟩, ⟨.eff, 1, 2⟩, ⟨.pure, 2, 6⟩, ⟨.pure, 0, 2⟩, ⟨.read, 0, 2⟩, ⟨.eff, 2, 3⟩, ⟨.pure, 3, 6⟩, ⟨.pure, 3, 6⟩, ⟨.pure, 0, 3⟩, ⟨.read, 0, 3⟩, ⟨.eff, 3, 4⟩, ⟨.pure, 4, 6⟩, ⟨.pure, 0, 4⟩, ⟨.read, 0, 4⟩, ⟨.eff, 4, 5⟩, ⟨.pure, 5, 6⟩, ⟨.pure, 0, 5⟩, ⟨.read, 0, 5⟩, ⟨.eff, 5, 6⟩, ⟨.pure, 6, 6⟩, ⟨.pure, 6, 6⟩, ⟨.pure, 6, 6⟩] [⟨(some 162), .move (.t 3), none⟩,
 ⟨(some 163), .fieldAddr (.t 12) 1, none⟩,
 ⟨(some 164), .load (.t 163) 1 false, none⟩,
 ⟨(some 165), .call (.v (.func (.func 113) [] [])) [(.t 164)], none⟩,
 ⟨(some 166), .fieldAddr (.t 12) 2, none⟩,
 ⟨(some 167), .load (.t 166) 2 true, none⟩,
 ⟨(some 168), .buildSlice [(.str []), (.lit (.slice none 0 0))] 1 [(0, (.t 167))], none⟩,
 ⟨(some 169), .call (.v (.func (.func 144) [] [])) [(.t 168)], none⟩,
 ⟨(some 170), .bin false .other .add (.t 165) (.t 169), none⟩,
 ⟨(some 171), .fieldAddr (.t 12) 4, none⟩,
 ⟨(some 172), .load (.t 171) 1 false, none⟩,
 ⟨(some 173), .call (.v (.func (.func 113) [] [])) [(.t 172)], none⟩,
 ⟨(some 174), .bin false .other .add (.t 170) (.t 173), none⟩,
 ⟨(some 175), .bin true .other .add (.t 174) (.v (.str [59])), none⟩,
 ⟨(some 176), .fieldAddr (.t 12) 5, none⟩,
 ⟨(some 177), .load (.t 176) 1 false, none⟩,
 ⟨(some 178), .call (.v (.func (.func 141) [] [])) [(.t 177)], none⟩,
 ⟨(some 179), .bin false .other .add (.t 175) (.t 178), none⟩,
 ⟨(some 180), .fieldAddr (.t 12) 6, none⟩,
 ⟨(some 181), .load (.t 180) 1 false, none⟩,
 ⟨(some 182), .call (.v (.func (.func 141) [] [])) [(.t 181)], none⟩,
 ⟨(some 183), .bin false .other .add (.t 179) (.t 182), none⟩,
 ⟨(some 184), .fieldAddr (.t 12) 7, none⟩,
 ⟨(some 185), .load (.t 184) 1 false, none⟩,
 ⟨(some 186), .call (.v (.func (.func 144) [] [])) [(.t 185)], none⟩,
 ⟨(some 187), .bin false .other .add (.t 183) (.t 186), none⟩,
 ⟨(some 188), .bin false .other .add (.t 162) (.t 187), none⟩,
 ⟨(some 3), .move (.t 188), none⟩])))
  (.region [⟨(some 155), .move (.t 11), none⟩,
 ⟨(some 156), .bin true .other .add (.t 155) (.v (.lit (.int .i64 1))), none⟩,
 ⟨(some 11), .move (.t 156), none⟩]))))))
  (.seq (.region [⟨(some 189), .fieldAddr (.t 10) 3, none⟩,
 ⟨(some 190), .load (.t 189) 8 true, none⟩,
 ⟨(some 13), .alloc [(.lit (.int .i64 0)), (.lit (.int .i64 0)), (.str []), (.lit (.slice none 0 0)), (.str []), (.lit (.slice none 0 0)), (.lit (.slice none 0 0)), (.lit (.slice none 0 0))], none⟩,
 ⟨none, .store (.t 13) (.t 190) 8, none⟩])
  (.seq (.draw [⟨.pure, 0, 6⟩, ⟨.pure, 0, 0⟩, ⟨.read, 0, 0⟩, ⟨.eff, 0, 1⟩, ⟨.pure, 0, 1⟩, ⟨.read, 0, 1⟩, ⟨.fresh, 0, 1⟩, ⟨.eff, 1, 2⟩, ⟨.pure, 2, 6⟩, ⟨.pure, 0, 2⟩, ⟨.read, 0, 2⟩, ⟨.eff, 2, 3⟩, ⟨.pure, 3, 6⟩, ⟨.pure, 0, 3⟩, ⟨.read, 0, 3⟩, ⟨.eff, 3, 4⟩, ⟨.pure, 4, 6⟩, ⟨.pure, 0, 4⟩, ⟨.read, 0, 4⟩, ⟨.eff, 4, 5⟩, ⟨.pure, 5, 6⟩, ⟨.pure, 0, 5⟩, ⟨.read, 0, 5⟩, ⟨.read, 0, 5⟩, ⟨.pure, 0, 5⟩, ⟨.eff, 5, 6⟩, ⟨.pure, 6, 6⟩, ⟨.pure, 6, 6⟩, ⟨.pure, 6, 6⟩, ⟨.pure, 6, 6⟩] [⟨(some 191), .move (.t 3), none⟩,
 ⟨(some 192), .fieldAddr (.t 13) 1, none⟩,
 ⟨(some 193), .load (.t 192) 1 false, none⟩,
 ⟨(some 194), .call (.v (.func (.func 113) [] [])) [(.t 193)], none⟩,
 ⟨(some 195), .fieldAddr (.t 13) 2, none⟩,
 ⟨(some 196), .load (.t 195) 2 true, none⟩,
 ⟨(some 197), .buildSlice [(.str []), (.lit (.slice none 0 0))] 1 [(0, (.t 196))], none⟩,
 ⟨(some 198), .call (.v (.func (.func 144) [] [])) [(.t 197)], none⟩,
 ⟨(some 199), .bin false .other .add (.t 194) (.t 198), none⟩,
 ⟨(some 200), .fieldAddr (.t 13) 4, none⟩,
 ⟨(some 201), .load (.t 200) 1 false, none⟩,
 ⟨(some 202), .call (.v (.func (.func 141) [] [])) [(.t 201)], none⟩,
 ⟨(some 203), .bin false .other .add (.t 199) (.t 202), none⟩,
 ⟨(some 204), .fieldAddr (.t 13) 5, none⟩,
 ⟨(some 205), .load (.t 204) 1 false, none⟩,
 ⟨(some 206), .call (.v (.func (.func 144) [] [])) [(.t 205)], none⟩,
 ⟨(some 207), .bin false .other .add (.t 203) (.t 206), none⟩,
 ⟨(some 208), .fieldAddr (.t 13) 6, none⟩,
 ⟨(some 209), .load (.t 208) 1 false, none⟩,
 ⟨(some 210), .call (.v (.func (.func 145) [] [])) [(.t 209)], none⟩,
 ⟨(some 211), .bin false .other .add (.t 207) (.t 210), none⟩,
 ⟨(some 212), .fieldAddr (.t 13) 7, none⟩,
 ⟨(some 213), .load (.t 212) 1 false, none⟩,
 ⟨(some 214), .len .slice (.t 213), none⟩,
 ⟨(some 215), .conv (.int .u64) (.t 214), none⟩,
 ⟨(some 216), .call (.v (.func (.func 140) [] [])) [(.t 215)], none⟩,
 ⟨(some 217), .bin false .other .add (.t 211) (.t 216), none⟩,
 ⟨(some 218), .bin true .other .add (.t 217) (.v (.str [97])), none⟩,
 ⟨(some 219), .bin false .other .add (.t 191) (.t 218), none⟩,
 ⟨(some 3), .move (.t 219), none⟩])
  (.seq (.region [⟨(some 14), .move (.v (.lit (.int .i64 0))), none⟩])
  (.block 10 (.loop (.seq (.seq (.region [⟨(some 220), .move (.t 14), none⟩,
 ⟨(some 221), .fieldAddr (.t 13) 7, none⟩,
 ⟨(some 222), .load (.t 221) 1 false, none⟩,
 ⟨(some 223), .len .slice (.t 222), none⟩,
 ⟨(some 224), .bin false .other .lss (.t 220) (.t 223), none⟩])
  (.cond (.t 224)
    (.skip)
    (.exit 10)))
  (.seq (.block 11 (.draw [⟨.pure, 0, 3⟩, ⟨.pure, 0, 0⟩, ⟨.read, 0, 0⟩, ⟨.pure, 0, 0⟩, ⟨.pure, 0, 0⟩, ⟨.pure, 0, 0⟩, ⟨.read, 0, 0⟩, ⟨.eff, 0, 1⟩, ⟨.pure, 0, 1⟩, ⟨.read, 0, 1⟩, ⟨.pure, 0, 1⟩, ⟨.pure, 0, 1⟩, ⟨.pure, 0, 1⟩, ⟨.read, 0, 1⟩, ⟨.eff, 1, 2⟩, ⟨.pure, 2, 3⟩, ⟨.pure, 0, 2⟩, ⟨.read, 0, 2⟩, ⟨.pure, 0, 2⟩, ⟨.pure, 0, 2⟩, ⟨.pure, 0, 2⟩, ⟨.read, 0, 2⟩, ⟨.eff, 2, 3⟩, ⟨.pure, 3, 3⟩, ⟨.pure, 3, 3⟩, ⟨.pure, 3, 3⟩] [⟨(some 227), .move (.t 3), none⟩,
 ⟨(some 228), .fieldAddr (.t 13) 7, none⟩,
 ⟨(some 229), .load (.t 228) 1 false, none⟩,
 ⟨(some 230), .move (.t 14), none⟩,
 ⟨(some 231), .indexAddr (.t 229) (.t 230) 3, none⟩,
 ⟨(some 232), .fieldAddr (.t 231) 0, none⟩,
 ⟨(some 233), .load (.t 232) 1 false, none⟩,
 ⟨(some 234), .call (.v (.func (.func 141) [] [])) [(.t 233)], none⟩,
 ⟨(some 235), .fieldAddr (.t 13) 7, none⟩,
 ⟨(some 236), .load (.t 235) 1 false, none⟩,
 ⟨(some 237), .move (.t 14), none⟩,
 ⟨(some 238), .indexAddr (.t 236) (.t 237) 3, none⟩,
 ⟨(some 239), .fieldAddr (.t 238) 1, none⟩,
 ⟨(some 240), .load (.t 239) 1 false, none⟩,
 ⟨(some 241), .call (.v (.func (.func 141) [] [])) [(.t 240)], none⟩,
 ⟨(some 242), .bin false .other .add (.t 234) (.t 241), none⟩,
 ⟨(some 243), .fieldAddr (.t 13) 7, none⟩,
 ⟨(some 244), .load (.t 243) 1 false, none⟩,
 ⟨(some 245), .move (.t 14), none⟩,
 ⟨(some 246), .indexAddr (.t 244) (.t 245) 3, none⟩,
 ⟨(some 247), .fieldAddr (.t 246) 2, none⟩,
 ⟨(some 248), .load (.t 247) 1 false, none⟩,
 ⟨(some 249), .call (.v (.func (.func 141) [] [])) [(.t 248)], none⟩,
 ⟨(some 250), .bin false .other .add (.t 242) (.t 249), none⟩,
 ⟨(some 251), .bin false .other .add (.t 227) (.t 250), none⟩,
 ⟨(some 3), .move (.t 251), none⟩]))
  (.region [⟨(some 225), .move (.t 14), none⟩,
 ⟨(some 226), .bin true .other .add (.t 225) (.v (.lit (.int .i64 1))), none⟩,
 ⟨(some 14), .move (.t 226), none⟩]))))))))))))
  (.region [⟨(some 131), .move (.t 9), none⟩,
 ⟨(some 132), .bin true .other .add (.t 131) (.v (.lit (.int .i64 1))), none⟩,
 ⟨(some 9), .move (.t 132), none⟩])))))))))
  (.region [⟨(some 95), .move (.t 7), none⟩,
 ⟨(some 96), .bin true .other .add (.t 95) (.v (.lit (.int .i64 1))), none⟩,
 ⟨(some 7), .move (.t 96), none⟩]))))))
  (.seq (.region [⟨(some 252), .move (.t 3), none⟩,
 ⟨(some 2), .move (.t 252), none⟩])
  (.ret))))))))
theorem xf88 : xfunc Tryz.prog 88 = some ⟨xn88, xr88, xc88⟩ := by kernel_rfl
noncomputable def xn113 : Nat := 15
noncomputable def xr113 : List XRes := [.tmp 2]
noncomputable def xc113 : XCode := .seq (.region [⟨(some 2), .move (.v (.str [])), none⟩])
  (.seq (.seq (.region [⟨(some 3), .move (.t 0), none⟩,
 ⟨(some 4), .bin true .other .lss (.t 3) (.v (.lit (.int .i64 0))), none⟩])
  (.cond (.t 4)
    (.seq (.region [⟨(some 5), .move (.t 0), none⟩,
      ⟨(some 6), .bin true .other .add (.t 5) (.v (.lit (.int .i64 1))), none⟩,
      ⟨(some 7), .un .neg (.t 6), none⟩,
      ⟨(some 8), .conv (.int .u64) (.t 7), none⟩,
      ⟨(some 9), .bin true .other .add (.t 8) (.v (.lit (.int .u64 1))), none⟩,
      ⟨(some 10), .call (.v (.func (.func 140) [] [])) [(.t 9)], none⟩,
      ⟨(some 11), .bin true .other .add (.v (.str [45])) (.t 10), none⟩,
      ⟨(some 2), .move (.t 11), none⟩])
    (.ret))
    (.skip)))
  (.seq (.region [⟨(some 12), .move (.t 0), none⟩,
 ⟨(some 13), .conv (.int .u64) (.t 12), none⟩,
 ⟨(some 14), .call (.v (.func (.func 140) [] [])) [(.t 13)], none⟩,
 ⟨(some 2), .move (.t 14), none⟩])
  (.ret)))
theorem xf113 : xfunc Tryz.prog 113 = some ⟨xn113, xr113, xc113⟩ := by kernel_rfl
noncomputable def xn140 : Nat := 17
noncomputable def xr140 : List XRes := [.tmp 2]
noncomputable def xc140 : XCode := .seq (.region [⟨(some 2), .move (.v (.str [])), none⟩])
  (.seq (.region [⟨(some 3), .move (.v (.str [])), none⟩])
  (.block 0 (.loop (.block 1 (.seq (.region [⟨(some 4), .move (.t 0), none⟩,
 ⟨(some 5), .bin true .other .rem (.t 4) (.v (.lit (.int .u64 10))), none⟩,
 ⟨(some 6), .move (.t 0), none⟩,
 ⟨(some 7), .bin true .other .rem (.t 6) (.v (.lit (.int .u64 10))), none⟩,
 ⟨(some 8), .bin true .other .add (.t 7) (.v (.lit (.int .u64 1))), none⟩,
 ⟨(some 9), .slice true (.v (.str [48, 49, 50, 51, 52, 53, 54, 55, 56, 57])) (some (.t 5)) (some (.t 8)) 0, none⟩,
 ⟨(some 10), .move (.t 3), none⟩,
 ⟨(some 11), .bin false .other .add (.t 9) (.t 10), none⟩,
 ⟨(some 3), .move (.t 11), none⟩])
  (.seq (.region [⟨(some 12), .move (.t 0), none⟩,
 ⟨(some 13), .bin true .other .quo (.t 12) (.v (.lit (.int .u64 10))), none⟩,
 ⟨(some 0), .move (.t 13), none⟩])
  (.seq (.region [⟨(some 14), .move (.t 0), none⟩,
 ⟨(some 15), .bin true .other .eql (.t 14) (.v (.lit (.int .u64 0))), none⟩])
  (.cond (.t 15)
    (.seq (.region [⟨(some 16), .move (.t 3), none⟩,
      ⟨(some 2), .move (.t 16), none⟩])
    (.ret))
    (.skip)))))))))
theorem xf140 : xfunc Tryz.prog 140 = some ⟨xn140, xr140, xc140⟩ := by kernel_rfl
noncomputable def xn141 : Nat := 10
noncomputable def xr141 : List XRes := [.tmp 2]
noncomputable def xc141 : XCode := .seq (.region [⟨(some 2), .move (.v (.str [])), none⟩])
  (.seq (.region [⟨(some 3), .move (.t 0), none⟩,
 ⟨(some 4), .len .other (.t 3), none⟩,
 ⟨(some 5), .conv (.int .u64) (.t 4), none⟩,
 ⟨(some 6), .call (.v (.func (.func 140) [] [])) [(.t 5)], none⟩,
 ⟨(some 7), .bin true .other .add (.t 6) (.v (.str [58])), none⟩,
 ⟨(some 8), .move (.t 0), none⟩,
 ⟨(some 9), .bin false .other .add (.t 7) (.t 8), none⟩,
 ⟨(some 2), .move (.t 9), none⟩])
  (.ret))
theorem xf141 : xfunc Tryz.prog 141 = some ⟨xn141, xr141, xc141⟩ := by kernel_rfl
noncomputable def xn142 : Nat := 4
noncomputable def xr142 : List XRes := [.tmp 2]
noncomputable def xc142 : XCode := .seq (.region [⟨(some 2), .move (.v (.str [])), none⟩])
  (.seq (.seq (.region [⟨(some 3), .move (.t 0), none⟩])
  (.cond (.t 3)
    (.seq (.region [⟨(some 2), .move (.v (.str [49])), none⟩])
    (.ret))
    (.skip)))
  (.seq (.region [⟨(some 2), .move (.v (.str [48])), none⟩])
  (.ret)))
theorem xf142 : xfunc Tryz.prog 142 = some ⟨xn142, xr142, xc142⟩ := by kernel_rfl
noncomputable def xn143 : Nat := 32
noncomputable def xr143 : List XRes := [.tmp 2]
noncomputable def xc143 : XCode := .seq (.region [⟨(some 2), .move (.v (.str [])), none⟩])
  (.seq (.region [⟨(some 5), .move (.t 0), none⟩,
 ⟨(some 6), .len .slice (.t 5), none⟩,
 ⟨(some 7), .conv (.int .u64) (.t 6), none⟩,
 ⟨(some 8), .call (.v (.func (.func 140) [] [])) [(.t 7)], none⟩,
 ⟨(some 9), .bin true .other .add (.t 8) (.v (.str [123])), none⟩,
 ⟨(some 3), .move (.t 9), none⟩])
  (.seq (.seq (.region [⟨(some 4), .move (.v (.lit (.int .i64 0))), none⟩])
  (.block 0 (.loop (.seq (.seq (.region [⟨(some 10), .move (.t 4), none⟩,
 ⟨(some 11), .move (.t 0), none⟩,
 ⟨(some 12), .len .slice (.t 11), none⟩,
 ⟨(some 13), .bin false .other .lss (.t 10) (.t 12), none⟩])
  (.cond (.t 13)
    (.skip)
    (.exit 0)))
  (.seq (.block 1 (.draw [⟨.pure, 0, 2⟩, ⟨.pure, 0, 0⟩, ⟨.pure, 0, 0⟩, ⟨.pure, 0, 0⟩, ⟨.pure, 0, 0⟩, ⟨.read, 0, 0⟩, ⟨.eff, 0, 1⟩, ⟨.pure, 0, 1⟩, ⟨.pure, 0, 1⟩, ⟨.pure, 0, 1⟩, ⟨.pure, 0, 1⟩, ⟨.read, 0, 1⟩, ⟨.eff, 1, 2⟩, ⟨.pure, 2, 2⟩, ⟨.pure, 2, 2⟩, ⟨.pure, 2, 2⟩] [⟨(some 16), .move (.t 3), none⟩,
 ⟨(some 17), .move (.t 0), none⟩,
 ⟨(some 18), .move (.t 4), none⟩,
 ⟨(some 19), .indexAddr (.t 17) (.t 18) 2, none⟩,
 ⟨(some 20), .fieldAddr (.t 19) 0, none⟩,
 ⟨(some 21), .load (.t 20) 1 false, none⟩,
 ⟨(some 22), .call (.v (.func (.func 141) [] [])) [(.t 21)], none⟩,
 ⟨(some 23), .move (.t 0), none⟩,
 ⟨(some 24), .move (.t 4), none⟩,
 ⟨(some 25), .indexAddr (.t 23) (.t 24) 2, none⟩,
 ⟨(some 26), .fieldAddr (.t 25) 1, none⟩,
 ⟨(some 27), .load (.t 26) 1 false, none⟩,
 ⟨(some 28), .call (.v (.func (.func 141) [] [])) [(.t 27)], none⟩,
 ⟨(some 29), .bin false .other .add (.t 22) (.t 28), none⟩,
 ⟨(some 30), .bin false .other .add (.t 16) (.t 29), none⟩,
 ⟨(some 3), .move (.t 30), none⟩]))
  (.region [⟨(some 14), .move (.t 4), none⟩,
 ⟨(some 15), .bin true .other .add (.t 14) (.v (.lit (.int .i64 1))), none⟩,
 ⟨(some 4), .move (.t 15), none⟩]))))))
  (.seq (.region [⟨(some 31), .move (.t 3), none⟩,
 ⟨(some 2), .move (.t 31), none⟩])
  (.ret))))
theorem xf143 : xfunc Tryz.prog 143 = some ⟨xn143, xr143, xc143⟩ := by kernel_rfl
noncomputable def xn144 : Nat := 32
noncomputable def xr144 : List XRes := [.tmp 2]
noncomputable def xc144 : XCode := .seq (.region [⟨(some 2), .move (.v (.str [])), none⟩])
  (.seq (.region [⟨(some 5), .move (.t 0), none⟩,
 ⟨(some 6), .len .slice (.t 5), none⟩,
 ⟨(some 7), .conv (.int .u64) (.t 6), none⟩,
 ⟨(some 8), .call (.v (.func (.func 140) [] [])) [(.t 7)], none⟩,
 ⟨(some 9), .bin true .other .add (.t 8) (.v (.str [40])), none⟩,
 ⟨(some 3), .move (.t 9), none⟩])
  (.seq (.seq (.region [⟨(some 4), .move (.v (.lit (.int .i64 0))), none⟩])
  (.block 0 (.loop (.seq (.seq (.region [⟨(some 10), .move (.t 4), none⟩,
 ⟨(some 11), .move (.t 0), none⟩,
 ⟨(some 12), .len .slice (.t 11), none⟩,
 ⟨(some 13), .bin false .other .lss (.t 10) (.t 12), none⟩])
  (.cond (.t 13)
    (.skip)
    (.exit 0)))
  (.seq (.block 1 (.draw [⟨.pure, 0, 2⟩, ⟨.pure, 0, 0⟩, ⟨.pure, 0, 0⟩, ⟨.pure, 0, 0⟩, ⟨.pure, 0, 0⟩, ⟨.read, 0, 0⟩, ⟨.eff, 0, 1⟩, ⟨.pure, 0, 1⟩, ⟨.pure, 0, 1⟩, ⟨.pure, 0, 1⟩, ⟨.pure, 0, 1⟩, ⟨.read, 0, 1⟩, ⟨.eff, 1, 2⟩, ⟨.pure, 2, 2⟩, ⟨.pure, 2, 2⟩, ⟨.pure, 2, 2⟩] [⟨(some 16), .move (.t 3), none⟩,
 ⟨(some 17), .move (.t 0), none⟩,
 ⟨(some 18), .move (.t 4), none⟩,
 ⟨(some 19), .indexAddr (.t 17) (.t 18) 2, none⟩,
 ⟨(some 20), .fieldAddr (.t 19) 0, none⟩,
 ⟨(some 21), .load (.t 20) 1 false, none⟩,
 ⟨(some 22), .call (.v (.func (.func 141) [] [])) [(.t 21)], none⟩,
 ⟨(some 23), .move (.t 0), none⟩,
 ⟨(some 24), .move (.t 4), none⟩,
 ⟨(some 25), .indexAddr (.t 23) (.t 24) 2, none⟩,
 ⟨(some 26), .fieldAddr (.t 25) 1, none⟩,
 ⟨(some 27), .load (.t 26) 1 false, none⟩,
 ⟨(some 28), .call (.v (.func (.func 145) [] [])) [(.t 27)], none⟩,
 ⟨(some 29), .bin false .other .add (.t 22) (.t 28), none⟩,
 ⟨(some 30), .bin false .other .add (.t 16) (.t 29), none⟩,
 ⟨(some 3), .move (.t 30), none⟩]))
  (.region [⟨(some 14), .move (.t 4), none⟩,
 ⟨(some 15), .bin true .other .add (.t 14) (.v (.lit (.int .i64 1))), none⟩,
 ⟨(some 4), .move (.t 15), none⟩]))))))
  (.seq (.region [⟨(some 31), .move (.t 3), none⟩,
 ⟨(some 2), .move (.t 31), none⟩])
  (.ret))))
theorem xf144 : xfunc Tryz.prog 144 = some ⟨xn144, xr144, xc144⟩ := by kernel_rfl
noncomputable def xn145 : Nat := 24
noncomputable def xr145 : List XRes := [.tmp 2]
noncomputable def xc145 : XCode := .seq (.region [⟨(some 2), .move (.v (.str [])), none⟩])
  (.seq (.region [⟨(some 5), .move (.t 0), none⟩,
 ⟨(some 6), .len .slice (.t 5), none⟩,
 ⟨(some 7), .conv (.int .u64) (.t 6), none⟩,
 ⟨(some 8), .call (.v (.func (.func 140) [] [])) [(.t 7)], none⟩,
 ⟨(some 9), .bin true .other .add (.t 8) (.v (.str [91])), none⟩,
 ⟨(some 3), .move (.t 9), none⟩])
  (.seq (.seq (.region [⟨(some 4), .move (.v (.lit (.int .i64 0))), none⟩])
  (.block 0 (.loop (.seq (.seq (.region [⟨(some 10), .move (.t 4), none⟩,
 ⟨(some 11), .move (.t 0), none⟩,
 ⟨(some 12), .len .slice (.t 11), none⟩,
 ⟨(some 13), .bin false .other .lss (.t 10) (.t 12), none⟩])
  (.cond (.t 13)
    (.skip)
    (.exit 0)))
  (.seq (.block 1 (.region [⟨(some 16), .move (.t 3), none⟩,
 ⟨(some 17), .move (.t 0), none⟩,
 ⟨(some 18), .move (.t 4), none⟩,
 ⟨(some 19), .indexAddr (.t 17) (.t 18) 1, none⟩,
 ⟨(some 20), .load (.t 19) 1 false, none⟩,
 ⟨(some 21), .call (.v (.func (.func 141) [] [])) [(.t 20)], none⟩,
 ⟨(some 22), .bin false .other .add (.t 16) (.t 21), none⟩,
 ⟨(some 3), .move (.t 22), none⟩]))
  (.region [⟨(some 14), .move (.t 4), none⟩,
 ⟨(some 15), .bin true .other .add (.t 14) (.v (.lit (.int .i64 1))), none⟩,
 ⟨(some 4), .move (.t 15), none⟩]))))))
  (.seq (.region [⟨(some 23), .move (.t 3), none⟩,
 ⟨(some 2), .move (.t 23), none⟩])
  (.ret))))
theorem xf145 : xfunc Tryz.prog 145 = some ⟨xn145, xr145, xc145⟩ := by kernel_rfl
end Go.AL
namespace Go.AL
open Go.Proofs
theorem word_a : isLit false ((xR0 20).call 195 [.str [97]] RH.empty) = true := by kernel_rfl
theorem word_d : isLit false ((xR0 20).call 195 [.str [100]] RH.empty) = true := by kernel_rfl
theorem word_x : isLit false ((xR0 20).call 195 [.str [120]] RH.empty) = true := by kernel_rfl
theorem word_goto : isLit true ((xR0 20).call 195 [.str [103, 111, 116, 111]] RH.empty) = true := by kernel_rfl
theorem word_let : isLit true ((xR0 20).call 195 [.str [108, 101, 116]] RH.empty) = true := by kernel_rfl
theorem word_opt : isLit false ((xR0 20).call 195 [.str [111, 112, 116]] RH.empty) = true := by kernel_rfl
theorem word_b0 : isLit false ((xR0 20).call 195 [.str [98, 48]] RH.empty) = true := by kernel_rfl
end Go.AL
namespace Go.AL
open Go.Proofs
theorem word_b : isLit false ((xR0 20).call 195 [.str [98]] RH.empty) = true := by kernel_rfl
theorem word_e : isLit false ((xR0 20).call 195 [.str [101]] RH.empty) = true := by kernel_rfl
theorem word_main : isLit false ((xR0 20).call 195 [.str [109, 97, 105, 110]] RH.empty) = true := by kernel_rfl
theorem word_if : isLit true ((xR0 20).call 195 [.str [105, 102]] RH.empty) = true := by kernel_rfl
theorem word_return : isLit true ((xR0 20).call 195 [.str [114, 101, 116, 117, 114, 110]] RH.empty) = true := by kernel_rfl
theorem word_pair : isLit false ((xR0 20).call 195 [.str [112, 97, 105, 114]] RH.empty) = true := by kernel_rfl
end Go.AL
namespace Go.AL
open Go.Proofs
theorem word_c : isLit false ((xR0 20).call 195 [.str [99]] RH.empty) = true := by kernel_rfl
theorem word_f : isLit false ((xR0 20).call 195 [.str [102]] RH.empty) = true := by kernel_rfl
theorem word_fn : isLit true ((xR0 20).call 195 [.str [102, 110]] RH.empty) = true := by kernel_rfl
theorem word_int : isLit true ((xR0 20).call 195 [.str [105, 110, 116]] RH.empty) = true := by kernel_rfl
theorem word_none : isLit false ((xR0 20).call 195 [.str [110, 111, 110, 101]] RH.empty) = true := by kernel_rfl
theorem word_some : isLit false ((xR0 20).call 195 [.str [115, 111, 109, 101]] RH.empty) = true := by kernel_rfl
end Go.AL
namespace Go.AL
open Go.Proofs
noncomputable def memol : List (List UInt8 × Bool) := [([97], false), ([98], false), ([99], false), ([100], false), ([101], false), ([102], false), ([120], false), ([109, 97, 105, 110], false), ([102, 110], true), ([103, 111, 116, 111], true), ([105, 102], true), ([105, 110, 116], true), ([108, 101, 116], true), ([114, 101, 116, 117, 114, 110], true), ([110, 111, 110, 101], false), ([111, 112, 116], false), ([112, 97, 105, 114], false), ([115, 111, 109, 101], false), ([98, 48], false)]
theorem flat1 {b : Bool} {l : List UInt8} (h : isLit b ((xR0 20).call 195 [.str l] RH.empty) = true) : ∀ h, ACall Tryz.prog 195 [.str l] h fun v' h' => v' = .lit (.bool b) ∧ h' = h := (reck_flat (xR0_ok 20) (fun v hv => by simp only [List.mem_cons, List.not_mem_nil, or_false] at hv; subst hv; exact .str _) h).2
theorem memol_ok : ∀ p ∈ memol, ∀ h, ACall Tryz.prog 195 [.str p.1] h fun v' h' => v' = .lit (.bool p.2) ∧ h' = h := by
  intro p hp
  simp only [memol, List.mem_cons, List.not_mem_nil, or_false] at hp
  rcases hp with rfl | rfl | rfl | rfl | rfl | rfl | rfl | rfl | rfl | rfl | rfl | rfl | rfl | rfl | rfl | rfl | rfl | rfl | rfl
  · exact flat1 word_a
  · exact flat1 word_b
  · exact flat1 word_c
  · exact flat1 word_d
  · exact flat1 word_e
  · exact flat1 word_f
  · exact flat1 word_x
  · exact flat1 word_main
  · exact flat1 word_fn
  · exact flat1 word_goto
  · exact flat1 word_if
  · exact flat1 word_int
  · exact flat1 word_let
  · exact flat1 word_return
  · exact flat1 word_none
  · exact flat1 word_opt
  · exact flat1 word_pair
  · exact flat1 word_some
  · exact flat1 word_b0
noncomputable def xR (k : Nat) : XRun := xrun Tryz.prog (xmemo1 195 memol) xtab.look (xext extl) 100000 k
theorem xR_ok (k : Nat) : (xR k).Ok Tryz.prog := xrun_ok mixed (xmemo1_ok (reck_flat (xR0_ok 20) (fun v hv => by simp only [List.mem_cons, List.not_mem_nil, or_false] at hv; subst hv; exact .str _) word_x).1 memol_ok) (fun _ _ => XTree.look_ok xtab_ok _ _) (xext_ok extl_ok) _ k
end Go.AL
namespace Go.AL
open Go.Proofs
theorem alive14 : isLit true ((xR 60).call 14 [] RH.empty) = true := by kernel_rfl
end Go.AL
