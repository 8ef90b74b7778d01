/- The program's functions in the engine's form, printed by program. -/
import Derived.Test.YtcajggnllnibpaaDoorEngC
namespace Go.Proofs.YtcajggnllnibpaaDoor
/-- gosem.cut.init -/
def x2 : XFunc := { ntmps := 1, results := [], body :=
  (.region none 0
    [.call (some 0) none (.con (.fn 1 [] [])) []]) }
/-- campanile/campanilelaw23.CanifOne -/
def x3 : XFunc := { ntmps := 170, results := [(.tmp 4)], body :=
  (.seq (.region none 2
    [.op (some 2) none (.box 0 5 (.tmp 0)),
     .op (some 3) none (.box 1 5 (.tmp 1)),
     .op (some 4) none (.mov (.con (.bool false)))])
  (.seq (.region (some [(1, 3), (1, 8), (3, 8), (1, 10), (3, 10), (8, 10), (8, 15), (10, 15)]) 0
    [.op (some 22) none (.fld 4 (.tmp 2)),
     .op (some 23) none (.load false 1 (.tmp 22)),
     .op (some 24) none (.fld 4 (.tmp 2)),
     .op (some 25) none (.load false 1 (.tmp 24)),
     .op (some 26) none (.len true (.tmp 25)),
     .op (some 27) none (.mm false [(.tmp 26), (.con (.int .i64 12))]),
     .op (some 28) none (.sls (.tmp 23) none (some (.tmp 27))),
     .op (some 29) none (.fld 4 (.tmp 3)),
     .op (some 30) none (.load false 1 (.tmp 29)),
     .op (some 31) none (.fld 4 (.tmp 3)),
     .op (some 32) none (.load false 1 (.tmp 31)),
     .op (some 33) none (.len true (.tmp 32)),
     .op (some 34) none (.mm false [(.tmp 33), (.con (.int .i64 12))]),
     .op (some 35) none (.sls (.tmp 30) none (some (.tmp 34))),
     .op (some 36) none (.fld 4 (.tmp 2)),
     .op none none (.store 1 (.tmp 36) (.tmp 28)),
     .op (some 37) none (.fld 4 (.tmp 3)),
     .op none none (.store 1 (.tmp 37) (.tmp 35))])
  (.seq (.seq (.region none 0
    [.op (some 38) none (.load true 5 (.tmp 2)),
     .call (some 39) none (.con (.fn 5 [] [])) [(.tmp 38)],
     .op (some 40) none (.not (.tmp 39)),
     .op (some 41) none (.mov (.tmp 40)),
     .op (some 42) (some (41, false)) (.load true 5 (.tmp 3)),
     .call (some 43) (some (41, false)) (.con (.fn 5 [] [])) [(.tmp 42)],
     .op (some 44) (some (41, false)) (.not (.tmp 43)),
     .op (some 45) none (.pick (.tmp 41) (.con (.bool true)) (.tmp 44))])
  (.cond (.tmp 45)
  (.seq (.region none 0
    [.call (some 46) none (.con (.fn 6 [] [])) [],
     .op (some 4) none (.mov (.tmp 46))])
  .ret)
  .skip))
  (.seq (.region none 1
    [.call (some 48) none (.con (.fn 7 [] [])) [(.con (.int .i64 4))],
     .op (some 47) none (.mov (.tmp 48)),
     .op (some 49) none (.ext (.tmp 47) 0),
     .op (some 50) none (.ext (.tmp 47) 1),
     .op (some 5) none (.new 0 [.nil, (.int .i64 0), (.int .i64 0), (.int .i64 0), (.bool false), (.int .i64 0), (.int .i64 0)]),
     .op none none (.store 7 (.tmp 5) (.tmp 49)),
     .op (some 6) none (.mov (.tmp 50))])
  (.seq (.region (some [(0, 1), (0, 7), (1, 7), (2, 7), (0, 8), (1, 8), (2, 8), (7, 8)]) 2
    [.op (some 52) none (.load true 7 (.tmp 5)),
     .call (some 53) none (.con (.fn 9 [] [])) [],
     .call (some 54) none (.con (.fn 8 [] [])) [(.tmp 52), (.tmp 53)],
     .op (some 51) none (.mov (.tmp 54)),
     .op (some 55) none (.ext (.tmp 51) 0),
     .op (some 56) none (.ext (.tmp 51) 1),
     .op (some 57) none (.ext (.tmp 51) 2),
     .op (some 7) none (.new 0 [.nil, (.int .i64 0), (.int .i64 0), (.int .i64 0), (.bool false), (.int .i64 0), (.int .i64 0)]),
     .op (some 8) none (.new 1 [(.int .i64 0), (.int .i64 0), (.bool false), (.int .i64 0), (.int .i64 0), (.int .i64 0), (.bool false), (.bool false), (.bool false), (.int .u32 0), (.bool false), (.bool false), (.int .i64 0), (.str []), (.bool false), (.str []), (.int .i64 0), (.int .u8 0), (.int .i64 0), (.str []), (.bool false), (.int .i64 0), (.bool false)]),
     .op none none (.store 7 (.tmp 7) (.tmp 55)),
     .op none none (.store 23 (.tmp 8) (.tmp 56)),
     .op (some 9) none (.mov (.tmp 57))])
  (.seq (.region none 0
    [.op (some 59) none (.load true 7 (.tmp 5)),
     .call (some 60) none (.con (.fn 10 [] [])) [(.tmp 59), (.con (.bool true))],
     .op (some 58) none (.mov (.tmp 60)),
     .op (some 61) none (.ext (.tmp 58) 0),
     .op (some 62) none (.ext (.tmp 58) 1),
     .op none none (.store 7 (.tmp 5) (.tmp 61)),
     .op (some 10) none (.mov (.tmp 62))])
  (.seq (.region none 0
    [.op (some 64) none (.load true 7 (.tmp 5)),
     .op (some 65) none (.load true 5 (.tmp 2)),
     .call (some 66) none (.con (.fn 11 [] [])) [(.tmp 64), (.con (.int .i64 1)), (.tmp 65)],
     .op (some 63) none (.mov (.tmp 66)),
     .op (some 67) none (.ext (.tmp 63) 0),
     .op (some 68) none (.ext (.tmp 63) 1),
     .op none none (.store 7 (.tmp 5) (.tmp 67)),
     .op (some 11) none (.mov (.tmp 68))])
  (.seq (.region none 0
    [.op (some 70) none (.load true 7 (.tmp 5)),
     .op (some 71) none (.load true 5 (.tmp 3)),
     .call (some 72) none (.con (.fn 11 [] [])) [(.tmp 70), (.con (.int .i64 2)), (.tmp 71)],
     .op (some 69) none (.mov (.tmp 72)),
     .op (some 73) none (.ext (.tmp 69) 0),
     .op (some 74) none (.ext (.tmp 69) 1),
     .op none none (.store 7 (.tmp 5) (.tmp 73)),
     .op (some 12) none (.mov (.tmp 74))])
  (.seq (.region (some [(0, 1), (0, 7), (1, 7), (2, 7), (0, 8), (1, 8), (2, 8), (7, 8)]) 2
    [.op (some 76) none (.load true 7 (.tmp 5)),
     .call (some 77) none (.con (.fn 9 [] [])) [],
     .call (some 78) none (.con (.fn 8 [] [])) [(.tmp 76), (.tmp 77)],
     .op (some 75) none (.mov (.tmp 78)),
     .op (some 79) none (.ext (.tmp 75) 0),
     .op (some 80) none (.ext (.tmp 75) 1),
     .op (some 81) none (.ext (.tmp 75) 2),
     .op (some 13) none (.new 0 [.nil, (.int .i64 0), (.int .i64 0), (.int .i64 0), (.bool false), (.int .i64 0), (.int .i64 0)]),
     .op (some 14) none (.new 1 [(.int .i64 0), (.int .i64 0), (.bool false), (.int .i64 0), (.int .i64 0), (.int .i64 0), (.bool false), (.bool false), (.bool false), (.int .u32 0), (.bool false), (.bool false), (.int .i64 0), (.str []), (.bool false), (.str []), (.int .i64 0), (.int .u8 0), (.int .i64 0), (.str []), (.bool false), (.int .i64 0), (.bool false)]),
     .op none none (.store 7 (.tmp 13) (.tmp 79)),
     .op none none (.store 23 (.tmp 14) (.tmp 80)),
     .op (some 15) none (.mov (.tmp 81))])
  (.seq (.region none 2
    [.op (some 83) none (.load true 7 (.tmp 13)),
     .op (some 84) none (.load true 23 (.tmp 14)),
     .call (some 85) none (.con (.fn 8 [] [])) [(.tmp 83), (.tmp 84)],
     .op (some 82) none (.mov (.tmp 85)),
     .op (some 86) none (.ext (.tmp 82) 0),
     .op (some 87) none (.ext (.tmp 82) 1),
     .op (some 88) none (.ext (.tmp 82) 2),
     .op (some 16) none (.new 0 [.nil, (.int .i64 0), (.int .i64 0), (.int .i64 0), (.bool false), (.int .i64 0), (.int .i64 0)]),
     .op (some 17) none (.new 1 [(.int .i64 0), (.int .i64 0), (.bool false), (.int .i64 0), (.int .i64 0), (.int .i64 0), (.bool false), (.bool false), (.bool false), (.int .u32 0), (.bool false), (.bool false), (.int .i64 0), (.str []), (.bool false), (.str []), (.int .i64 0), (.int .u8 0), (.int .i64 0), (.str []), (.bool false), (.int .i64 0), (.bool false)]),
     .op none none (.store 7 (.tmp 16) (.tmp 86)),
     .op none none (.store 23 (.tmp 17) (.tmp 87)),
     .op (some 18) none (.mov (.tmp 88))])
  (.seq (.region (some [(0, 1), (0, 7), (1, 7), (2, 7), (0, 8), (1, 8), (2, 8), (7, 8)]) 2
    [.op (some 90) none (.load true 7 (.tmp 13)),
     .call (some 91) none (.con (.fn 9 [] [])) [],
     .call (some 92) none (.con (.fn 8 [] [])) [(.tmp 90), (.tmp 91)],
     .op (some 89) none (.mov (.tmp 92)),
     .op (some 93) none (.ext (.tmp 89) 0),
     .op (some 94) none (.ext (.tmp 89) 1),
     .op (some 95) none (.ext (.tmp 89) 2),
     .op (some 19) none (.new 0 [.nil, (.int .i64 0), (.int .i64 0), (.int .i64 0), (.bool false), (.int .i64 0), (.int .i64 0)]),
     .op (some 20) none (.new 1 [(.int .i64 0), (.int .i64 0), (.bool false), (.int .i64 0), (.int .i64 0), (.int .i64 0), (.bool false), (.bool false), (.bool false), (.int .u32 0), (.bool false), (.bool false), (.int .i64 0), (.str []), (.bool false), (.str []), (.int .i64 0), (.int .u8 0), (.int .i64 0), (.str []), (.bool false), (.int .i64 0), (.bool false)]),
     .op none none (.store 7 (.tmp 19) (.tmp 93)),
     .op none none (.store 23 (.tmp 20) (.tmp 94)),
     .op (some 21) none (.mov (.tmp 95))])
  (.seq (.seq (.region none 0
    [.op (some 96) none (.mov (.tmp 6)),
     .op (some 97) none (.bin .neq (.tmp 96) (.con (.int .i64 0))),
     .op (some 98) none (.mov (.tmp 97)),
     .op (some 99) (some (98, false)) (.mov (.tmp 9)),
     .op (some 100) (some (98, false)) (.bin .neq (.tmp 99) (.con (.int .i64 0))),
     .op (some 101) none (.pick (.tmp 98) (.con (.bool true)) (.tmp 100)),
     .op (some 102) none (.mov (.tmp 101)),
     .op (some 103) (some (102, false)) (.mov (.tmp 10)),
     .op (some 104) (some (102, false)) (.bin .neq (.tmp 103) (.con (.int .i64 0))),
     .op (some 105) none (.pick (.tmp 102) (.con (.bool true)) (.tmp 104)),
     .op (some 106) none (.mov (.tmp 105)),
     .op (some 107) (some (106, false)) (.mov (.tmp 11)),
     .op (some 108) (some (106, false)) (.bin .neq (.tmp 107) (.con (.int .i64 0))),
     .op (some 109) none (.pick (.tmp 106) (.con (.bool true)) (.tmp 108)),
     .op (some 110) none (.mov (.tmp 109)),
     .op (some 111) (some (110, false)) (.mov (.tmp 12)),
     .op (some 112) (some (110, false)) (.bin .neq (.tmp 111) (.con (.int .i64 0))),
     .op (some 113) none (.pick (.tmp 110) (.con (.bool true)) (.tmp 112)),
     .op (some 114) none (.mov (.tmp 113)),
     .op (some 115) (some (114, false)) (.mov (.tmp 15)),
     .op (some 116) (some (114, false)) (.bin .neq (.tmp 115) (.con (.int .i64 0))),
     .op (some 117) none (.pick (.tmp 114) (.con (.bool true)) (.tmp 116)),
     .op (some 118) none (.mov (.tmp 117)),
     .op (some 119) (some (118, false)) (.mov (.tmp 18)),
     .op (some 120) (some (118, false)) (.bin .neq (.tmp 119) (.con (.int .i64 0))),
     .op (some 121) none (.pick (.tmp 118) (.con (.bool true)) (.tmp 120)),
     .op (some 122) none (.mov (.tmp 121)),
     .op (some 123) (some (122, false)) (.mov (.tmp 21)),
     .op (some 124) (some (122, false)) (.bin .neq (.tmp 123) (.con (.int .i64 0))),
     .op (some 125) none (.pick (.tmp 122) (.con (.bool true)) (.tmp 124)),
     .op (some 126) none (.mov (.tmp 125)),
     .call (some 127) (some (126, false)) (.con (.fn 6 [] [])) [],
     .op (some 128) (some (126, false)) (.not (.tmp 127)),
     .op (some 129) none (.pick (.tmp 126) (.con (.bool true)) (.tmp 128))])
  (.cond (.tmp 129)
  (.seq (.region none 0
    [.op (some 4) none (.mov (.con (.bool false)))])
  .ret)
  .skip))
  (.seq (.region none 0
    [.op (some 130) none (.load true 7 (.tmp 7)),
     .op (some 131) none (.build [.nil, (.int .i64 0), (.int .i64 0)] [(2, 1, (.con (.int .i64 4)))]),
     .op (some 132) none (.build [.nil, (.int .i64 0), (.int .i64 0), (.int .i64 0), (.bool false), (.int .i64 0), (.int .i64 0)] [(0, 3, (.tmp 131)), (3, 1, (.con (.int .i64 (-1))))]),
     .call (some 133) none (.con (.fn 12 [] [])) [(.tmp 130), (.tmp 132)],
     .op (some 134) none (.mov (.tmp 133)),
     .op (some 135) (some (134, true)) (.fld 8 (.tmp 8)),
     .op (some 136) (some (134, true)) (.load false 1 (.tmp 135)),
     .op (some 137) (some (134, true)) (.not (.tmp 136)),
     .op (some 138) none (.pick (.tmp 134) (.tmp 137) (.con (.bool false))),
     .op (some 139) none (.mov (.tmp 138)),
     .op (some 140) (some (139, true)) (.fld 8 (.tmp 14)),
     .op (some 141) (some (139, true)) (.load false 1 (.tmp 140)),
     .op (some 142) none (.pick (.tmp 139) (.tmp 141) (.con (.bool false))),
     .op (some 143) none (.mov (.tmp 142)),
     .op (some 144) (some (143, true)) (.fld 0 (.tmp 13)),
     .op (some 145) (some (143, true)) (.fld 0 (.tmp 144)),
     .op (some 146) (some (143, true)) (.load false 1 (.tmp 145)),
     .op (some 147) (some (143, true)) (.len false (.tmp 146)),
     .op (some 148) (some (143, true)) (.bin .eql (.tmp 147) (.con (.int .i64 1))),
     .op (some 149) none (.pick (.tmp 143) (.tmp 148) (.con (.bool false))),
     .op (some 150) none (.mov (.tmp 149)),
     .op (some 151) (some (150, true)) (.load true 7 (.tmp 16)),
     .op (some 152) (some (150, true)) (.load true 7 (.tmp 13)),
     .call (some 153) (some (150, true)) (.con (.fn 12 [] [])) [(.tmp 151), (.tmp 152)],
     .op (some 154) none (.pick (.tmp 150) (.tmp 153) (.con (.bool false))),
     .op (some 155) none (.mov (.tmp 154)),
     .op (some 156) (some (155, true)) (.load true 23 (.tmp 17)),
     .op (some 157) (some (155, true)) (.load true 23 (.tmp 14)),
     .op (some 158) (some (155, true)) (.eqp false true [(.int .i64), (.int .i64), .bool, (.int .i64), (.int .i64), (.int .i64), .bool, .bool, .bool, (.int .u32), .bool, .bool, (.int .i64), .str, .bool, .str, (.int .i64), (.int .u8), (.int .i64), .str, .bool, (.int .i64), .bool] (.tmp 156) (.tmp 157)),
     .op (some 159) none (.pick (.tmp 155) (.tmp 158) (.con (.bool false))),
     .op (some 160) none (.mov (.tmp 159)),
     .op (some 161) (some (160, true)) (.load true 7 (.tmp 19)),
     .op (some 162) (some (160, true)) (.load true 7 (.tmp 13)),
     .call (some 163) (some (160, true)) (.con (.fn 12 [] [])) [(.tmp 161), (.tmp 162)],
     .op (some 164) none (.pick (.tmp 160) (.tmp 163) (.con (.bool false))),
     .op (some 165) none (.mov (.tmp 164)),
     .op (some 166) (some (165, true)) (.fld 8 (.tmp 20)),
     .op (some 167) (some (165, true)) (.load false 1 (.tmp 166)),
     .op (some 168) (some (165, true)) (.not (.tmp 167)),
     .op (some 169) none (.pick (.tmp 165) (.tmp 168) (.con (.bool false))),
     .op (some 4) none (.mov (.tmp 169))])
  .ret))))))))))))) }
/-- campanile/campanileref04.Right -/
def x5 : XFunc := { ntmps := 41, results := [(.tmp 2)], body :=
  (.seq (.region none 1
    [.op (some 1) none (.box 0 5 (.tmp 0)),
     .op (some 2) none (.mov (.con (.bool false)))])
  (.seq (.seq (.region none 0
    [.op (some 3) none (.fld 3 (.tmp 1)),
     .op (some 4) none (.load false 1 (.tmp 3)),
     .op (some 5) none (.bin .lss (.tmp 4) (.con (.int .i64 0))),
     .op (some 6) none (.mov (.tmp 5)),
     .op (some 7) (some (6, false)) (.fld 3 (.tmp 1)),
     .op (some 8) (some (6, false)) (.load false 1 (.tmp 7)),
     .op (some 9) (some (6, false)) (.bin .gtr (.tmp 8) (.con (.int .i64 8))),
     .op (some 10) none (.pick (.tmp 6) (.con (.bool true)) (.tmp 9)),
     .op (some 11) none (.mov (.tmp 10)),
     .op (some 12) (some (11, false)) (.fld 2 (.tmp 1)),
     .op (some 13) (some (11, false)) (.load false 1 (.tmp 12)),
     .op (some 14) (some (11, false)) (.mov (.tmp 13)),
     .op (some 15) (some (14, true)) (.fld 4 (.tmp 1)),
     .op (some 16) (some (14, true)) (.load false 1 (.tmp 15)),
     .op (some 17) (some (14, true)) (.bin .neq (.tmp 16) (.con (.str []))),
     .op (some 18) (some (11, false)) (.pick (.tmp 14) (.tmp 17) (.con (.bool false))),
     .op (some 19) none (.pick (.tmp 11) (.con (.bool true)) (.tmp 18)),
     .op (some 20) none (.mov (.tmp 19)),
     .op (some 21) (some (20, false)) (.fld 2 (.tmp 1)),
     .op (some 22) (some (20, false)) (.load false 1 (.tmp 21)),
     .op (some 23) (some (20, false)) (.not (.tmp 22)),
     .op (some 24) (some (20, false)) (.mov (.tmp 23)),
     .op (some 25) (some (24, true)) (.fld 4 (.tmp 1)),
     .op (some 26) (some (24, true)) (.load false 1 (.tmp 25)),
     .op (some 27) (some (24, true)) (.len true (.tmp 26)),
     .op (some 28) (some (24, true)) (.fld 3 (.tmp 1)),
     .op (some 29) (some (24, true)) (.load false 1 (.tmp 28)),
     .op (some 30) (some (24, true)) (.bin .neq (.tmp 27) (.tmp 29)),
     .op (some 31) (some (20, false)) (.pick (.tmp 24) (.tmp 30) (.con (.bool false))),
     .op (some 32) none (.pick (.tmp 20) (.con (.bool true)) (.tmp 31))])
  (.cond (.tmp 32)
  (.seq (.region none 0
    [.op (some 2) none (.mov (.con (.bool false)))])
  .ret)
  .skip))
  (.seq (.seq (.region none 0
    [.op (some 33) none (.fld 1 (.tmp 1)),
     .op (some 34) none (.load false 1 (.tmp 33))])
  (.cond (.tmp 34)
  (.seq (.region none 0
    [.op (some 35) none (.fld 0 (.tmp 1)),
     .op (some 36) none (.load false 1 (.tmp 35)),
     .op (some 37) none (.bin .lss (.tmp 36) (.con (.int .u32 536870912))),
     .op (some 2) none (.mov (.tmp 37))])
  .ret)
  .skip))
  (.seq (.region none 0
    [.op (some 38) none (.fld 0 (.tmp 1)),
     .op (some 39) none (.load false 1 (.tmp 38)),
     .op (some 40) none (.bin .lss (.tmp 39) (.con (.int .u32 2048))),
     .op (some 2) none (.mov (.tmp 40))])
  .ret)))) }
/-- campanile/campanilelaw23.alive -/
def x6 : XFunc := { ntmps := 58, results := [(.tmp 0)], body :=
  (.seq (.region none 0
    [.op (some 0) none (.mov (.con (.bool false)))])
  (.seq (.region none 1
    [.call (some 8) none (.con (.fn 7 [] [])) [(.con (.int .i64 2))],
     .op (some 7) none (.mov (.tmp 8)),
     .op (some 9) none (.ext (.tmp 7) 0),
     .op (some 10) none (.ext (.tmp 7) 1),
     .op (some 1) none (.new 0 [.nil, (.int .i64 0), (.int .i64 0), (.int .i64 0), (.bool false), (.int .i64 0), (.int .i64 0)]),
     .op none none (.store 7 (.tmp 1) (.tmp 9)),
     .op (some 2) none (.mov (.tmp 10))])
  (.seq (.region none 0
    [.op (some 12) none (.load true 7 (.tmp 1)),
     .call (some 13) none (.con (.fn 10 [] [])) [(.tmp 12), (.con (.bool true))],
     .op (some 11) none (.mov (.tmp 13)),
     .op (some 14) none (.ext (.tmp 11) 0),
     .op (some 15) none (.ext (.tmp 11) 1),
     .op none none (.store 7 (.tmp 1) (.tmp 14)),
     .op (some 3) none (.mov (.tmp 15))])
  (.seq (.region none 0
    [.op (some 17) none (.load true 7 (.tmp 1)),
     .op (some 18) none (.build [(.int .u32 0), (.bool false), (.bool false), (.int .i64 0), (.str [])] [(0, 1, (.con (.int .u32 5)))]),
     .call (some 19) none (.con (.fn 11 [] [])) [(.tmp 17), (.con (.int .i64 7)), (.tmp 18)],
     .op (some 16) none (.mov (.tmp 19)),
     .op (some 20) none (.ext (.tmp 16) 0),
     .op (some 21) none (.ext (.tmp 16) 1),
     .op none none (.store 7 (.tmp 1) (.tmp 20)),
     .op (some 4) none (.mov (.tmp 21))])
  (.seq (.region (some [(0, 1), (0, 7), (1, 7), (2, 7)]) 1
    [.op (some 23) none (.load true 7 (.tmp 1)),
     .call (some 24) none (.con (.fn 9 [] [])) [],
     .call (some 25) none (.con (.fn 8 [] [])) [(.tmp 23), (.tmp 24)],
     .op (some 22) none (.mov (.tmp 25)),
     .op (some 26) none (.ext (.tmp 22) 0),
     .op (some 27) none (.ext (.tmp 22) 1),
     .op (some 28) none (.ext (.tmp 22) 2),
     .op (some 5) none (.new 0 [(.int .i64 0), (.int .i64 0), (.bool false), (.int .i64 0), (.int .i64 0), (.int .i64 0), (.bool false), (.bool false), (.bool false), (.int .u32 0), (.bool false), (.bool false), (.int .i64 0), (.str []), (.bool false), (.str []), (.int .i64 0), (.int .u8 0), (.int .i64 0), (.str []), (.bool false), (.int .i64 0), (.bool false)]),
     .op none none (.store 7 (.tmp 1) (.tmp 26)),
     .op none none (.store 23 (.tmp 5) (.tmp 27)),
     .op (some 6) none (.mov (.tmp 28))])
  (.seq (.region none 0
    [.op (some 29) none (.mov (.tmp 2)),
     .op (some 30) none (.bin .eql (.tmp 29) (.con (.int .i64 0))),
     .op (some 31) none (.mov (.tmp 30)),
     .op (some 32) (some (31, true)) (.mov (.tmp 3)),
     .op (some 33) (some (31, true)) (.bin .eql (.tmp 32) (.con (.int .i64 0))),
     .op (some 34) none (.pick (.tmp 31) (.tmp 33) (.con (.bool false))),
     .op (some 35) none (.mov (.tmp 34)),
     .op (some 36) (some (35, true)) (.mov (.tmp 4)),
     .op (some 37) (some (35, true)) (.bin .eql (.tmp 36) (.con (.int .i64 0))),
     .op (some 38) none (.pick (.tmp 35) (.tmp 37) (.con (.bool false))),
     .op (some 39) none (.mov (.tmp 38)),
     .op (some 40) (some (39, true)) (.mov (.tmp 6)),
     .op (some 41) (some (39, true)) (.bin .eql (.tmp 40) (.con (.int .i64 0))),
     .op (some 42) none (.pick (.tmp 39) (.tmp 41) (.con (.bool false))),
     .op (some 43) none (.mov (.tmp 42)),
     .op (some 44) (some (43, true)) (.fld 3 (.tmp 1)),
     .op (some 45) (some (43, true)) (.load false 1 (.tmp 44)),
     .op (some 46) (some (43, true)) (.bin .eql (.tmp 45) (.con (.int .i64 7))),
     .op (some 47) none (.pick (.tmp 43) (.tmp 46) (.con (.bool false))),
     .op (some 48) none (.mov (.tmp 47)),
     .op (some 49) (some (48, true)) (.fld 8 (.tmp 5)),
     .op (some 50) (some (48, true)) (.load false 1 (.tmp 49)),
     .op (some 51) none (.pick (.tmp 48) (.tmp 50) (.con (.bool false))),
     .op (some 52) none (.mov (.tmp 51)),
     .op (some 53) (some (52, true)) (.fld 9 (.tmp 5)),
     .op (some 54) (some (52, true)) (.fld 0 (.tmp 53)),
     .op (some 55) (some (52, true)) (.load false 1 (.tmp 54)),
     .op (some 56) (some (52, true)) (.bin .eql (.tmp 55) (.con (.int .u32 5))),
     .op (some 57) none (.pick (.tmp 52) (.tmp 56) (.con (.bool false))),
     .op (some 0) none (.mov (.tmp 57))])
  .ret)))))) }
/-- campanile/canif.New -/
def x7 : XFunc := { ntmps := 17, results := [(.cell 2 true 7), (.tmp 3)], body :=
  (.seq (.region none 1
    [.op (some 2) none (.new 0 [.nil, (.int .i64 0), (.int .i64 0), (.int .i64 0), (.bool false), (.int .i64 0), (.int .i64 0)]),
     .op (some 3) none (.mov (.con (.int .i64 0)))])
  (.seq (.region none 1
    [.op (some 7) none (.mov (.tmp 0)),
     .call (some 8) none (.con (.fn 15 [] [])) [(.tmp 7)],
     .op (some 6) none (.mov (.tmp 8)),
     .op (some 9) none (.ext (.tmp 6) 0),
     .op (some 10) none (.ext (.tmp 6) 1),
     .op (some 4) none (.new 0 [.nil, (.int .i64 0), (.int .i64 0)]),
     .op none none (.store 3 (.tmp 4) (.tmp 9)),
     .op (some 5) none (.mov (.tmp 10))])
  (.seq (.seq (.region none 0
    [.op (some 11) none (.mov (.tmp 5)),
     .op (some 12) none (.bin .neq (.tmp 11) (.con (.int .i64 0)))])
  (.cond (.tmp 12)
  (.seq (.region none 0
    [.op (some 13) none (.build [.nil, (.int .i64 0), (.int .i64 0), (.int .i64 0), (.bool false), (.int .i64 0), (.int .i64 0)] []),
     .op (some 14) none (.mov (.tmp 5)),
     .op none none (.store 7 (.tmp 2) (.tmp 13)),
     .op (some 3) none (.mov (.tmp 14))])
  .ret)
  .skip))
  (.seq (.region none 0
    [.op (some 15) none (.load true 3 (.tmp 4)),
     .op (some 16) none (.build [.nil, (.int .i64 0), (.int .i64 0), (.int .i64 0), (.bool false), (.int .i64 0), (.int .i64 0)] [(0, 3, (.tmp 15)), (3, 1, (.con (.int .i64 (-1))))]),
     .op none none (.store 7 (.tmp 2) (.tmp 16)),
     .op (some 3) none (.mov (.con (.int .i64 0)))])
  .ret)))) }
/-- campanile/canif.Next -/
def x8 : XFunc := { ntmps := 21, results := [(.cell 4 true 7), (.cell 5 true 23), (.tmp 6)], body :=
  (.seq (.region none 4
    [.op (some 2) none (.box 0 7 (.tmp 0)),
     .op (some 3) none (.box 1 23 (.tmp 1)),
     .op (some 4) none (.new 2 [.nil, (.int .i64 0), (.int .i64 0), (.int .i64 0), (.bool false), (.int .i64 0), (.int .i64 0)]),
     .op (some 5) none (.new 3 [(.int .i64 0), (.int .i64 0), (.bool false), (.int .i64 0), (.int .i64 0), (.int .i64 0), (.bool false), (.bool false), (.bool false), (.int .u32 0), (.bool false), (.bool false), (.int .i64 0), (.str []), (.bool false), (.str []), (.int .i64 0), (.int .u8 0), (.int .i64 0), (.str []), (.bool false), (.int .i64 0), (.bool false)]),
     .op (some 6) none (.mov (.con (.int .i64 0)))])
  (.seq (.region none 0
    [.op (some 9) none (.load true 7 (.tmp 2)),
     .op (some 10) none (.mkf 17 [] [(.tmp 3)]),
     .call (some 11) none (.con (.fn 16 [] [])) [(.tmp 9), (.tmp 10)],
     .op (some 8) none (.mov (.tmp 11)),
     .op (some 12) none (.ext (.tmp 8) 0),
     .op (some 13) none (.ext (.tmp 8) 1),
     .op none none (.store 7 (.tmp 2) (.tmp 12)),
     .op (some 7) none (.mov (.tmp 13))])
  (.seq (.seq (.region none 0
    [.op (some 14) none (.mov (.tmp 7)),
     .op (some 15) none (.bin .neq (.tmp 14) (.con (.int .i64 0)))])
  (.cond (.tmp 15)
  (.seq (.region none 0
    [.op (some 16) none (.build [.nil, (.int .i64 0), (.int .i64 0), (.int .i64 0), (.bool false), (.int .i64 0), (.int .i64 0)] []),
     .op (some 17) none (.build [(.int .i64 0), (.int .i64 0), (.bool false), (.int .i64 0), (.int .i64 0), (.int .i64 0), (.bool false), (.bool false), (.bool false), (.int .u32 0), (.bool false), (.bool false), (.int .i64 0), (.str []), (.bool false), (.str []), (.int .i64 0), (.int .u8 0), (.int .i64 0), (.str []), (.bool false), (.int .i64 0), (.bool false)] []),
     .op (some 18) none (.mov (.tmp 7)),
     .op none none (.store 7 (.tmp 4) (.tmp 16)),
     .op none none (.store 23 (.tmp 5) (.tmp 17)),
     .op (some 6) none (.mov (.tmp 18))])
  .ret)
  .skip))
  (.seq (.region (some [(0, 1), (1, 2)]) 0
    [.op (some 19) none (.load true 7 (.tmp 2)),
     .op (some 20) none (.load true 23 (.tmp 3)),
     .op none none (.store 7 (.tmp 4) (.tmp 19)),
     .op none none (.store 23 (.tmp 5) (.tmp 20)),
     .op (some 6) none (.mov (.con (.int .i64 0)))])
  .ret)))) }
/-- campanile/ctl.New -/
def x9 : XFunc := { ntmps := 2, results := [(.cell 0 true 23)], body :=
  (.seq (.region none 1
    [.op (some 0) none (.new 0 [(.int .i64 0), (.int .i64 0), (.bool false), (.int .i64 0), (.int .i64 0), (.int .i64 0), (.bool false), (.bool false), (.bool false), (.int .u32 0), (.bool false), (.bool false), (.int .i64 0), (.str []), (.bool false), (.str []), (.int .i64 0), (.int .u8 0), (.int .i64 0), (.str []), (.bool false), (.int .i64 0), (.bool false)])])
  (.seq (.region none 0
    [.op (some 1) none (.build [(.int .i64 0), (.int .i64 0), (.bool false), (.int .i64 0), (.int .i64 0), (.int .i64 0), (.bool false), (.bool false), (.bool false), (.int .u32 0), (.bool false), (.bool false), (.int .i64 0), (.str []), (.bool false), (.str []), (.int .i64 0), (.int .u8 0), (.int .i64 0), (.str []), (.bool false), (.int .i64 0), (.bool false)] []),
     .op none none (.store 23 (.tmp 0) (.tmp 1))])
  .ret)) }
/-- campanile/canif.Go -/
def x10 : XFunc := { ntmps := 11, results := [(.cell 4 true 7), (.tmp 5)], body :=
  (.seq (.region none 3
    [.op (some 2) none (.box 0 7 (.tmp 0)),
     .op (some 3) none (.box 1 1 (.tmp 1)),
     .op (some 4) none (.new 2 [.nil, (.int .i64 0), (.int .i64 0), (.int .i64 0), (.bool false), (.int .i64 0), (.int .i64 0)]),
     .op (some 5) none (.mov (.con (.int .i64 0)))])
  (.seq (.region none 0
    [.op (some 6) none (.load true 7 (.tmp 2)),
     .op (some 7) none (.mkf 21 [] [(.tmp 3)]),
     .call (some 8) none (.con (.fn 16 [] [])) [(.tmp 6), (.tmp 7)],
     .op (some 9) none (.ext (.tmp 8) 0),
     .op (some 10) none (.ext (.tmp 8) 1),
     .op none none (.store 7 (.tmp 4) (.tmp 9)),
     .op (some 5) none (.mov (.tmp 10))])
  .ret)) }
/-- campanile/canif.Send -/
def x11 : XFunc := { ntmps := 13, results := [(.cell 6 true 7), (.tmp 7)], body :=
  (.seq (.region none 4
    [.op (some 3) none (.box 0 7 (.tmp 0)),
     .op (some 4) none (.box 1 1 (.tmp 1)),
     .op (some 5) none (.box 2 5 (.tmp 2)),
     .op (some 6) none (.new 3 [.nil, (.int .i64 0), (.int .i64 0), (.int .i64 0), (.bool false), (.int .i64 0), (.int .i64 0)]),
     .op (some 7) none (.mov (.con (.int .i64 0)))])
  (.seq (.region none 0
    [.op (some 8) none (.load true 7 (.tmp 3)),
     .op (some 9) none (.mkf 22 [] [(.tmp 4), (.tmp 5)]),
     .call (some 10) none (.con (.fn 16 [] [])) [(.tmp 8), (.tmp 9)],
     .op (some 11) none (.ext (.tmp 10) 0),
     .op (some 12) none (.ext (.tmp 10) 1),
     .op none none (.store 7 (.tmp 6) (.tmp 11)),
     .op (some 7) none (.mov (.tmp 12))])
  .ret)) }
/-- campanile/campanilelaw23.like -/
def x12 : XFunc := { ntmps := 60, results := [(.tmp 4)], body :=
  (.seq (.region none 2
    [.op (some 2) none (.box 0 7 (.tmp 0)),
     .op (some 3) none (.box 1 7 (.tmp 1)),
     .op (some 4) none (.mov (.con (.bool false)))])
  (.seq (.region (some [(2, 6), (3, 6), (12, 15), (21, 24), (29, 31), (36, 38), (43, 45), (50, 52)]) 0
    [.op (some 5) none (.fld 0 (.tmp 2)),
     .op (some 6) none (.fld 0 (.tmp 5)),
     .op (some 7) none (.load false 1 (.tmp 6)),
     .call (some 8) none (.con (.fn 25 [] [])) [(.tmp 7)],
     .op (some 9) none (.fld 0 (.tmp 3)),
     .op (some 10) none (.fld 0 (.tmp 9)),
     .op (some 11) none (.load false 1 (.tmp 10)),
     .call (some 12) none (.con (.fn 25 [] [])) [(.tmp 11)],
     .call (some 13) none (.con (.fn 24 [] [])) [(.tmp 8), (.tmp 12)],
     .op (some 14) none (.mov (.tmp 13)),
     .op (some 15) (some (14, true)) (.fld 0 (.tmp 2)),
     .op (some 16) (some (14, true)) (.fld 1 (.tmp 15)),
     .op (some 17) (some (14, true)) (.load false 1 (.tmp 16)),
     .op (some 18) (some (14, true)) (.fld 0 (.tmp 3)),
     .op (some 19) (some (14, true)) (.fld 1 (.tmp 18)),
     .op (some 20) (some (14, true)) (.load false 1 (.tmp 19)),
     .op (some 21) (some (14, true)) (.bin .eql (.tmp 17) (.tmp 20)),
     .op (some 22) none (.pick (.tmp 14) (.tmp 21) (.con (.bool false))),
     .op (some 23) none (.mov (.tmp 22)),
     .op (some 24) (some (23, true)) (.fld 0 (.tmp 2)),
     .op (some 25) (some (23, true)) (.fld 2 (.tmp 24)),
     .op (some 26) (some (23, true)) (.load false 1 (.tmp 25)),
     .op (some 27) (some (23, true)) (.fld 0 (.tmp 3)),
     .op (some 28) (some (23, true)) (.fld 2 (.tmp 27)),
     .op (some 29) (some (23, true)) (.load false 1 (.tmp 28)),
     .op (some 30) (some (23, true)) (.bin .eql (.tmp 26) (.tmp 29)),
     .op (some 31) none (.pick (.tmp 23) (.tmp 30) (.con (.bool false))),
     .op (some 32) none (.mov (.tmp 31)),
     .op (some 33) (some (32, true)) (.fld 3 (.tmp 2)),
     .op (some 34) (some (32, true)) (.load false 1 (.tmp 33)),
     .op (some 35) (some (32, true)) (.fld 3 (.tmp 3)),
     .op (some 36) (some (32, true)) (.load false 1 (.tmp 35)),
     .op (some 37) (some (32, true)) (.bin .eql (.tmp 34) (.tmp 36)),
     .op (some 38) none (.pick (.tmp 32) (.tmp 37) (.con (.bool false))),
     .op (some 39) none (.mov (.tmp 38)),
     .op (some 40) (some (39, true)) (.fld 4 (.tmp 2)),
     .op (some 41) (some (39, true)) (.load false 1 (.tmp 40)),
     .op (some 42) (some (39, true)) (.fld 4 (.tmp 3)),
     .op (some 43) (some (39, true)) (.load false 1 (.tmp 42)),
     .op (some 44) (some (39, true)) (.eqp false false [.bool] (.tmp 41) (.tmp 43)),
     .op (some 45) none (.pick (.tmp 39) (.tmp 44) (.con (.bool false))),
     .op (some 46) none (.mov (.tmp 45)),
     .op (some 47) (some (46, true)) (.fld 5 (.tmp 2)),
     .op (some 48) (some (46, true)) (.load false 1 (.tmp 47)),
     .op (some 49) (some (46, true)) (.fld 5 (.tmp 3)),
     .op (some 50) (some (46, true)) (.load false 1 (.tmp 49)),
     .op (some 51) (some (46, true)) (.bin .eql (.tmp 48) (.tmp 50)),
     .op (some 52) none (.pick (.tmp 46) (.tmp 51) (.con (.bool false))),
     .op (some 53) none (.mov (.tmp 52)),
     .op (some 54) (some (53, true)) (.fld 6 (.tmp 2)),
     .op (some 55) (some (53, true)) (.load false 1 (.tmp 54)),
     .op (some 56) (some (53, true)) (.fld 6 (.tmp 3)),
     .op (some 57) (some (53, true)) (.load false 1 (.tmp 56)),
     .op (some 58) (some (53, true)) (.bin .eql (.tmp 55) (.tmp 57)),
     .op (some 59) none (.pick (.tmp 53) (.tmp 58) (.con (.bool false))),
     .op (some 4) none (.mov (.tmp 59))])
  .ret)) }
/-- campanile/campanileref05.Order -/
def x13l0 : XCode := (.seq (.region none 0
    [.op (some 19) none (.bin .lss (.tmp 18) (.tmp 17))])
  (.seq (.cond (.tmp 19)
  .skip
  (.exit 2))
  (.seq (.block 3 (.seq (.region none 0
    [.op (some 20) none (.mov (.tmp 18)),
     .op (some 6) none (.mov (.tmp 20))])
  (.seq (.region (some [(3, 7)]) 0
    [.op (some 21) none (.mov (.tmp 3)),
     .op (some 22) none (.mov (.tmp 6)),
     .op (some 23) none (.idx 5 (.tmp 21) (.tmp 22)),
     .op (some 24) none (.load true 5 (.tmp 23)),
     .op (some 25) none (.mov (.tmp 3)),
     .op (some 26) none (.mov (.tmp 5)),
     .op (some 27) none (.idx 5 (.tmp 25) (.tmp 26)),
     .op (some 28) none (.load true 5 (.tmp 27)),
     .call (some 29) none (.con (.fn 26 [] [])) [(.tmp 24), (.tmp 28)]])
  (.cond (.tmp 29)
  (.region none 0
    [.op (some 30) none (.mov (.tmp 6)),
     .op (some 5) none (.mov (.tmp 30))])
  .skip))))
  (.region none 0
    [.op (some 31) none (.bin .add (.tmp 18) (.con (.int .i64 1))),
     .op (some 18) none (.mov (.tmp 31))]))))
def x13l1 : XCode := (.seq (.seq (.region none 0
    [.op (some 13) none (.mov (.tmp 3)),
     .op (some 14) none (.len false (.tmp 13)),
     .op (some 15) none (.bin .gtr (.tmp 14) (.con (.int .i64 0)))])
  (.cond (.tmp 15)
  .skip
  (.exit 0)))
  (.block 1 (.seq (.region none 0
    [.op (some 5) none (.mov (.con (.int .i64 0)))])
  (.seq (.seq (.region none 0
    [.op (some 16) none (.mov (.tmp 3)),
     .op (some 17) none (.len false (.tmp 16)),
     .op (some 18) none (.mov (.con (.int .i64 0)))])
  (.block 2 (.loop x13l0)))
  (.seq (.region none 2
    [.op (some 32) none (.mov (.tmp 4)),
     .op (some 33) none (.mov (.tmp 3)),
     .op (some 34) none (.mov (.tmp 5)),
     .op (some 35) none (.idx 5 (.tmp 33) (.tmp 34)),
     .op (some 36) none (.load true 5 (.tmp 35)),
     .op (some 37) none (.bsl 0 5 1 [(.int .u32 0), (.bool false), (.bool false), (.int .i64 0), (.str [])] [(0, 5, (.tmp 36))]),
     .op (some 38) none (.app 1 5 32 (.tmp 32) (.tmp 37)),
     .op (some 4) none (.mov (.tmp 38))])
  (.seq (.region none 1
    [.op (some 39) none (.bsl 0 5 0 [] []),
     .op (some 7) none (.mov (.tmp 39))])
  (.seq (.region none 1
    [.op (some 40) none (.mov (.tmp 7)),
     .op (some 41) none (.mov (.tmp 3)),
     .op (some 42) none (.mov (.tmp 5)),
     .op (some 43) none (.slc 5 (.tmp 41) none (some (.tmp 42))),
     .op (some 44) none (.app 0 5 32 (.tmp 40) (.tmp 43)),
     .op (some 7) none (.mov (.tmp 44))])
  (.seq (.region none 1
    [.op (some 45) none (.mov (.tmp 7)),
     .op (some 46) none (.mov (.tmp 3)),
     .op (some 47) none (.mov (.tmp 5)),
     .op (some 48) none (.bin .add (.tmp 47) (.con (.int .i64 1))),
     .op (some 49) none (.slc 5 (.tmp 46) (some (.tmp 48)) none),
     .op (some 50) none (.app 0 5 32 (.tmp 45) (.tmp 49)),
     .op (some 7) none (.mov (.tmp 50))])
  (.region none 0
    [.op (some 51) none (.mov (.tmp 7)),
     .op (some 3) none (.mov (.tmp 51))])))))))))
def x13 : XFunc := { ntmps := 53, results := [(.tmp 2)], body :=
  (.seq (.region none 0
    [.op (some 2) none (.mov (.con .nil))])
  (.seq (.region none 1
    [.op (some 8) none (.bsl 0 5 0 [] []),
     .op (some 3) none (.mov (.tmp 8))])
  (.seq (.region none 1
    [.op (some 9) none (.mov (.tmp 3)),
     .op (some 10) none (.mov (.tmp 0)),
     .op (some 11) none (.app 0 5 32 (.tmp 9) (.tmp 10)),
     .op (some 3) none (.mov (.tmp 11))])
  (.seq (.region none 1
    [.op (some 12) none (.bsl 0 5 0 [] []),
     .op (some 4) none (.mov (.tmp 12))])
  (.seq (.block 0 (.loop x13l1))
  (.seq (.region none 0
    [.op (some 52) none (.mov (.tmp 4)),
     .op (some 2) none (.mov (.tmp 52))])
  .ret)))))) }
/-- campanile/canif.Done -/
def x14 : XFunc := { ntmps := 16, results := [(.cell 2 true 7), (.tmp 3), (.tmp 4)], body :=
  (.seq (.region none 2
    [.op (some 1) none (.box 0 7 (.tmp 0)),
     .op (some 2) none (.new 1 [.nil, (.int .i64 0), (.int .i64 0), (.int .i64 0), (.bool false), (.int .i64 0), (.int .i64 0)]),
     .op (some 3) none (.mov (.con (.int .i64 0))),
     .op (some 4) none (.mov (.con (.int .i64 0)))])
  (.seq (.region none 1
    [.op (some 5) none (.new 0 [(.int .i64 0)]),
     .op none none (.store 1 (.tmp 5) (.con (.int .i64 0)))])
  (.seq (.region none 0
    [.op (some 8) none (.load true 7 (.tmp 1)),
     .op (some 9) none (.mkf 27 [] [(.tmp 5)]),
     .call (some 10) none (.con (.fn 16 [] [])) [(.tmp 8), (.tmp 9)],
     .op (some 7) none (.mov (.tmp 10)),
     .op (some 11) none (.ext (.tmp 7) 0),
     .op (some 12) none (.ext (.tmp 7) 1),
     .op none none (.store 7 (.tmp 1) (.tmp 11)),
     .op (some 6) none (.mov (.tmp 12))])
  (.seq (.region (some [(0, 1), (1, 3)]) 0
    [.op (some 13) none (.load true 7 (.tmp 1)),
     .op (some 14) none (.load false 1 (.tmp 5)),
     .op (some 15) none (.mov (.tmp 6)),
     .op none none (.store 7 (.tmp 2) (.tmp 13)),
     .op (some 3) none (.mov (.tmp 14)),
     .op (some 4) none (.mov (.tmp 15))])
  .ret)))) }
/-- campanile/box.New -/
def x15 : XFunc := { ntmps := 13, results := [(.cell 2 true 3), (.tmp 3)], body :=
  (.seq (.region none 1
    [.op (some 2) none (.new 0 [.nil, (.int .i64 0), (.int .i64 0)]),
     .op (some 3) none (.mov (.con (.int .i64 0)))])
  (.seq (.seq (.region none 0
    [.op (some 4) none (.mov (.tmp 0)),
     .op (some 5) none (.bin .lss (.tmp 4) (.con (.int .i64 1))),
     .op (some 6) none (.mov (.tmp 5)),
     .op (some 7) (some (6, false)) (.mov (.tmp 0)),
     .op (some 8) (some (6, false)) (.bin .gtr (.tmp 7) (.con (.int .i64 8))),
     .op (some 9) none (.pick (.tmp 6) (.con (.bool true)) (.tmp 8))])
  (.cond (.tmp 9)
  (.seq (.region none 0
    [.op (some 10) none (.build [.nil, (.int .i64 0), (.int .i64 0)] []),
     .op none none (.store 3 (.tmp 2) (.tmp 10)),
     .op (some 3) none (.mov (.con (.int .i64 1)))])
  .ret)
  .skip))
  (.seq (.region none 0
    [.op (some 11) none (.mov (.tmp 0)),
     .op (some 12) none (.build [.nil, (.int .i64 0), (.int .i64 0)] [(2, 1, (.tmp 11))]),
     .op none none (.store 3 (.tmp 2) (.tmp 12)),
     .op (some 3) none (.mov (.con (.int .i64 0)))])
  .ret))) }
/-- campanile/canif.call -/
def x16 : XFunc := { ntmps := 18, results := [(.cell 4 true 7), (.tmp 5)], body :=
  (.seq (.region none 2
    [.op (some 2) none (.box 0 7 (.tmp 0)),
     .op (some 4) none (.new 1 [.nil, (.int .i64 0), (.int .i64 0), (.int .i64 0), (.bool false), (.int .i64 0), (.int .i64 0)]),
     .op (some 5) none (.mov (.con (.int .i64 0)))])
  (.seq (.seq (.region none 0
    [.op (some 7) none (.load true 7 (.tmp 2)),
     .call (some 8) none (.con (.fn 28 [] [])) [(.tmp 7)],
     .op (some 9) none (.not (.tmp 8))])
  (.cond (.tmp 9)
  (.seq (.region none 0
    [.op (some 10) none (.build [.nil, (.int .i64 0), (.int .i64 0), (.int .i64 0), (.bool false), (.int .i64 0), (.int .i64 0)] []),
     .op none none (.store 7 (.tmp 4) (.tmp 10)),
     .op (some 5) none (.mov (.con (.int .i64 1)))])
  .ret)
  .skip))
  (.seq (.seq (.region none 0
    [.op (some 11) none (.mov (.tmp 1)),
     .call (some 12) none (.tmp 11) [(.tmp 2)],
     .op (some 6) none (.mov (.tmp 12))])
  (.seq (.region none 0
    [.op (some 13) none (.mov (.tmp 6)),
     .op (some 14) none (.bin .neq (.tmp 13) (.con (.int .i64 0)))])
  (.cond (.tmp 14)
  (.seq (.region none 0
    [.op (some 15) none (.build [.nil, (.int .i64 0), (.int .i64 0), (.int .i64 0), (.bool false), (.int .i64 0), (.int .i64 0)] []),
     .op (some 16) none (.mov (.tmp 6)),
     .op none none (.store 7 (.tmp 4) (.tmp 15)),
     .op (some 5) none (.mov (.tmp 16))])
  .ret)
  .skip)))
  (.seq (.region none 0
    [.op (some 17) none (.load true 7 (.tmp 2)),
     .op none none (.store 7 (.tmp 4) (.tmp 17)),
     .op (some 5) none (.mov (.con (.int .i64 0)))])
  .ret)))) }
/-- campanile/canif.Next$1 -/
def x17 : XFunc := { ntmps := 64, results := [(.tmp 3)], body :=
  (.seq (.region none 0
    [.op (some 3) none (.mov (.con (.int .i64 0)))])
  (.seq (.seq (.region none 0
    [.op (some 7) none (.load true 23 (.tmp 1)),
     .call (some 8) none (.con (.fn 18 [] [])) [(.tmp 7)],
     .op (some 9) none (.not (.tmp 8))])
  (.cond (.tmp 9)
  (.seq (.region none 0
    [.op (some 3) none (.mov (.con (.int .i64 1)))])
  .ret)
  .skip))
  (.seq (.seq (.region none 0
    [.op (some 10) none (.mov (.tmp 0)),
     .op (some 11) none (.nilc (.tmp 10)),
     .op (some 12) none (.fld 4 (.tmp 11)),
     .op (some 13) none (.load false 1 (.tmp 12)),
     .op (some 14) none (.not (.tmp 13)),
     .op (some 15) none (.mov (.tmp 14)),
     .op (some 16) (some (15, false)) (.fld 8 (.tmp 1)),
     .op (some 17) (some (15, false)) (.load false 1 (.tmp 16)),
     .op (some 18) none (.pick (.tmp 15) (.con (.bool true)) (.tmp 17)),
     .op (some 19) none (.mov (.tmp 18)),
     .op (some 20) (some (19, false)) (.mov (.tmp 0)),
     .op (some 21) (some (19, false)) (.nilc (.tmp 20)),
     .op (some 22) (some (19, false)) (.fld 3 (.tmp 21)),
     .op (some 23) (some (19, false)) (.load false 1 (.tmp 22)),
     .op (some 24) (some (19, false)) (.bin .neq (.tmp 23) (.con (.int .i64 (-1)))),
     .op (some 25) none (.pick (.tmp 19) (.con (.bool true)) (.tmp 24)),
     .op (some 26) none (.mov (.tmp 25)),
     .op (some 27) (some (26, false)) (.mov (.tmp 0)),
     .op (some 28) (some (26, false)) (.nilc (.tmp 27)),
     .op (some 29) (some (26, false)) (.fld 0 (.tmp 28)),
     .op (some 30) (some (26, false)) (.fld 0 (.tmp 29)),
     .op (some 31) (some (26, false)) (.load false 1 (.tmp 30)),
     .op (some 32) (some (26, false)) (.len false (.tmp 31)),
     .op (some 33) (some (26, false)) (.bin .eql (.tmp 32) (.con (.int .i64 0))),
     .op (some 34) none (.pick (.tmp 26) (.con (.bool true)) (.tmp 33))])
  (.cond (.tmp 34)
  (.seq (.region none 0
    [.op (some 3) none (.mov (.con (.int .i64 0)))])
  .ret)
  .skip))
  (.seq (.region none 2
    [.op (some 36) none (.mov (.tmp 0)),
     .op (some 37) none (.nilc (.tmp 36)),
     .op (some 38) none (.fld 0 (.tmp 37)),
     .op (some 39) none (.load true 3 (.tmp 38)),
     .call (some 40) none (.con (.fn 19 [] [])) [(.tmp 39)],
     .op (some 35) none (.mov (.tmp 40)),
     .op (some 41) none (.ext (.tmp 35) 0),
     .op (some 42) none (.ext (.tmp 35) 1),
     .op (some 43) none (.ext (.tmp 35) 2),
     .op (some 4) none (.new 0 [.nil, (.int .i64 0), (.int .i64 0)]),
     .op (some 5) none (.new 1 [(.int .i64 0), (.int .u32 0), (.bool false), (.bool false), (.int .i64 0), (.str []), (.int .i64 0)]),
     .op none none (.store 3 (.tmp 4) (.tmp 41)),
     .op none none (.store 7 (.tmp 5) (.tmp 42)),
     .op (some 6) none (.mov (.tmp 43))])
  (.seq (.seq (.region none 0
    [.op (some 44) none (.mov (.tmp 6)),
     .op (some 45) none (.bin .neq (.tmp 44) (.con (.int .i64 0)))])
  (.cond (.tmp 45)
  (.seq (.region none 0
    [.op (some 46) none (.mov (.tmp 6)),
     .op (some 3) none (.mov (.tmp 46))])
  .ret)
  .skip))
  (.seq (.region (some [(2, 4), (4, 7)]) 0
    [.op (some 47) none (.mov (.tmp 0)),
     .op (some 48) none (.mov (.tmp 0)),
     .op (some 49) none (.load true 3 (.tmp 4)),
     .op (some 50) none (.fld 0 (.tmp 5)),
     .op (some 51) none (.load false 1 (.tmp 50)),
     .op (some 52) none (.nilc (.tmp 47)),
     .op (some 53) none (.fld 0 (.tmp 52)),
     .op none none (.store 3 (.tmp 53) (.tmp 49)),
     .op (some 54) none (.nilc (.tmp 48)),
     .op (some 55) none (.fld 3 (.tmp 54)),
     .op none none (.store 1 (.tmp 55) (.tmp 51))])
  (.seq (.region none 0
    [.op (some 57) none (.load true 23 (.tmp 1)),
     .op (some 58) none (.fld 1 (.tmp 5)),
     .op (some 59) none (.load true 5 (.tmp 58)),
     .call (some 60) none (.con (.fn 20 [] [])) [(.tmp 57), (.tmp 59)],
     .op (some 56) none (.mov (.tmp 60)),
     .op (some 61) none (.ext (.tmp 56) 0),
     .op (some 62) none (.ext (.tmp 56) 1),
     .op none none (.store 23 (.tmp 1) (.tmp 61)),
     .op (some 6) none (.mov (.tmp 62))])
  (.seq (.region none 0
    [.op (some 63) none (.mov (.tmp 6)),
     .op (some 3) none (.mov (.tmp 63))])
  .ret)))))))) }
/-- campanile/ctl.Right -/
def x18 : XFunc := { ntmps := 76, results := [(.tmp 2)], body :=
  (.seq (.region none 1
    [.op (some 1) none (.box 0 23 (.tmp 0)),
     .op (some 2) none (.mov (.con (.bool false)))])
  (.seq (.region none 0
    [.op (some 3) none (.mov (.con (.int .i64 0))),
     .op (some 4) none (.mov (.con (.int .i64 0)))])
  (.seq (.seq (.region none 0
    [.op (some 5) none (.fld 4 (.tmp 1)),
     .op (some 6) none (.load false 1 (.tmp 5))])
  (.block 0 (.seq (.seq (.region none 0
    [.op (some 8) none (.bin .eql (.tmp 6) (.con (.int .i64 0))),
     .op (some 7) none (.mov (.tmp 8))])
  (.cond (.tmp 7)
  .skip
  (.region none 0
    [.op (some 9) none (.bin .eql (.tmp 6) (.con (.int .i64 8))),
     .op (some 7) none (.mov (.tmp 9))])))
  (.cond (.tmp 7)
  (.region none 0
    [.op (some 4) none (.mov (.con (.int .i64 10)))])
  (.seq (.seq (.region none 0
    [.op (some 11) none (.bin .eql (.tmp 6) (.con (.int .i64 1))),
     .op (some 10) none (.mov (.tmp 11))])
  (.cond (.tmp 10)
  .skip
  (.region none 0
    [.op (some 12) none (.bin .eql (.tmp 6) (.con (.int .i64 2))),
     .op (some 10) none (.mov (.tmp 12))])))
  (.cond (.tmp 10)
  .skip
  (.seq (.region none 0
    [.op (some 14) none (.bin .eql (.tmp 6) (.con (.int .i64 3))),
     .op (some 13) none (.mov (.tmp 14))])
  (.cond (.tmp 13)
  (.region none 0
    [.op (some 4) none (.mov (.con (.int .i64 5)))])
  (.seq (.region none 0
    [.op (some 16) none (.bin .eql (.tmp 6) (.con (.int .i64 4))),
     .op (some 15) none (.mov (.tmp 16))])
  (.cond (.tmp 15)
  (.region none 0
    [.op (some 4) none (.mov (.con (.int .i64 1000000000)))])
  (.seq (.region none 0
    [.op (some 18) none (.bin .eql (.tmp 6) (.con (.int .i64 5))),
     .op (some 17) none (.mov (.tmp 18))])
  (.cond (.tmp 17)
  (.region none 0
    [.op (some 3) none (.mov (.con (.int .i64 1))),
     .op (some 4) none (.mov (.con (.int .i64 7)))])
  (.seq (.region none 0
    [.op (some 20) none (.bin .eql (.tmp 6) (.con (.int .i64 6))),
     .op (some 19) none (.mov (.tmp 20))])
  (.cond (.tmp 19)
  (.region none 0
    [.op (some 4) none (.mov (.con (.int .i64 2)))])
  (.seq (.region none 0
    [.op (some 22) none (.bin .eql (.tmp 6) (.con (.int .i64 7))),
     .op (some 21) none (.mov (.tmp 22))])
  (.cond (.tmp 21)
  (.region none 0
    [.op (some 4) none (.mov (.con (.int .i64 7)))])
  (.seq (.region none 0
    [.op (some 2) none (.mov (.con (.bool false)))])
  .ret)))))))))))))))))
  (.seq (.seq (.region none 0
    [.op (some 23) none (.fld 0 (.tmp 1)),
     .op (some 24) none (.load true 4 (.tmp 23)),
     .call (some 25) none (.con (.fn 29 [] [])) [(.tmp 24)],
     .op (some 26) none (.not (.tmp 25)),
     .op (some 27) none (.mov (.tmp 26)),
     .op (some 28) (some (27, false)) (.fld 4 (.tmp 1)),
     .op (some 29) (some (27, false)) (.load false 1 (.tmp 28)),
     .op (some 30) (some (27, false)) (.bin .eql (.tmp 29) (.con (.int .i64 8))),
     .op (some 31) (some (27, false)) (.fld 0 (.tmp 1)),
     .op (some 32) (some (27, false)) (.fld 2 (.tmp 31)),
     .op (some 33) (some (27, false)) (.load false 1 (.tmp 32)),
     .op (some 34) (some (27, false)) (.eqp true false [.bool] (.tmp 30) (.tmp 33)),
     .op (some 35) none (.pick (.tmp 27) (.con (.bool true)) (.tmp 34)),
     .op (some 36) none (.mov (.tmp 35)),
     .op (some 37) (some (36, false)) (.fld 5 (.tmp 1)),
     .op (some 38) (some (36, false)) (.load false 1 (.tmp 37)),
     .op (some 39) (some (36, false)) (.mov (.tmp 3)),
     .op (some 40) (some (36, false)) (.bin .lss (.tmp 38) (.tmp 39)),
     .op (some 41) none (.pick (.tmp 36) (.con (.bool true)) (.tmp 40)),
     .op (some 42) none (.mov (.tmp 41)),
     .op (some 43) (some (42, false)) (.fld 5 (.tmp 1)),
     .op (some 44) (some (42, false)) (.load false 1 (.tmp 43)),
     .op (some 45) (some (42, false)) (.mov (.tmp 4)),
     .op (some 46) (some (42, false)) (.bin .gtr (.tmp 44) (.tmp 45)),
     .op (some 47) none (.pick (.tmp 42) (.con (.bool true)) (.tmp 46)),
     .op (some 48) none (.mov (.tmp 47)),
     .op (some 49) (some (48, false)) (.fld 8 (.tmp 1)),
     .op (some 50) (some (48, false)) (.load false 1 (.tmp 49)),
     .op (some 51) (some (48, false)) (.mov (.tmp 50)),
     .op (some 52) (some (51, true)) (.fld 9 (.tmp 1)),
     .op (some 53) (some (51, true)) (.load true 5 (.tmp 52)),
     .call (some 54) (some (51, true)) (.con (.fn 30 [] [])) [(.tmp 53)],
     .op (some 55) (some (51, true)) (.not (.tmp 54)),
     .op (some 56) (some (48, false)) (.pick (.tmp 51) (.tmp 55) (.con (.bool false))),
     .op (some 57) none (.pick (.tmp 48) (.con (.bool true)) (.tmp 56)),
     .op (some 58) none (.mov (.tmp 57)),
     .op (some 59) (some (58, false)) (.fld 8 (.tmp 1)),
     .op (some 60) (some (58, false)) (.load false 1 (.tmp 59)),
     .op (some 61) (some (58, false)) (.not (.tmp 60)),
     .op (some 62) (some (58, false)) (.mov (.tmp 61)),
     .op (some 63) (some (62, true)) (.fld 9 (.tmp 1)),
     .op (some 64) (some (62, true)) (.load true 5 (.tmp 63)),
     .op (some 65) (some (62, true)) (.build [(.int .u32 0), (.bool false), (.bool false), (.int .i64 0), (.str [])] []),
     .op (some 66) (some (62, true)) (.eqp true true [(.int .u32), .bool, .bool, (.int .i64), .str] (.tmp 64) (.tmp 65)),
     .op (some 67) (some (58, false)) (.pick (.tmp 62) (.tmp 66) (.con (.bool false))),
     .op (some 68) none (.pick (.tmp 58) (.con (.bool true)) (.tmp 67))])
  (.cond (.tmp 68)
  (.seq (.region none 0
    [.op (some 2) none (.mov (.con (.bool false)))])
  .ret)
  .skip))
  (.seq (.seq (.region none 0
    [.op (some 69) none (.fld 4 (.tmp 1)),
     .op (some 70) none (.load false 1 (.tmp 69)),
     .op (some 71) none (.bin .eql (.tmp 70) (.con (.int .i64 2)))])
  (.cond (.tmp 71)
  (.seq (.region none 0
    [.op (some 72) none (.load true 23 (.tmp 1)),
     .call (some 73) none (.con (.fn 31 [] [])) [(.tmp 72)],
     .op (some 2) none (.mov (.tmp 73))])
  .ret)
  .skip))
  (.seq (.region none 0
    [.op (some 74) none (.load true 23 (.tmp 1)),
     .call (some 75) none (.con (.fn 32 [] [])) [(.tmp 74)],
     .op (some 2) none (.mov (.tmp 75))])
  .ret)))))) }
/-- campanile/box.Take -/
def x19 : XFunc := { ntmps := 29, results := [(.cell 2 true 3), (.cell 3 true 7), (.tmp 4)], body :=
  (.seq (.region none 3
    [.op (some 1) none (.box 0 3 (.tmp 0)),
     .op (some 2) none (.new 1 [.nil, (.int .i64 0), (.int .i64 0)]),
     .op (some 3) none (.new 2 [(.int .i64 0), (.int .u32 0), (.bool false), (.bool false), (.int .i64 0), (.str []), (.int .i64 0)]),
     .op (some 4) none (.mov (.con (.int .i64 0)))])
  (.seq (.seq (.region none 1
    [.op (some 10) none (.load true 3 (.tmp 1)),
     .call (some 11) none (.con (.fn 33 [] [])) [(.tmp 10)],
     .op (some 9) none (.mov (.tmp 11)),
     .op (some 12) none (.ext (.tmp 9) 0),
     .op (some 13) none (.ext (.tmp 9) 1),
     .op (some 5) none (.new 0 [(.int .i64 0), (.int .u32 0), (.bool false), (.bool false), (.int .i64 0), (.str []), (.int .i64 0)]),
     .op none none (.store 7 (.tmp 5) (.tmp 12)),
     .op (some 6) none (.mov (.tmp 13))])
  (.seq (.region none 0
    [.op (some 14) none (.mov (.tmp 6)),
     .op (some 15) none (.bin .neq (.tmp 14) (.con (.int .i64 0)))])
  (.cond (.tmp 15)
  (.seq (.region none 0
    [.op (some 16) none (.build [.nil, (.int .i64 0), (.int .i64 0)] []),
     .op (some 17) none (.build [(.int .i64 0), (.int .u32 0), (.bool false), (.bool false), (.int .i64 0), (.str []), (.int .i64 0)] []),
     .op (some 18) none (.mov (.tmp 6)),
     .op none none (.store 3 (.tmp 2) (.tmp 16)),
     .op none none (.store 7 (.tmp 3) (.tmp 17)),
     .op (some 4) none (.mov (.tmp 18))])
  .ret)
  .skip)))
  (.seq (.region none 1
    [.op (some 19) none (.fld 0 (.tmp 1)),
     .op (some 20) none (.load false 1 (.tmp 19)),
     .call (some 21) none (.con (.fn 34 [] [])) [(.tmp 20)],
     .op (some 7) none (.new 0 [.nil]),
     .op none none (.store 1 (.tmp 7) (.tmp 21))])
  (.seq (.region none 1
    [.op (some 22) none (.mki 75 (.tmp 7)),
     .call (some 23) none (.con (.fn 35 [] [])) [(.tmp 22)],
     .op (some 24) none (.tas 60 (.tmp 23)),
     .op (some 8) none (.new 0 [(.int .i64 0), (.int .u32 0), (.bool false), (.bool false), (.int .i64 0), (.str []), (.int .i64 0)]),
     .op none none (.store 7 (.tmp 8) (.tmp 24))])
  (.seq (.region none 0
    [.op (some 25) none (.load false 1 (.tmp 7)),
     .op (some 26) none (.fld 0 (.tmp 1)),
     .op none none (.store 1 (.tmp 26) (.tmp 25))])
  (.seq (.region (some [(0, 1), (1, 2)]) 0
    [.op (some 27) none (.load true 3 (.tmp 1)),
     .op (some 28) none (.load true 7 (.tmp 8)),
     .op none none (.store 3 (.tmp 2) (.tmp 27)),
     .op none none (.store 7 (.tmp 3) (.tmp 28)),
     .op (some 4) none (.mov (.con (.int .i64 0)))])
  .ret)))))) }
/-- campanile/ctl.Submit -/
def x20 : XFunc := { ntmps := 24, results := [(.cell 4 true 23), (.tmp 5)], body :=
  (.seq (.region none 3
    [.op (some 2) none (.box 0 23 (.tmp 0)),
     .op (some 3) none (.box 1 5 (.tmp 1)),
     .op (some 4) none (.new 2 [(.int .i64 0), (.int .i64 0), (.bool false), (.int .i64 0), (.int .i64 0), (.int .i64 0), (.bool false), (.bool false), (.bool false), (.int .u32 0), (.bool false), (.bool false), (.int .i64 0), (.str []), (.bool false), (.str []), (.int .i64 0), (.int .u8 0), (.int .i64 0), (.str []), (.bool false), (.int .i64 0), (.bool false)]),
     .op (some 5) none (.mov (.con (.int .i64 0)))])
  (.seq (.block 0 (.seq (.region none 0
    [.op (some 7) none (.load true 23 (.tmp 2)),
     .call (some 8) none (.con (.fn 18 [] [])) [(.tmp 7)],
     .op (some 9) none (.not (.tmp 8)),
     .op (some 10) none (.mov (.tmp 9)),
     .op (some 11) (some (10, false)) (.load true 5 (.tmp 3)),
     .call (some 12) (some (10, false)) (.con (.fn 30 [] [])) [(.tmp 11)],
     .op (some 13) (some (10, false)) (.not (.tmp 12)),
     .op (some 14) none (.pick (.tmp 10) (.con (.bool true)) (.tmp 13)),
     .op (some 6) none (.mov (.tmp 14))])
  (.cond (.tmp 6)
  (.seq (.region none 0
    [.op (some 15) none (.build [(.int .i64 0), (.int .i64 0), (.bool false), (.int .i64 0), (.int .i64 0), (.int .i64 0), (.bool false), (.bool false), (.bool false), (.int .u32 0), (.bool false), (.bool false), (.int .i64 0), (.str []), (.bool false), (.str []), (.int .i64 0), (.int .u8 0), (.int .i64 0), (.str []), (.bool false), (.int .i64 0), (.bool false)] []),
     .op none none (.store 23 (.tmp 4) (.tmp 15)),
     .op (some 5) none (.mov (.con (.int .i64 1)))])
  .ret)
  (.seq (.region none 0
    [.op (some 17) none (.fld 8 (.tmp 2)),
     .op (some 18) none (.load false 1 (.tmp 17)),
     .op (some 16) none (.mov (.tmp 18))])
  (.cond (.tmp 16)
  (.seq (.region none 0
    [.op (some 19) none (.build [(.int .i64 0), (.int .i64 0), (.bool false), (.int .i64 0), (.int .i64 0), (.int .i64 0), (.bool false), (.bool false), (.bool false), (.int .u32 0), (.bool false), (.bool false), (.int .i64 0), (.str []), (.bool false), (.str []), (.int .i64 0), (.int .u8 0), (.int .i64 0), (.str []), (.bool false), (.int .i64 0), (.bool false)] []),
     .op none none (.store 23 (.tmp 4) (.tmp 19)),
     .op (some 5) none (.mov (.con (.int .i64 20)))])
  .ret)
  .skip)))))
  (.seq (.region (some [(0, 2)]) 0
    [.op (some 20) none (.load true 5 (.tmp 3)),
     .op (some 21) none (.fld 8 (.tmp 2)),
     .op none none (.store 1 (.tmp 21) (.con (.bool true))),
     .op (some 22) none (.fld 9 (.tmp 2)),
     .op none none (.store 5 (.tmp 22) (.tmp 20))])
  (.seq (.region none 0
    [.op (some 23) none (.load true 23 (.tmp 2)),
     .op none none (.store 23 (.tmp 4) (.tmp 23)),
     .op (some 5) none (.mov (.con (.int .i64 0)))])
  .ret)))) }
/-- campanile/canif.Go$1 -/
def x21 : XFunc := { ntmps := 40, results := [(.tmp 3)], body :=
  (.seq (.region none 0
    [.op (some 3) none (.mov (.con (.int .i64 0)))])
  (.seq (.seq (.region none 0
    [.op (some 5) none (.mov (.tmp 0)),
     .op (some 6) none (.load false 1 (.tmp 1)),
     .op (some 7) none (.nilc (.tmp 5)),
     .op (some 8) none (.fld 4 (.tmp 7)),
     .op none none (.store 1 (.tmp 8) (.tmp 6))])
  (.seq (.region none 0
    [.op (some 9) none (.load false 1 (.tmp 1))])
  (.cond (.tmp 9)
  (.seq (.region none 0
    [.op (some 3) none (.mov (.con (.int .i64 0)))])
  .ret)
  .skip)))
  (.seq (.region none 0
    [.op (some 10) none (.mov (.tmp 0)),
     .op (some 11) none (.nilc (.tmp 10)),
     .op (some 12) none (.fld 0 (.tmp 11)),
     .op (some 13) none (.fld 0 (.tmp 12)),
     .op (some 14) none (.load false 1 (.tmp 13)),
     .op (some 15) none (.len false (.tmp 14)),
     .op (some 4) none (.mov (.tmp 15))])
  (.seq (.seq (.region none 0
    [.op (some 16) none (.mov (.tmp 0)),
     .op (some 17) none (.nilc (.tmp 16)),
     .op (some 18) none (.fld 3 (.tmp 17)),
     .op (some 19) none (.load false 1 (.tmp 18)),
     .op (some 20) none (.bin .neq (.tmp 19) (.con (.int .i64 (-1))))])
  (.cond (.tmp 20)
  (.region none 0
    [.op (some 21) none (.mov (.tmp 4)),
     .op (some 22) none (.bin .add (.tmp 21) (.con (.int .i64 1))),
     .op (some 4) none (.mov (.tmp 22))])
  .skip))
  (.seq (.region none 0
    [.op (some 23) none (.mov (.tmp 0)),
     .op (some 24) none (.mov (.tmp 0)),
     .op (some 25) none (.mov (.tmp 0)),
     .op (some 26) none (.mov (.tmp 0)),
     .op (some 27) none (.nilc (.tmp 26)),
     .op (some 28) none (.fld 6 (.tmp 27)),
     .op (some 29) none (.load false 1 (.tmp 28)),
     .op (some 30) none (.mov (.tmp 4)),
     .op (some 31) none (.bin .add (.tmp 29) (.tmp 30)),
     .op (some 32) none (.mm false [(.tmp 31), (.con (.int .i64 1099511627776))]),
     .op (some 33) none (.nilc (.tmp 23)),
     .op (some 34) none (.fld 3 (.tmp 33)),
     .op none none (.store 1 (.tmp 34) (.con (.int .i64 (-1)))),
     .op (some 35) none (.nilc (.tmp 24)),
     .op (some 36) none (.fld 0 (.tmp 35)),
     .op (some 37) none (.fld 0 (.tmp 36)),
     .op none none (.store 1 (.tmp 37) (.con .nil)),
     .op (some 38) none (.nilc (.tmp 25)),
     .op (some 39) none (.fld 6 (.tmp 38)),
     .op none none (.store 1 (.tmp 39) (.tmp 32))])
  (.seq (.region none 0
    [.op (some 3) none (.mov (.con (.int .i64 0)))])
  .ret)))))) }
/-- campanile/canif.Send$1 -/
def x22 : XFunc := { ntmps := 27, results := [(.tmp 4)], body :=
  (.seq (.region none 0
    [.op (some 4) none (.mov (.con (.int .i64 0)))])
  (.seq (.seq (.region none 0
    [.op (some 7) none (.mov (.tmp 0)),
     .op (some 8) none (.nilc (.tmp 7)),
     .op (some 9) none (.fld 4 (.tmp 8)),
     .op (some 10) none (.load false 1 (.tmp 9)),
     .op (some 11) none (.not (.tmp 10))])
  (.cond (.tmp 11)
  (.seq (.region none 0
    [.op (some 4) none (.mov (.con (.int .i64 22)))])
  .ret)
  .skip))
  (.seq (.region (some [(3, 4), (3, 5), (4, 5), (3, 10), (4, 10), (5, 10), (6, 10)]) 1
    [.op (some 13) none (.mov (.tmp 0)),
     .op (some 14) none (.nilc (.tmp 13)),
     .op (some 15) none (.fld 0 (.tmp 14)),
     .op (some 16) none (.load true 3 (.tmp 15)),
     .op (some 17) none (.load false 1 (.tmp 1)),
     .op (some 18) none (.load true 5 (.tmp 2)),
     .call (some 19) none (.con (.fn 23 [] [])) [(.tmp 16), (.tmp 17), (.tmp 18)],
     .op (some 12) none (.mov (.tmp 19)),
     .op (some 20) none (.ext (.tmp 12) 0),
     .op (some 21) none (.ext (.tmp 12) 1),
     .op (some 5) none (.new 0 [.nil, (.int .i64 0), (.int .i64 0)]),
     .op none none (.store 3 (.tmp 5) (.tmp 20)),
     .op (some 6) none (.mov (.tmp 21))])
  (.seq (.region none 0
    [.op (some 22) none (.mov (.tmp 0)),
     .op (some 23) none (.load true 3 (.tmp 5)),
     .op (some 24) none (.nilc (.tmp 22)),
     .op (some 25) none (.fld 0 (.tmp 24)),
     .op none none (.store 3 (.tmp 25) (.tmp 23))])
  (.seq (.region none 0
    [.op (some 26) none (.mov (.tmp 6)),
     .op (some 4) none (.mov (.tmp 26))])
  .ret))))) }
/-- campanile/box.Put -/
def x23 : XFunc := { ntmps := 57, results := [(.cell 6 true 3), (.tmp 7)], body :=
  (.seq (.region none 3
    [.op (some 3) none (.box 0 3 (.tmp 0)),
     .op (some 5) none (.box 1 5 (.tmp 2)),
     .op (some 6) none (.new 2 [.nil, (.int .i64 0), (.int .i64 0)]),
     .op (some 7) none (.mov (.con (.int .i64 0)))])
  (.seq (.seq (.region none 0
    [.op (some 10) none (.load true 3 (.tmp 3)),
     .call (some 11) none (.con (.fn 36 [] [])) [(.tmp 10)],
     .op (some 12) none (.not (.tmp 11)),
     .op (some 13) none (.mov (.tmp 12)),
     .op (some 14) (some (13, false)) (.mov (.tmp 1)),
     .op (some 15) (some (13, false)) (.bin .lss (.tmp 14) (.con (.int .i64 0))),
     .op (some 16) none (.pick (.tmp 13) (.con (.bool true)) (.tmp 15)),
     .op (some 17) none (.mov (.tmp 16)),
     .op (some 18) (some (17, false)) (.mov (.tmp 1)),
     .op (some 19) (some (17, false)) (.bin .gtr (.tmp 18) (.con (.int .i64 1000000))),
     .op (some 20) none (.pick (.tmp 17) (.con (.bool true)) (.tmp 19)),
     .op (some 21) none (.mov (.tmp 20)),
     .op (some 22) (some (21, false)) (.load true 5 (.tmp 5)),
     .call (some 23) (some (21, false)) (.con (.fn 30 [] [])) [(.tmp 22)],
     .op (some 24) (some (21, false)) (.not (.tmp 23)),
     .op (some 25) none (.pick (.tmp 21) (.con (.bool true)) (.tmp 24)),
     .op (some 26) none (.mov (.tmp 25)),
     .op (some 27) (some (26, false)) (.fld 1 (.tmp 3)),
     .op (some 28) (some (26, false)) (.load false 1 (.tmp 27)),
     .op (some 29) (some (26, false)) (.bin .geq (.tmp 28) (.con (.int .i64 1099511627776))),
     .op (some 30) none (.pick (.tmp 26) (.con (.bool true)) (.tmp 29))])
  (.cond (.tmp 30)
  (.seq (.region none 0
    [.op (some 31) none (.build [.nil, (.int .i64 0), (.int .i64 0)] []),
     .op none none (.store 3 (.tmp 6) (.tmp 31)),
     .op (some 7) none (.mov (.con (.int .i64 1)))])
  .ret)
  .skip))
  (.seq (.region none 1
    [.op (some 32) none (.fld 0 (.tmp 3)),
     .op (some 33) none (.load false 1 (.tmp 32)),
     .call (some 34) none (.con (.fn 34 [] [])) [(.tmp 33)],
     .op (some 8) none (.new 0 [.nil]),
     .op none none (.store 1 (.tmp 8) (.tmp 34))])
  (.seq (.region none 0
    [.op (some 35) none (.mki 75 (.tmp 8)),
     .op (some 9) none (.mov (.tmp 35))])
  (.seq (.seq (.region (some [(1, 3)]) 0
    [.op (some 36) none (.mov (.tmp 9)),
     .inv (some 37) none (.tmp 36) "Len" [],
     .op (some 38) none (.fld 2 (.tmp 3)),
     .op (some 39) none (.load false 1 (.tmp 38)),
     .op (some 40) none (.bin .geq (.tmp 37) (.tmp 39))])
  (.cond (.tmp 40)
  (.seq (.region none 0
    [.op (some 41) none (.build [.nil, (.int .i64 0), (.int .i64 0)] []),
     .op none none (.store 3 (.tmp 6) (.tmp 41)),
     .op (some 7) none (.mov (.con (.int .i64 20)))])
  .ret)
  .skip))
  (.seq (.region none 0
    [.op (some 42) none (.mov (.tmp 9)),
     .op (some 43) none (.mov (.tmp 1)),
     .op (some 44) none (.load true 5 (.tmp 5)),
     .op (some 45) none (.fld 1 (.tmp 3)),
     .op (some 46) none (.load false 1 (.tmp 45)),
     .op (some 47) none (.build [(.int .i64 0), (.int .u32 0), (.bool false), (.bool false), (.int .i64 0), (.str []), (.int .i64 0)] [(0, 1, (.tmp 43)), (1, 5, (.tmp 44)), (6, 1, (.tmp 46))]),
     .op (some 48) none (.mki 60 (.tmp 47)),
     .call (some 49) none (.con (.fn 37 [] [])) [(.tmp 42), (.tmp 48)]])
  (.seq (.region none 0
    [.op (some 50) none (.load false 1 (.tmp 8)),
     .op (some 51) none (.fld 1 (.tmp 3)),
     .op (some 52) none (.load false 1 (.tmp 51)),
     .op (some 53) none (.bin .add (.tmp 52) (.con (.int .i64 1))),
     .op (some 54) none (.fld 2 (.tmp 3)),
     .op (some 55) none (.load false 1 (.tmp 54)),
     .op (some 56) none (.build [.nil, (.int .i64 0), (.int .i64 0)] [(0, 1, (.tmp 50)), (1, 1, (.tmp 53)), (2, 1, (.tmp 55))]),
     .op none none (.store 3 (.tmp 6) (.tmp 56)),
     .op (some 7) none (.mov (.con (.int .i64 0)))])
  .ret))))))) }
/-- campanile/campanileref09.Same -/
def x24l0 : XCode := (.seq (.region none 0
    [.op (some 14) none (.bin .lss (.tmp 13) (.tmp 12))])
  (.seq (.cond (.tmp 14)
  .skip
  (.exit 0))
  (.seq (.block 1 (.seq (.region none 0
    [.op (some 15) none (.mov (.tmp 13)),
     .op (some 5) none (.mov (.tmp 15))])
  (.seq (.region (some [(3, 7)]) 0
    [.op (some 16) none (.mov (.tmp 0)),
     .op (some 17) none (.mov (.tmp 5)),
     .op (some 18) none (.idx 7 (.tmp 16) (.tmp 17)),
     .op (some 19) none (.load true 7 (.tmp 18)),
     .op (some 20) none (.mov (.tmp 1)),
     .op (some 21) none (.mov (.tmp 5)),
     .op (some 22) none (.idx 7 (.tmp 20) (.tmp 21)),
     .op (some 23) none (.load true 7 (.tmp 22)),
     .op (some 24) none (.eqp true true [(.int .i64), (.int .u32), .bool, .bool, (.int .i64), .str, (.int .i64)] (.tmp 19) (.tmp 23))])
  (.cond (.tmp 24)
  (.seq (.region none 0
    [.op (some 4) none (.mov (.con (.bool false)))])
  .ret)
  .skip))))
  (.region none 0
    [.op (some 25) none (.bin .add (.tmp 13) (.con (.int .i64 1))),
     .op (some 13) none (.mov (.tmp 25))]))))
def x24 : XFunc := { ntmps := 26, results := [(.tmp 4)], body :=
  (.seq (.region none 0
    [.op (some 4) none (.mov (.con (.bool false)))])
  (.seq (.seq (.region none 0
    [.op (some 6) none (.mov (.tmp 0)),
     .op (some 7) none (.len false (.tmp 6)),
     .op (some 8) none (.mov (.tmp 1)),
     .op (some 9) none (.len false (.tmp 8)),
     .op (some 10) none (.bin .neq (.tmp 7) (.tmp 9))])
  (.cond (.tmp 10)
  (.seq (.region none 0
    [.op (some 4) none (.mov (.con (.bool false)))])
  .ret)
  .skip))
  (.seq (.seq (.region none 0
    [.op (some 11) none (.mov (.tmp 0)),
     .op (some 12) none (.len false (.tmp 11)),
     .op (some 13) none (.mov (.con (.int .i64 0)))])
  (.block 0 (.loop x24l0)))
  (.seq (.region none 0
    [.op (some 4) none (.mov (.con (.bool true)))])
  .ret)))) }
/-- campanile/campanileref09.Sorted -/
def x25l0 : XCode := (.seq (.seq (.region (some [(8, 9)]) 0
    [.op (some 15) none (.mov (.tmp 6)),
     .op (some 16) none (.mov (.tmp 3)),
     .op (some 17) none (.len false (.tmp 16)),
     .op (some 18) none (.bin .lss (.tmp 15) (.tmp 17)),
     .op (some 19) none (.mov (.tmp 18)),
     .op (some 20) (some (19, true)) (.mov (.tmp 3)),
     .op (some 21) (some (19, true)) (.mov (.tmp 6)),
     .op (some 22) (some (19, true)) (.idx 7 (.tmp 20) (.tmp 21)),
     .op (some 23) (some (19, true)) (.load true 7 (.tmp 22)),
     .op (some 24) (some (19, true)) (.load true 7 (.tmp 5)),
     .call (some 25) (some (19, true)) (.con (.fn 38 [] [])) [(.tmp 23), (.tmp 24)],
     .op (some 26) none (.pick (.tmp 19) (.tmp 25) (.con (.bool false)))])
  (.cond (.tmp 26)
  .skip
  (.exit 2)))
  (.block 3 (.region none 0
    [.op (some 27) none (.mov (.tmp 6)),
     .op (some 28) none (.bin .add (.tmp 27) (.con (.int .i64 1))),
     .op (some 6) none (.mov (.tmp 28))])))
def x25l1 : XCode := (.seq (.region none 0
    [.op (some 12) none (.bin .lss (.tmp 11) (.tmp 10))])
  (.seq (.cond (.tmp 12)
  .skip
  (.exit 0))
  (.seq (.block 1 (.seq (.region none 1
    [.op (some 13) none (.idx 7 (.tmp 9) (.tmp 11)),
     .op (some 14) none (.load true 7 (.tmp 13)),
     .op (some 5) none (.new 0 [(.int .i64 0), (.int .u32 0), (.bool false), (.bool false), (.int .i64 0), (.str []), (.int .i64 0)]),
     .op none none (.store 7 (.tmp 5) (.tmp 14))])
  (.seq (.region none 0
    [.op (some 6) none (.mov (.con (.int .i64 0)))])
  (.seq (.block 2 (.loop x25l0))
  (.seq (.region none 1
    [.op (some 29) none (.bsl 0 7 0 [] []),
     .op (some 7) none (.mov (.tmp 29))])
  (.seq (.region none 1
    [.op (some 30) none (.mov (.tmp 7)),
     .op (some 31) none (.mov (.tmp 3)),
     .op (some 32) none (.mov (.tmp 6)),
     .op (some 33) none (.slc 7 (.tmp 31) none (some (.tmp 32))),
     .op (some 34) none (.app 0 7 48 (.tmp 30) (.tmp 33)),
     .op (some 7) none (.mov (.tmp 34))])
  (.seq (.region none 2
    [.op (some 35) none (.mov (.tmp 7)),
     .op (some 36) none (.load true 7 (.tmp 5)),
     .op (some 37) none (.bsl 0 7 1 [(.int .i64 0), (.int .u32 0), (.bool false), (.bool false), (.int .i64 0), (.str []), (.int .i64 0)] [(0, 7, (.tmp 36))]),
     .op (some 38) none (.app 1 7 48 (.tmp 35) (.tmp 37)),
     .op (some 7) none (.mov (.tmp 38))])
  (.seq (.region none 1
    [.op (some 39) none (.mov (.tmp 7)),
     .op (some 40) none (.mov (.tmp 3)),
     .op (some 41) none (.mov (.tmp 6)),
     .op (some 42) none (.slc 7 (.tmp 40) (some (.tmp 41)) none),
     .op (some 43) none (.app 0 7 48 (.tmp 39) (.tmp 42)),
     .op (some 7) none (.mov (.tmp 43))])
  (.region none 0
    [.op (some 44) none (.mov (.tmp 7)),
     .op (some 3) none (.mov (.tmp 44))])))))))))
  (.region none 0
    [.op (some 45) none (.bin .add (.tmp 11) (.con (.int .i64 1))),
     .op (some 11) none (.mov (.tmp 45))]))))
def x25 : XFunc := { ntmps := 47, results := [(.tmp 2)], body :=
  (.seq (.region none 0
    [.op (some 2) none (.mov (.con .nil))])
  (.seq (.region none 1
    [.op (some 8) none (.bsl 0 7 0 [] []),
     .op (some 3) none (.mov (.tmp 8))])
  (.seq (.seq (.region none 0
    [.op (some 9) none (.mov (.tmp 0)),
     .op (some 10) none (.len false (.tmp 9)),
     .op (some 11) none (.mov (.con (.int .i64 0)))])
  (.block 0 (.loop x25l1)))
  (.seq (.region none 0
    [.op (some 46) none (.mov (.tmp 3)),
     .op (some 2) none (.mov (.tmp 46))])
  .ret)))) }
/-- campanile/campanileref05.Less -/
def x26 : XFunc := { ntmps := 21, results := [(.tmp 4)], body :=
  (.seq (.region none 2
    [.op (some 2) none (.box 0 5 (.tmp 0)),
     .op (some 3) none (.box 1 5 (.tmp 1)),
     .op (some 4) none (.mov (.con (.bool false)))])
  (.seq (.region none 0
    [.op (some 7) none (.load true 5 (.tmp 2)),
     .call (some 8) none (.con (.fn 39 [] [])) [(.tmp 7)],
     .op (some 5) none (.mov (.tmp 8))])
  (.seq (.region none 0
    [.op (some 9) none (.mov (.tmp 5)),
     .op (some 10) none (.load true 5 (.tmp 3)),
     .call (some 11) none (.con (.fn 39 [] [])) [(.tmp 10)],
     .call (some 12) none (.con (.fn 40 [] [])) [(.tmp 9), (.tmp 11)],
     .op (some 6) none (.mov (.tmp 12))])
  (.seq (.region none 0
    [.op (some 13) none (.mov (.tmp 6)),
     .op (some 14) none (.bin .geq (.tmp 13) (.con (.int .i64 0))),
     .op (some 15) none (.mov (.tmp 14)),
     .op (some 16) (some (15, true)) (.mov (.tmp 5)),
     .op (some 17) (some (15, true)) (.mov (.tmp 6)),
     .op (some 18) (some (15, true)) (.sidx (.tmp 16) (.tmp 17)),
     .op (some 19) (some (15, true)) (.bin .eql (.tmp 18) (.con (.int .u8 48))),
     .op (some 20) none (.pick (.tmp 15) (.tmp 19) (.con (.bool false))),
     .op (some 4) none (.mov (.tmp 20))])
  .ret)))) }
/-- campanile/canif.Done$1 -/
def x27 : XFunc := { ntmps := 25, results := [(.tmp 3)], body :=
  (.seq (.region none 0
    [.op (some 3) none (.mov (.con (.int .i64 0)))])
  (.seq (.seq (.region none 0
    [.op (some 4) none (.mov (.tmp 0)),
     .op (some 5) none (.nilc (.tmp 4)),
     .op (some 6) none (.fld 3 (.tmp 5)),
     .op (some 7) none (.load false 1 (.tmp 6)),
     .op (some 8) none (.bin .eql (.tmp 7) (.con (.int .i64 (-1))))])
  (.cond (.tmp 8)
  (.seq (.region none 0
    [.op (some 3) none (.mov (.con (.int .i64 21)))])
  .ret)
  .skip))
  (.seq (.region (some [(5, 9)]) 0
    [.op (some 9) none (.mov (.tmp 0)),
     .op (some 10) none (.mov (.tmp 0)),
     .op (some 11) none (.mov (.tmp 0)),
     .op (some 12) none (.nilc (.tmp 11)),
     .op (some 13) none (.fld 3 (.tmp 12)),
     .op (some 14) none (.load false 1 (.tmp 13)),
     .op (some 15) none (.mov (.tmp 0)),
     .op (some 16) none (.nilc (.tmp 15)),
     .op (some 17) none (.fld 5 (.tmp 16)),
     .op (some 18) none (.load false 1 (.tmp 17)),
     .op (some 19) none (.bin .add (.tmp 18) (.con (.int .i64 1))),
     .op (some 20) none (.mm false [(.tmp 19), (.con (.int .i64 1099511627776))]),
     .op none none (.store 1 (.tmp 1) (.tmp 14)),
     .op (some 21) none (.nilc (.tmp 9)),
     .op (some 22) none (.fld 3 (.tmp 21)),
     .op none none (.store 1 (.tmp 22) (.con (.int .i64 (-1)))),
     .op (some 23) none (.nilc (.tmp 10)),
     .op (some 24) none (.fld 5 (.tmp 23)),
     .op none none (.store 1 (.tmp 24) (.tmp 20))])
  (.seq (.region none 0
    [.op (some 3) none (.mov (.con (.int .i64 0)))])
  .ret)))) }
/-- campanile/canif.Right -/
def x28 : XFunc := { ntmps := 51, results := [(.tmp 2)], body :=
  (.seq (.region none 1
    [.op (some 1) none (.box 0 7 (.tmp 0)),
     .op (some 2) none (.mov (.con (.bool false)))])
  (.seq (.seq (.region none 0
    [.op (some 3) none (.fld 0 (.tmp 1)),
     .op (some 4) none (.load true 3 (.tmp 3)),
     .call (some 5) none (.con (.fn 36 [] [])) [(.tmp 4)],
     .op (some 6) none (.not (.tmp 5)),
     .op (some 7) none (.mov (.tmp 6)),
     .op (some 8) (some (7, false)) (.fld 3 (.tmp 1)),
     .op (some 9) (some (7, false)) (.load false 1 (.tmp 8)),
     .op (some 10) (some (7, false)) (.bin .lss (.tmp 9) (.con (.int .i64 (-1)))),
     .op (some 11) none (.pick (.tmp 7) (.con (.bool true)) (.tmp 10)),
     .op (some 12) none (.mov (.tmp 11)),
     .op (some 13) (some (12, false)) (.fld 3 (.tmp 1)),
     .op (some 14) (some (12, false)) (.load false 1 (.tmp 13)),
     .op (some 15) (some (12, false)) (.bin .gtr (.tmp 14) (.con (.int .i64 1000000))),
     .op (some 16) none (.pick (.tmp 12) (.con (.bool true)) (.tmp 15)),
     .op (some 17) none (.mov (.tmp 16)),
     .op (some 18) (some (17, false)) (.fld 5 (.tmp 1)),
     .op (some 19) (some (17, false)) (.load false 1 (.tmp 18)),
     .op (some 20) (some (17, false)) (.bin .lss (.tmp 19) (.con (.int .i64 0))),
     .op (some 21) none (.pick (.tmp 17) (.con (.bool true)) (.tmp 20)),
     .op (some 22) none (.mov (.tmp 21)),
     .op (some 23) (some (22, false)) (.fld 5 (.tmp 1)),
     .op (some 24) (some (22, false)) (.load false 1 (.tmp 23)),
     .op (some 25) (some (22, false)) (.bin .gtr (.tmp 24) (.con (.int .i64 1099511627776))),
     .op (some 26) none (.pick (.tmp 22) (.con (.bool true)) (.tmp 25)),
     .op (some 27) none (.mov (.tmp 26)),
     .op (some 28) (some (27, false)) (.fld 6 (.tmp 1)),
     .op (some 29) (some (27, false)) (.load false 1 (.tmp 28)),
     .op (some 30) (some (27, false)) (.bin .lss (.tmp 29) (.con (.int .i64 0))),
     .op (some 31) none (.pick (.tmp 27) (.con (.bool true)) (.tmp 30)),
     .op (some 32) none (.mov (.tmp 31)),
     .op (some 33) (some (32, false)) (.fld 6 (.tmp 1)),
     .op (some 34) (some (32, false)) (.load false 1 (.tmp 33)),
     .op (some 35) (some (32, false)) (.bin .gtr (.tmp 34) (.con (.int .i64 1099511627776))),
     .op (some 36) none (.pick (.tmp 32) (.con (.bool true)) (.tmp 35))])
  (.cond (.tmp 36)
  (.seq (.region none 0
    [.op (some 2) none (.mov (.con (.bool false)))])
  .ret)
  .skip))
  (.seq (.region none 0
    [.op (some 37) none (.fld 4 (.tmp 1)),
     .op (some 38) none (.load false 1 (.tmp 37)),
     .op (some 39) none (.mov (.tmp 38)),
     .op (some 40) (some (39, false)) (.fld 3 (.tmp 1)),
     .op (some 41) (some (39, false)) (.load false 1 (.tmp 40)),
     .op (some 42) (some (39, false)) (.bin .eql (.tmp 41) (.con (.int .i64 (-1)))),
     .op (some 43) (some (39, false)) (.mov (.tmp 42)),
     .op (some 44) (some (43, true)) (.fld 0 (.tmp 1)),
     .op (some 45) (some (43, true)) (.fld 0 (.tmp 44)),
     .op (some 46) (some (43, true)) (.load false 1 (.tmp 45)),
     .op (some 47) (some (43, true)) (.len false (.tmp 46)),
     .op (some 48) (some (43, true)) (.bin .eql (.tmp 47) (.con (.int .i64 0))),
     .op (some 49) (some (39, false)) (.pick (.tmp 43) (.tmp 48) (.con (.bool false))),
     .op (some 50) none (.pick (.tmp 39) (.con (.bool true)) (.tmp 49)),
     .op (some 2) none (.mov (.tmp 50))])
  .ret))) }
/-- campanile/count.Right -/
def x29 : XFunc := { ntmps := 46, results := [(.tmp 2)], body :=
  (.seq (.region none 1
    [.op (some 1) none (.box 0 4 (.tmp 0)),
     .op (some 2) none (.mov (.con (.bool false)))])
  (.seq (.seq (.region none 0
    [.op (some 3) none (.fld 2 (.tmp 1)),
     .op (some 4) none (.load false 1 (.tmp 3))])
  (.cond (.tmp 4)
  (.seq (.region none 0
    [.op (some 5) none (.fld 0 (.tmp 1)),
     .op (some 6) none (.load false 1 (.tmp 5)),
     .op (some 7) none (.bin .eql (.tmp 6) (.con (.int .i64 0))),
     .op (some 8) none (.mov (.tmp 7)),
     .op (some 9) (some (8, true)) (.fld 1 (.tmp 1)),
     .op (some 10) (some (8, true)) (.load false 1 (.tmp 9)),
     .op (some 11) (some (8, true)) (.bin .eql (.tmp 10) (.con (.int .i64 0))),
     .op (some 12) none (.pick (.tmp 8) (.tmp 11) (.con (.bool false))),
     .op (some 13) none (.mov (.tmp 12)),
     .op (some 14) (some (13, true)) (.fld 3 (.tmp 1)),
     .op (some 15) (some (13, true)) (.load false 1 (.tmp 14)),
     .op (some 16) (some (13, true)) (.bin .geq (.tmp 15) (.con (.int .i64 1))),
     .op (some 17) none (.pick (.tmp 13) (.tmp 16) (.con (.bool false))),
     .op (some 18) none (.mov (.tmp 17)),
     .op (some 19) (some (18, true)) (.fld 3 (.tmp 1)),
     .op (some 20) (some (18, true)) (.load false 1 (.tmp 19)),
     .op (some 21) (some (18, true)) (.bin .leq (.tmp 20) (.con (.int .i64 128))),
     .op (some 22) none (.pick (.tmp 18) (.tmp 21) (.con (.bool false))),
     .op (some 2) none (.mov (.tmp 22))])
  .ret)
  .skip))
  (.seq (.region none 0
    [.op (some 23) none (.fld 0 (.tmp 1)),
     .op (some 24) none (.load false 1 (.tmp 23)),
     .op (some 25) none (.bin .geq (.tmp 24) (.con (.int .i64 0))),
     .op (some 26) none (.mov (.tmp 25)),
     .op (some 27) (some (26, true)) (.fld 0 (.tmp 1)),
     .op (some 28) (some (26, true)) (.load false 1 (.tmp 27)),
     .op (some 29) (some (26, true)) (.bin .leq (.tmp 28) (.con (.int .i64 255))),
     .op (some 30) none (.pick (.tmp 26) (.tmp 29) (.con (.bool false))),
     .op (some 31) none (.mov (.tmp 30)),
     .op (some 32) (some (31, true)) (.fld 1 (.tmp 1)),
     .op (some 33) (some (31, true)) (.load false 1 (.tmp 32)),
     .op (some 34) (some (31, true)) (.bin .geq (.tmp 33) (.con (.int .i64 0))),
     .op (some 35) none (.pick (.tmp 31) (.tmp 34) (.con (.bool false))),
     .op (some 36) none (.mov (.tmp 35)),
     .op (some 37) (some (36, true)) (.fld 1 (.tmp 1)),
     .op (some 38) (some (36, true)) (.load false 1 (.tmp 37)),
     .op (some 39) (some (36, true)) (.bin .leq (.tmp 38) (.con (.int .i64 255))),
     .op (some 40) none (.pick (.tmp 36) (.tmp 39) (.con (.bool false))),
     .op (some 41) none (.mov (.tmp 40)),
     .op (some 42) (some (41, true)) (.fld 3 (.tmp 1)),
     .op (some 43) (some (41, true)) (.load false 1 (.tmp 42)),
     .op (some 44) (some (41, true)) (.bin .eql (.tmp 43) (.con (.int .i64 0))),
     .op (some 45) none (.pick (.tmp 41) (.tmp 44) (.con (.bool false))),
     .op (some 2) none (.mov (.tmp 45))])
  .ret))) }
/-- campanile/frame.Right -/
def x30 : XFunc := { ntmps := 33, results := [(.tmp 2)], body :=
  (.seq (.region none 1
    [.op (some 1) none (.box 0 5 (.tmp 0)),
     .op (some 2) none (.mov (.con (.bool false)))])
  (.seq (.region (some []) 0
    [.op (some 5) none (.fld 3 (.tmp 1)),
     .op (some 6) none (.load false 1 (.tmp 5)),
     .op (some 3) none (.mov (.con (.int .i64 11))),
     .op (some 4) none (.mov (.tmp 6))])
  (.seq (.seq (.region none 0
    [.op (some 7) none (.fld 1 (.tmp 1)),
     .op (some 8) none (.load false 1 (.tmp 7))])
  (.cond (.tmp 8)
  (.region none 0
    [.op (some 3) none (.mov (.con (.int .i64 29)))])
  .skip))
  (.seq (.seq (.region none 0
    [.op (some 9) none (.fld 2 (.tmp 1)),
     .op (some 10) none (.load false 1 (.tmp 9))])
  (.cond (.tmp 10)
  (.region none 0
    [.op (some 4) none (.mov (.con (.int .i64 0)))])
  .skip))
  (.seq (.region none 0
    [.op (some 11) none (.fld 0 (.tmp 1)),
     .op (some 12) none (.load false 1 (.tmp 11)),
     .op (some 13) none (.mov (.tmp 3)),
     .op (some 14) none (.bin .shr (.tmp 12) (.tmp 13)),
     .op (some 15) none (.bin .eql (.tmp 14) (.con (.int .u32 0))),
     .op (some 16) none (.mov (.tmp 15)),
     .op (some 17) (some (16, true)) (.fld 3 (.tmp 1)),
     .op (some 18) (some (16, true)) (.load false 1 (.tmp 17)),
     .op (some 19) (some (16, true)) (.bin .geq (.tmp 18) (.con (.int .i64 0))),
     .op (some 20) none (.pick (.tmp 16) (.tmp 19) (.con (.bool false))),
     .op (some 21) none (.mov (.tmp 20)),
     .op (some 22) (some (21, true)) (.fld 3 (.tmp 1)),
     .op (some 23) (some (21, true)) (.load false 1 (.tmp 22)),
     .op (some 24) (some (21, true)) (.bin .leq (.tmp 23) (.con (.int .i64 8))),
     .op (some 25) none (.pick (.tmp 21) (.tmp 24) (.con (.bool false))),
     .op (some 26) none (.mov (.tmp 25)),
     .op (some 27) (some (26, true)) (.fld 4 (.tmp 1)),
     .op (some 28) (some (26, true)) (.load false 1 (.tmp 27)),
     .op (some 29) (some (26, true)) (.len true (.tmp 28)),
     .op (some 30) (some (26, true)) (.mov (.tmp 4)),
     .op (some 31) (some (26, true)) (.bin .eql (.tmp 29) (.tmp 30)),
     .op (some 32) none (.pick (.tmp 26) (.tmp 31) (.con (.bool false))),
     .op (some 2) none (.mov (.tmp 32))])
  .ret))))) }
/-- campanile/ctl.in -/
def x31 : XFunc := { ntmps := 194, results := [(.tmp 2)], body :=
  (.seq (.region none 1
    [.op (some 1) none (.box 0 23 (.tmp 0)),
     .op (some 2) none (.mov (.con (.bool false)))])
  (.seq (.region none 0
    [.op (some 11) none (.fld 19 (.tmp 1)),
     .op (some 12) none (.load false 1 (.tmp 11)),
     .call (some 13) none (.con (.fn 41 [] [])) [(.tmp 12)],
     .op (some 10) none (.mov (.tmp 13)),
     .op (some 14) none (.ext (.tmp 10) 0),
     .op (some 15) none (.ext (.tmp 10) 1),
     .op (some 3) none (.mov (.tmp 14)),
     .op (some 4) none (.mov (.tmp 15))])
  (.seq (.seq (.region none 0
    [.op (some 16) none (.fld 19 (.tmp 1)),
     .op (some 17) none (.load false 1 (.tmp 16)),
     .op (some 18) none (.len true (.tmp 17)),
     .op (some 19) none (.bin .lss (.tmp 18) (.con (.int .i64 1))),
     .op (some 20) none (.mov (.tmp 19)),
     .op (some 21) (some (20, false)) (.fld 19 (.tmp 1)),
     .op (some 22) (some (20, false)) (.load false 1 (.tmp 21)),
     .op (some 23) (some (20, false)) (.len true (.tmp 22)),
     .op (some 24) (some (20, false)) (.bin .gtr (.tmp 23) (.con (.int .i64 200))),
     .op (some 25) none (.pick (.tmp 20) (.con (.bool true)) (.tmp 24)),
     .op (some 26) none (.mov (.tmp 25)),
     .op (some 27) (some (26, false)) (.fld 19 (.tmp 1)),
     .op (some 28) (some (26, false)) (.load false 1 (.tmp 27)),
     .call (some 29) (some (26, false)) (.con (.fn 42 [] [])) [(.tmp 28)],
     .op (some 30) (some (26, false)) (.not (.tmp 29)),
     .op (some 31) none (.pick (.tmp 26) (.con (.bool true)) (.tmp 30)),
     .op (some 32) none (.mov (.tmp 31)),
     .op (some 33) (some (32, false)) (.fld 19 (.tmp 1)),
     .op (some 34) (some (32, false)) (.load false 1 (.tmp 33)),
     .op (some 35) (some (32, false)) (.sidx (.tmp 34) (.con (.int .i64 0))),
     .op (some 36) (some (32, false)) (.bin .neq (.tmp 35) (.con (.int .u8 48))),
     .op (some 37) none (.pick (.tmp 32) (.con (.bool true)) (.tmp 36)),
     .op (some 38) none (.mov (.tmp 37)),
     .op (some 39) (some (38, false)) (.mov (.tmp 4)),
     .op (some 40) (some (38, false)) (.bin .eql (.tmp 39) (.con (.int .i64 12))),
     .op (some 41) none (.pick (.tmp 38) (.con (.bool true)) (.tmp 40)),
     .op (some 42) none (.mov (.tmp 41)),
     .op (some 43) (some (42, false)) (.fld 17 (.tmp 1)),
     .op (some 44) (some (42, false)) (.load true 2 (.tmp 43)),
     .call (some 45) (some (42, false)) (.con (.fn 43 [] [])) [(.tmp 44)],
     .op (some 46) (some (42, false)) (.not (.tmp 45)),
     .op (some 47) none (.pick (.tmp 42) (.con (.bool true)) (.tmp 46)),
     .op (some 48) none (.mov (.tmp 47)),
     .op (some 49) (some (48, false)) (.fld 17 (.tmp 1)),
     .op (some 50) (some (48, false)) (.fld 1 (.tmp 49)),
     .op (some 51) (some (48, false)) (.load false 1 (.tmp 50)),
     .op (some 52) (some (48, false)) (.bin .lss (.tmp 51) (.con (.int .i64 1))),
     .op (some 53) none (.pick (.tmp 48) (.con (.bool true)) (.tmp 52))])
  (.cond (.tmp 53)
  (.seq (.region none 0
    [.op (some 2) none (.mov (.con (.bool false)))])
  .ret)
  .skip))
  (.seq (.region none 0
    [.op (some 54) none (.fld 19 (.tmp 1)),
     .op (some 55) none (.load false 1 (.tmp 54)),
     .call (some 56) none (.con (.fn 44 [] [])) [(.tmp 55)],
     .op (some 5) none (.mov (.tmp 56))])
  (.seq (.seq (.region (some [(11, 13), (11, 20), (27, 29), (27, 32), (27, 33)]) 0
    [.op (some 57) none (.mov (.tmp 5)),
     .op (some 58) none (.bin .gtr (.tmp 57) (.con (.int .i64 0))),
     .op (some 59) none (.mov (.tmp 58)),
     .op (some 60) (some (59, true)) (.fld 19 (.tmp 1)),
     .op (some 61) (some (59, true)) (.load false 1 (.tmp 60)),
     .op (some 62) (some (59, true)) (.len true (.tmp 61)),
     .op (some 63) (some (59, true)) (.mov (.tmp 5)),
     .op (some 64) (some (59, true)) (.bin .gtr (.tmp 62) (.tmp 63)),
     .op (some 65) none (.pick (.tmp 59) (.tmp 64) (.con (.bool false))),
     .op (some 66) none (.mov (.tmp 65)),
     .op (some 67) (some (66, false)) (.fld 20 (.tmp 1)),
     .op (some 68) (some (66, false)) (.load false 1 (.tmp 67)),
     .op (some 69) (some (66, false)) (.fld 19 (.tmp 1)),
     .op (some 70) (some (66, false)) (.load false 1 (.tmp 69)),
     .op (some 71) (some (66, false)) (.len true (.tmp 70)),
     .op (some 72) (some (66, false)) (.mov (.tmp 5)),
     .op (some 73) (some (66, false)) (.bin .eql (.tmp 71) (.tmp 72)),
     .op (some 74) (some (66, false)) (.mov (.tmp 73)),
     .op (some 75) (some (74, true)) (.fld 17 (.tmp 1)),
     .op (some 76) (some (74, true)) (.fld 1 (.tmp 75)),
     .op (some 77) (some (74, true)) (.load false 1 (.tmp 76)),
     .op (some 78) (some (74, true)) (.bin .lss (.tmp 77) (.con (.int .i64 5))),
     .op (some 79) (some (66, false)) (.pick (.tmp 74) (.tmp 78) (.con (.bool false))),
     .op (some 80) (some (66, false)) (.eqp true false [.bool] (.tmp 68) (.tmp 79)),
     .op (some 81) none (.pick (.tmp 66) (.con (.bool true)) (.tmp 80)),
     .op (some 82) none (.mov (.tmp 81)),
     .op (some 83) (some (82, false)) (.fld 22 (.tmp 1)),
     .op (some 84) (some (82, false)) (.load false 1 (.tmp 83)),
     .op (some 85) (some (82, false)) (.fld 20 (.tmp 1)),
     .op (some 86) (some (82, false)) (.load false 1 (.tmp 85)),
     .op (some 87) (some (82, false)) (.mov (.tmp 86)),
     .op (some 88) (some (87, true)) (.fld 19 (.tmp 1)),
     .op (some 89) (some (87, true)) (.load false 1 (.tmp 88)),
     .call (some 90) (some (87, true)) (.con (.fn 45 [] [])) [(.tmp 89)],
     .op (some 91) (some (82, false)) (.pick (.tmp 87) (.tmp 90) (.con (.bool false))),
     .op (some 92) (some (82, false)) (.eqp true false [.bool] (.tmp 84) (.tmp 91)),
     .op (some 93) none (.pick (.tmp 82) (.con (.bool true)) (.tmp 92)),
     .op (some 94) none (.mov (.tmp 93)),
     .op (some 95) (some (94, false)) (.fld 21 (.tmp 1)),
     .op (some 96) (some (94, false)) (.load false 1 (.tmp 95)),
     .op (some 97) (some (94, false)) (.bin .lss (.tmp 96) (.con (.int .i64 0))),
     .op (some 98) none (.pick (.tmp 94) (.con (.bool true)) (.tmp 97)),
     .op (some 99) none (.mov (.tmp 98)),
     .op (some 100) (some (99, false)) (.fld 21 (.tmp 1)),
     .op (some 101) (some (99, false)) (.load false 1 (.tmp 100)),
     .op (some 102) (some (99, false)) (.bin .gtr (.tmp 101) (.con (.int .i64 9))),
     .op (some 103) none (.pick (.tmp 99) (.con (.bool true)) (.tmp 102)),
     .op (some 104) none (.mov (.tmp 103)),
     .op (some 105) (some (104, false)) (.fld 20 (.tmp 1)),
     .op (some 106) (some (104, false)) (.load false 1 (.tmp 105)),
     .op (some 107) (some (104, false)) (.not (.tmp 106)),
     .op (some 108) (some (104, false)) (.mov (.tmp 107)),
     .op (some 109) (some (108, true)) (.fld 21 (.tmp 1)),
     .op (some 110) (some (108, true)) (.load false 1 (.tmp 109)),
     .op (some 111) (some (108, true)) (.bin .neq (.tmp 110) (.con (.int .i64 0))),
     .op (some 112) (some (104, false)) (.pick (.tmp 108) (.tmp 111) (.con (.bool false))),
     .op (some 113) none (.pick (.tmp 104) (.con (.bool true)) (.tmp 112))])
  (.cond (.tmp 113)
  (.seq (.region none 0
    [.op (some 2) none (.mov (.con (.bool false)))])
  .ret)
  .skip))
  (.seq (.seq (.region none 0
    [.op (some 114) none (.fld 14 (.tmp 1)),
     .op (some 115) none (.load false 1 (.tmp 114)),
     .op (some 116) none (.not (.tmp 115))])
  (.cond (.tmp 116)
  (.seq (.region none 0
    [.op (some 117) none (.fld 15 (.tmp 1)),
     .op (some 118) none (.load false 1 (.tmp 117)),
     .op (some 119) none (.bin .eql (.tmp 118) (.con (.str []))),
     .op (some 120) none (.mov (.tmp 119)),
     .op (some 121) (some (120, true)) (.fld 16 (.tmp 1)),
     .op (some 122) (some (120, true)) (.load false 1 (.tmp 121)),
     .op (some 123) (some (120, true)) (.bin .eql (.tmp 122) (.con (.int .i64 0))),
     .op (some 124) none (.pick (.tmp 120) (.tmp 123) (.con (.bool false))),
     .op (some 2) none (.mov (.tmp 124))])
  .ret)
  .skip))
  (.seq (.region none 0
    [.op (some 126) none (.fld 9 (.tmp 1)),
     .op (some 127) none (.load true 5 (.tmp 126)),
     .call (some 128) none (.con (.fn 46 [] [])) [(.tmp 127)],
     .op (some 125) none (.mov (.tmp 128)),
     .op (some 129) none (.ext (.tmp 125) 0),
     .op (some 130) none (.ext (.tmp 125) 1),
     .op (some 6) none (.mov (.tmp 129)),
     .op (some 4) none (.mov (.tmp 130))])
  (.seq (.seq (.region none 0
    [.op (some 131) none (.fld 8 (.tmp 1)),
     .op (some 132) none (.load false 1 (.tmp 131)),
     .op (some 133) none (.not (.tmp 132)),
     .op (some 134) none (.mov (.tmp 133)),
     .op (some 135) (some (134, false)) (.mov (.tmp 4)),
     .op (some 136) (some (134, false)) (.bin .neq (.tmp 135) (.con (.int .i64 0))),
     .op (some 137) none (.pick (.tmp 134) (.con (.bool true)) (.tmp 136)),
     .op (some 138) none (.mov (.tmp 137)),
     .op (some 139) (some (138, false)) (.fld 15 (.tmp 1)),
     .op (some 140) (some (138, false)) (.load false 1 (.tmp 139)),
     .op (some 141) (some (138, false)) (.mov (.tmp 6)),
     .op (some 142) (some (138, false)) (.bin .neq (.tmp 140) (.tmp 141)),
     .op (some 143) none (.pick (.tmp 138) (.con (.bool true)) (.tmp 142))])
  (.cond (.tmp 143)
  (.seq (.region none 0
    [.op (some 2) none (.mov (.con (.bool false)))])
  .ret)
  .skip))
  (.seq (.region none 0
    [.op (some 144) none (.mov (.tmp 6)),
     .op (some 145) none (.len true (.tmp 144)),
     .op (some 146) none (.bin .sub (.tmp 145) (.con (.int .i64 10))),
     .op (some 7) none (.mov (.tmp 146))])
  (.seq (.seq (.region none 0
    [.op (some 147) none (.fld 20 (.tmp 1)),
     .op (some 148) none (.load false 1 (.tmp 147)),
     .op (some 149) none (.mov (.tmp 148)),
     .op (some 150) (some (149, true)) (.fld 16 (.tmp 1)),
     .op (some 151) (some (149, true)) (.load false 1 (.tmp 150)),
     .op (some 152) (some (149, true)) (.mov (.tmp 7)),
     .op (some 153) (some (149, true)) (.fld 21 (.tmp 1)),
     .op (some 154) (some (149, true)) (.load false 1 (.tmp 153)),
     .op (some 155) (some (149, true)) (.bin .add (.tmp 152) (.tmp 154)),
     .op (some 156) (some (149, true)) (.bin .neq (.tmp 151) (.tmp 155)),
     .op (some 157) none (.pick (.tmp 149) (.tmp 156) (.con (.bool false))),
     .op (some 158) none (.mov (.tmp 157)),
     .op (some 159) (some (158, false)) (.fld 20 (.tmp 1)),
     .op (some 160) (some (158, false)) (.load false 1 (.tmp 159)),
     .op (some 161) (some (158, false)) (.not (.tmp 160)),
     .op (some 162) (some (158, false)) (.mov (.tmp 161)),
     .op (some 163) (some (162, true)) (.fld 16 (.tmp 1)),
     .op (some 164) (some (162, true)) (.load false 1 (.tmp 163)),
     .op (some 165) (some (162, true)) (.bin .lss (.tmp 164) (.con (.int .i64 1))),
     .op (some 166) (some (162, true)) (.mov (.tmp 165)),
     .op (some 167) (some (166, false)) (.fld 16 (.tmp 1)),
     .op (some 168) (some (166, false)) (.load false 1 (.tmp 167)),
     .op (some 169) (some (166, false)) (.mov (.tmp 7)),
     .op (some 170) (some (166, false)) (.bin .geq (.tmp 168) (.tmp 169)),
     .op (some 171) (some (162, true)) (.pick (.tmp 166) (.con (.bool true)) (.tmp 170)),
     .op (some 172) (some (158, false)) (.pick (.tmp 162) (.tmp 171) (.con (.bool false))),
     .op (some 173) none (.pick (.tmp 158) (.con (.bool true)) (.tmp 172))])
  (.cond (.tmp 173)
  (.seq (.region none 0
    [.op (some 2) none (.mov (.con (.bool false)))])
  .ret)
  .skip))
  (.seq (.region none 1
    [.op (some 175) none (.mov (.tmp 6)),
     .op (some 176) none (.fld 16 (.tmp 1)),
     .op (some 177) none (.load false 1 (.tmp 176)),
     .op (some 178) none (.mov (.tmp 7)),
     .op (some 179) none (.mm false [(.tmp 177), (.tmp 178)]),
     .op (some 180) none (.sls (.tmp 175) none (some (.tmp 179))),
     .call (some 181) none (.con (.fn 47 [] [])) [(.tmp 180)],
     .op (some 174) none (.mov (.tmp 181)),
     .op (some 182) none (.ext (.tmp 174) 0),
     .op (some 183) none (.ext (.tmp 174) 1),
     .op (some 8) none (.new 0 [(.int .u8 0), (.int .i64 0)]),
     .op none none (.store 2 (.tmp 8) (.tmp 182)),
     .op (some 9) none (.mov (.tmp 183))])
  (.seq (.region none 0
    [.op (some 184) none (.load true 2 (.tmp 8)),
     .op (some 185) none (.fld 17 (.tmp 1)),
     .op (some 186) none (.load true 2 (.tmp 185)),
     .op (some 187) none (.eqp false true [(.int .u8), (.int .i64)] (.tmp 184) (.tmp 186)),
     .op (some 188) none (.mov (.tmp 187)),
     .op (some 189) (some (188, true)) (.mov (.tmp 9)),
     .op (some 190) (some (188, true)) (.fld 19 (.tmp 1)),
     .op (some 191) (some (188, true)) (.load false 1 (.tmp 190)),
     .op (some 192) (some (188, true)) (.bin .eql (.tmp 189) (.tmp 191)),
     .op (some 193) none (.pick (.tmp 188) (.tmp 192) (.con (.bool false))),
     .op (some 2) none (.mov (.tmp 193))])
  .ret)))))))))))) }
/-- campanile/ctl.out -/
def x32 : XFunc := { ntmps := 42, results := [(.tmp 2)], body :=
  (.seq (.region none 1
    [.op (some 1) none (.box 0 23 (.tmp 0)),
     .op (some 2) none (.mov (.con (.bool false)))])
  (.seq (.region none 0
    [.op (some 3) none (.fld 14 (.tmp 1)),
     .op (some 4) none (.load false 1 (.tmp 3)),
     .op (some 5) none (.not (.tmp 4)),
     .op (some 6) none (.mov (.tmp 5)),
     .op (some 7) (some (6, true)) (.fld 15 (.tmp 1)),
     .op (some 8) (some (6, true)) (.load false 1 (.tmp 7)),
     .op (some 9) (some (6, true)) (.bin .eql (.tmp 8) (.con (.str []))),
     .op (some 10) none (.pick (.tmp 6) (.tmp 9) (.con (.bool false))),
     .op (some 11) none (.mov (.tmp 10)),
     .op (some 12) (some (11, true)) (.fld 16 (.tmp 1)),
     .op (some 13) (some (11, true)) (.load false 1 (.tmp 12)),
     .op (some 14) (some (11, true)) (.bin .eql (.tmp 13) (.con (.int .i64 0))),
     .op (some 15) none (.pick (.tmp 11) (.tmp 14) (.con (.bool false))),
     .op (some 16) none (.mov (.tmp 15)),
     .op (some 17) (some (16, true)) (.fld 17 (.tmp 1)),
     .op (some 18) (some (16, true)) (.load true 2 (.tmp 17)),
     .op (some 19) (some (16, true)) (.build [(.int .u8 0), (.int .i64 0)] []),
     .op (some 20) (some (16, true)) (.eqp false true [(.int .u8), (.int .i64)] (.tmp 18) (.tmp 19)),
     .op (some 21) none (.pick (.tmp 16) (.tmp 20) (.con (.bool false))),
     .op (some 22) none (.mov (.tmp 21)),
     .op (some 23) (some (22, true)) (.fld 19 (.tmp 1)),
     .op (some 24) (some (22, true)) (.load false 1 (.tmp 23)),
     .op (some 25) (some (22, true)) (.bin .eql (.tmp 24) (.con (.str []))),
     .op (some 26) none (.pick (.tmp 22) (.tmp 25) (.con (.bool false))),
     .op (some 27) none (.mov (.tmp 26)),
     .op (some 28) (some (27, true)) (.fld 20 (.tmp 1)),
     .op (some 29) (some (27, true)) (.load false 1 (.tmp 28)),
     .op (some 30) (some (27, true)) (.not (.tmp 29)),
     .op (some 31) none (.pick (.tmp 27) (.tmp 30) (.con (.bool false))),
     .op (some 32) none (.mov (.tmp 31)),
     .op (some 33) (some (32, true)) (.fld 21 (.tmp 1)),
     .op (some 34) (some (32, true)) (.load false 1 (.tmp 33)),
     .op (some 35) (some (32, true)) (.bin .eql (.tmp 34) (.con (.int .i64 0))),
     .op (some 36) none (.pick (.tmp 32) (.tmp 35) (.con (.bool false))),
     .op (some 37) none (.mov (.tmp 36)),
     .op (some 38) (some (37, true)) (.fld 22 (.tmp 1)),
     .op (some 39) (some (37, true)) (.load false 1 (.tmp 38)),
     .op (some 40) (some (37, true)) (.not (.tmp 39)),
     .op (some 41) none (.pick (.tmp 37) (.tmp 40) (.con (.bool false))),
     .op (some 2) none (.mov (.tmp 41))])
  .ret)) }
/-- campanile/box.Best -/
def x33 : XFunc := { ntmps := 19, results := [(.cell 2 true 7), (.tmp 3)], body :=
  (.seq (.region none 2
    [.op (some 1) none (.box 0 3 (.tmp 0)),
     .op (some 2) none (.new 1 [(.int .i64 0), (.int .u32 0), (.bool false), (.bool false), (.int .i64 0), (.str []), (.int .i64 0)]),
     .op (some 3) none (.mov (.con (.int .i64 0)))])
  (.seq (.block 0 (.seq (.region none 0
    [.op (some 5) none (.load true 3 (.tmp 1)),
     .call (some 6) none (.con (.fn 36 [] [])) [(.tmp 5)],
     .op (some 7) none (.not (.tmp 6)),
     .op (some 4) none (.mov (.tmp 7))])
  (.cond (.tmp 4)
  (.seq (.region none 0
    [.op (some 8) none (.build [(.int .i64 0), (.int .u32 0), (.bool false), (.bool false), (.int .i64 0), (.str []), (.int .i64 0)] []),
     .op none none (.store 7 (.tmp 2) (.tmp 8)),
     .op (some 3) none (.mov (.con (.int .i64 1)))])
  .ret)
  (.seq (.region none 0
    [.op (some 10) none (.fld 0 (.tmp 1)),
     .op (some 11) none (.load false 1 (.tmp 10)),
     .op (some 12) none (.len false (.tmp 11)),
     .op (some 13) none (.bin .eql (.tmp 12) (.con (.int .i64 0))),
     .op (some 9) none (.mov (.tmp 13))])
  (.cond (.tmp 9)
  (.seq (.region none 0
    [.op (some 14) none (.build [(.int .i64 0), (.int .u32 0), (.bool false), (.bool false), (.int .i64 0), (.str []), (.int .i64 0)] []),
     .op none none (.store 7 (.tmp 2) (.tmp 14)),
     .op (some 3) none (.mov (.con (.int .i64 21)))])
  .ret)
  .skip)))))
  (.seq (.region none 0
    [.op (some 15) none (.fld 0 (.tmp 1)),
     .op (some 16) none (.load false 1 (.tmp 15)),
     .op (some 17) none (.idx 7 (.tmp 16) (.con (.int .i64 0))),
     .op (some 18) none (.load true 7 (.tmp 17)),
     .op none none (.store 7 (.tmp 2) (.tmp 18)),
     .op (some 3) none (.mov (.con (.int .i64 0)))])
  .ret))) }
/-- slices.Clone[[]campanile/api.Box,campanile/api.Box] -/
def x34 : XFunc := { ntmps := 8, results := [(.tmp 2)], body :=
  (.seq (.region none 0
    [.op (some 2) none (.mov (.con .nil))])
  (.seq (.seq (.region none 0
    [.op (some 3) none (.mov (.tmp 0)),
     .op (some 4) none (.eqn false .slice (.tmp 3))])
  (.cond (.tmp 4)
  (.seq (.region none 0
    [.op (some 2) none (.mov (.con .nil))])
  .ret)
  .skip))
  (.seq (.region none 2
    [.op (some 5) none (.bsl 0 7 0 [] []),
     .op (some 6) none (.mov (.tmp 0)),
     .op (some 7) none (.app 1 7 48 (.tmp 5) (.tmp 6)),
     .op (some 2) none (.mov (.tmp 7))])
  .ret))) }
/-- container/heap.Pop -/
def x35 : XFunc := { ntmps := 15, results := [(.tmp 2)], body :=
  (.seq (.region none 0
    [.op (some 2) none (.mov (.con .nili))])
  (.seq (.region none 0
    [.op (some 4) none (.mov (.tmp 0)),
     .inv (some 5) none (.tmp 4) "Len" [],
     .op (some 6) none (.bin .sub (.tmp 5) (.con (.int .i64 1))),
     .op (some 3) none (.mov (.tmp 6))])
  (.seq (.region none 0
    [.op (some 7) none (.mov (.tmp 0)),
     .op (some 8) none (.mov (.tmp 3)),
     .inv (some 9) none (.tmp 7) "Swap" [(.con (.int .i64 0)), (.tmp 8)]])
  (.seq (.region none 0
    [.op (some 10) none (.mov (.tmp 0)),
     .op (some 11) none (.mov (.tmp 3)),
     .call (some 12) none (.con (.fn 48 [] [])) [(.tmp 10), (.con (.int .i64 0)), (.tmp 11)]])
  (.seq (.region none 0
    [.op (some 13) none (.mov (.tmp 0)),
     .inv (some 14) none (.tmp 13) "Pop" [],
     .op (some 2) none (.mov (.tmp 14))])
  .ret))))) }
/-- campanile/box.Right -/
def x36l0 : XCode := (.seq (.region none 0
    [.op (some 36) none (.bin .lss (.tmp 35) (.tmp 34))])
  (.seq (.cond (.tmp 36)
  .skip
  (.exit 0))
  (.seq (.block 1 (.seq (.region none 1
    [.op (some 37) none (.mov (.tmp 35)),
     .op (some 38) none (.idx 7 (.tmp 33) (.tmp 35)),
     .op (some 39) none (.load true 7 (.tmp 38)),
     .op (some 4) none (.new 0 [(.int .i64 0), (.int .u32 0), (.bool false), (.bool false), (.int .i64 0), (.str []), (.int .i64 0)]),
     .op (some 3) none (.mov (.tmp 37)),
     .op none none (.store 7 (.tmp 4) (.tmp 39))])
  (.seq (.region none 0
    [.op (some 40) none (.mkf 49 [] [(.tmp 4)]),
     .op (some 5) none (.mov (.tmp 40))])
  (.seq (.seq (.region none 0
    [.op (some 41) none (.fld 1 (.tmp 4)),
     .op (some 42) none (.load true 5 (.tmp 41)),
     .call (some 43) none (.con (.fn 30 [] [])) [(.tmp 42)],
     .op (some 44) none (.not (.tmp 43)),
     .op (some 45) none (.mov (.tmp 44)),
     .op (some 46) (some (45, false)) (.fld 0 (.tmp 4)),
     .op (some 47) (some (45, false)) (.load false 1 (.tmp 46)),
     .op (some 48) (some (45, false)) (.bin .lss (.tmp 47) (.con (.int .i64 0))),
     .op (some 49) none (.pick (.tmp 45) (.con (.bool true)) (.tmp 48)),
     .op (some 50) none (.mov (.tmp 49)),
     .op (some 51) (some (50, false)) (.fld 0 (.tmp 4)),
     .op (some 52) (some (50, false)) (.load false 1 (.tmp 51)),
     .op (some 53) (some (50, false)) (.bin .gtr (.tmp 52) (.con (.int .i64 1000000))),
     .op (some 54) none (.pick (.tmp 50) (.con (.bool true)) (.tmp 53)),
     .op (some 55) none (.mov (.tmp 54)),
     .op (some 56) (some (55, false)) (.fld 6 (.tmp 4)),
     .op (some 57) (some (55, false)) (.load false 1 (.tmp 56)),
     .op (some 58) (some (55, false)) (.bin .lss (.tmp 57) (.con (.int .i64 0))),
     .op (some 59) none (.pick (.tmp 55) (.con (.bool true)) (.tmp 58)),
     .op (some 60) none (.mov (.tmp 59)),
     .op (some 61) (some (60, false)) (.fld 6 (.tmp 4)),
     .op (some 62) (some (60, false)) (.load false 1 (.tmp 61)),
     .op (some 63) (some (60, false)) (.fld 1 (.tmp 1)),
     .op (some 64) (some (60, false)) (.load false 1 (.tmp 63)),
     .op (some 65) (some (60, false)) (.bin .geq (.tmp 62) (.tmp 64)),
     .op (some 66) none (.pick (.tmp 60) (.con (.bool true)) (.tmp 65)),
     .op (some 67) none (.mov (.tmp 66)),
     .op (some 68) (some (67, false)) (.fld 0 (.tmp 1)),
     .op (some 69) (some (67, false)) (.load false 1 (.tmp 68)),
     .op (some 70) (some (67, false)) (.mov (.tmp 3)),
     .op (some 71) (some (67, false)) (.slc 7 (.tmp 69) none (some (.tmp 70))),
     .op (some 72) (some (67, false)) (.mov (.tmp 5)),
     .call (some 73) (some (67, false)) (.con (.fn 50 [] [])) [(.tmp 71), (.tmp 72)],
     .op (some 74) none (.pick (.tmp 67) (.con (.bool true)) (.tmp 73))])
  (.cond (.tmp 74)
  (.seq (.region none 0
    [.op (some 2) none (.mov (.con (.bool false)))])
  .ret)
  .skip))
  (.seq (.region (some [(3, 5), (3, 10)]) 0
    [.op (some 75) none (.mov (.tmp 3)),
     .op (some 76) none (.bin .gtr (.tmp 75) (.con (.int .i64 0))),
     .op (some 77) none (.mov (.tmp 76)),
     .op (some 78) (some (77, true)) (.load true 7 (.tmp 4)),
     .op (some 79) (some (77, true)) (.fld 0 (.tmp 1)),
     .op (some 80) (some (77, true)) (.load false 1 (.tmp 79)),
     .op (some 81) (some (77, true)) (.mov (.tmp 3)),
     .op (some 82) (some (77, true)) (.bin .sub (.tmp 81) (.con (.int .i64 1))),
     .op (some 83) (some (77, true)) (.bin .quo (.tmp 82) (.con (.int .i64 2))),
     .op (some 84) (some (77, true)) (.idx 7 (.tmp 80) (.tmp 83)),
     .op (some 85) (some (77, true)) (.load true 7 (.tmp 84)),
     .call (some 86) (some (77, true)) (.con (.fn 51 [] [])) [(.tmp 78), (.tmp 85)],
     .op (some 87) none (.pick (.tmp 77) (.tmp 86) (.con (.bool false)))])
  (.cond (.tmp 87)
  (.seq (.region none 0
    [.op (some 2) none (.mov (.con (.bool false)))])
  .ret)
  .skip))))))
  (.region none 0
    [.op (some 88) none (.bin .add (.tmp 35) (.con (.int .i64 1))),
     .op (some 35) none (.mov (.tmp 88))]))))
def x36 : XFunc := { ntmps := 89, results := [(.tmp 2)], body :=
  (.seq (.region none 1
    [.op (some 1) none (.box 0 3 (.tmp 0)),
     .op (some 2) none (.mov (.con (.bool false)))])
  (.seq (.seq (.region none 0
    [.op (some 6) none (.fld 2 (.tmp 1)),
     .op (some 7) none (.load false 1 (.tmp 6)),
     .op (some 8) none (.bin .lss (.tmp 7) (.con (.int .i64 1))),
     .op (some 9) none (.mov (.tmp 8)),
     .op (some 10) (some (9, false)) (.fld 2 (.tmp 1)),
     .op (some 11) (some (9, false)) (.load false 1 (.tmp 10)),
     .op (some 12) (some (9, false)) (.bin .gtr (.tmp 11) (.con (.int .i64 8))),
     .op (some 13) none (.pick (.tmp 9) (.con (.bool true)) (.tmp 12)),
     .op (some 14) none (.mov (.tmp 13)),
     .op (some 15) (some (14, false)) (.fld 0 (.tmp 1)),
     .op (some 16) (some (14, false)) (.load false 1 (.tmp 15)),
     .op (some 17) (some (14, false)) (.len false (.tmp 16)),
     .op (some 18) (some (14, false)) (.fld 2 (.tmp 1)),
     .op (some 19) (some (14, false)) (.load false 1 (.tmp 18)),
     .op (some 20) (some (14, false)) (.bin .gtr (.tmp 17) (.tmp 19)),
     .op (some 21) none (.pick (.tmp 14) (.con (.bool true)) (.tmp 20)),
     .op (some 22) none (.mov (.tmp 21)),
     .op (some 23) (some (22, false)) (.fld 1 (.tmp 1)),
     .op (some 24) (some (22, false)) (.load false 1 (.tmp 23)),
     .op (some 25) (some (22, false)) (.bin .lss (.tmp 24) (.con (.int .i64 0))),
     .op (some 26) none (.pick (.tmp 22) (.con (.bool true)) (.tmp 25)),
     .op (some 27) none (.mov (.tmp 26)),
     .op (some 28) (some (27, false)) (.fld 1 (.tmp 1)),
     .op (some 29) (some (27, false)) (.load false 1 (.tmp 28)),
     .op (some 30) (some (27, false)) (.bin .gtr (.tmp 29) (.con (.int .i64 1099511627776))),
     .op (some 31) none (.pick (.tmp 27) (.con (.bool true)) (.tmp 30))])
  (.cond (.tmp 31)
  (.seq (.region none 0
    [.op (some 2) none (.mov (.con (.bool false)))])
  .ret)
  .skip))
  (.seq (.seq (.region none 0
    [.op (some 32) none (.fld 0 (.tmp 1)),
     .op (some 33) none (.load false 1 (.tmp 32)),
     .op (some 34) none (.len false (.tmp 33)),
     .op (some 35) none (.mov (.con (.int .i64 0)))])
  (.block 0 (.loop x36l0)))
  (.seq (.region none 0
    [.op (some 2) none (.mov (.con (.bool true)))])
  .ret)))) }
/-- container/heap.Push -/
def x37 : XFunc := { ntmps := 12, results := [], body :=
  (.seq (.region none 0
    [.op (some 4) none (.mov (.tmp 0)),
     .op (some 5) none (.mov (.tmp 1)),
     .inv (some 6) none (.tmp 4) "Push" [(.tmp 5)]])
  (.region none 0
    [.op (some 7) none (.mov (.tmp 0)),
     .op (some 8) none (.mov (.tmp 0)),
     .inv (some 9) none (.tmp 8) "Len" [],
     .op (some 10) none (.bin .sub (.tmp 9) (.con (.int .i64 1))),
     .call (some 11) none (.con (.fn 52 [] [])) [(.tmp 7), (.tmp 10)]])) }
/-- campanile/campanileref09.Ahead -/
def x38 : XFunc := { ntmps := 23, results := [(.tmp 4)], body :=
  (.seq (.region none 2
    [.op (some 2) none (.box 0 7 (.tmp 0)),
     .op (some 3) none (.box 1 7 (.tmp 1)),
     .op (some 4) none (.mov (.con (.bool false)))])
  (.seq (.seq (.region none 0
    [.op (some 5) none (.fld 1 (.tmp 2)),
     .op (some 6) none (.load true 5 (.tmp 5)),
     .op (some 7) none (.fld 1 (.tmp 3)),
     .op (some 8) none (.load true 5 (.tmp 7)),
     .call (some 9) none (.con (.fn 26 [] [])) [(.tmp 6), (.tmp 8)]])
  (.cond (.tmp 9)
  (.seq (.region none 0
    [.op (some 4) none (.mov (.con (.bool true)))])
  .ret)
  .skip))
  (.seq (.region none 0
    [.op (some 10) none (.fld 1 (.tmp 3)),
     .op (some 11) none (.load true 5 (.tmp 10)),
     .op (some 12) none (.fld 1 (.tmp 2)),
     .op (some 13) none (.load true 5 (.tmp 12)),
     .call (some 14) none (.con (.fn 26 [] [])) [(.tmp 11), (.tmp 13)],
     .op (some 15) none (.not (.tmp 14)),
     .op (some 16) none (.mov (.tmp 15)),
     .op (some 17) (some (16, true)) (.fld 6 (.tmp 2)),
     .op (some 18) (some (16, true)) (.load false 1 (.tmp 17)),
     .op (some 19) (some (16, true)) (.fld 6 (.tmp 3)),
     .op (some 20) (some (16, true)) (.load false 1 (.tmp 19)),
     .op (some 21) (some (16, true)) (.bin .lss (.tmp 18) (.tmp 20)),
     .op (some 22) none (.pick (.tmp 16) (.tmp 21) (.con (.bool false))),
     .op (some 4) none (.mov (.tmp 22))])
  .ret))) }
/-- campanile/campanileref05.Field -/
def x39 : XFunc := { ntmps := 12, results := [(.tmp 2)], body :=
  (.seq (.region none 1
    [.op (some 1) none (.box 0 5 (.tmp 0)),
     .op (some 2) none (.mov (.con (.str [])))])
  (.seq (.region none 0
    [.op (some 4) none (.load true 5 (.tmp 1)),
     .call (some 5) none (.con (.fn 53 [] [])) [(.tmp 4)],
     .op (some 3) none (.mov (.tmp 5))])
  (.seq (.seq (.region none 0
    [.op (some 6) none (.fld 1 (.tmp 1)),
     .op (some 7) none (.load false 1 (.tmp 6))])
  (.cond (.tmp 7)
  (.seq (.region none 0
    [.op (some 8) none (.mov (.tmp 3)),
     .op (some 9) none (.sls (.tmp 8) (some (.con (.int .i64 1))) (some (.con (.int .i64 33)))),
     .op (some 2) none (.mov (.tmp 9))])
  .ret)
  .skip))
  (.seq (.region none 0
    [.op (some 10) none (.mov (.tmp 3)),
     .op (some 11) none (.sls (.tmp 10) (some (.con (.int .i64 1))) (some (.con (.int .i64 14)))),
     .op (some 2) none (.mov (.tmp 11))])
  .ret)))) }
/-- campanile/campanileref05.First -/
def x40l0 : XCode := (.seq (.seq (.region none 0
    [.op (some 6) none (.mov (.tmp 5)),
     .op (some 7) none (.mov (.tmp 0)),
     .op (some 8) none (.len true (.tmp 7)),
     .op (some 9) none (.bin .lss (.tmp 6) (.tmp 8)),
     .op (some 10) none (.mov (.tmp 9)),
     .op (some 11) (some (10, true)) (.mov (.tmp 5)),
     .op (some 12) (some (10, true)) (.mov (.tmp 1)),
     .op (some 13) (some (10, true)) (.len true (.tmp 12)),
     .op (some 14) (some (10, true)) (.bin .lss (.tmp 11) (.tmp 13)),
     .op (some 15) none (.pick (.tmp 10) (.tmp 14) (.con (.bool false)))])
  (.cond (.tmp 15)
  .skip
  (.exit 0)))
  (.seq (.block 1 (.seq (.region (some []) 0
    [.op (some 18) none (.mov (.tmp 0)),
     .op (some 19) none (.mov (.tmp 5)),
     .op (some 20) none (.sidx (.tmp 18) (.tmp 19)),
     .op (some 21) none (.mov (.tmp 1)),
     .op (some 22) none (.mov (.tmp 5)),
     .op (some 23) none (.sidx (.tmp 21) (.tmp 22)),
     .op (some 24) none (.bin .neq (.tmp 20) (.tmp 23))])
  (.cond (.tmp 24)
  (.seq (.region none 0
    [.op (some 25) none (.mov (.tmp 5)),
     .op (some 4) none (.mov (.tmp 25))])
  .ret)
  .skip)))
  (.region none 0
    [.op (some 16) none (.mov (.tmp 5)),
     .op (some 17) none (.bin .add (.tmp 16) (.con (.int .i64 1))),
     .op (some 5) none (.mov (.tmp 17))])))
def x40 : XFunc := { ntmps := 26, results := [(.tmp 4)], body :=
  (.seq (.region none 0
    [.op (some 4) none (.mov (.con (.int .i64 0)))])
  (.seq (.seq (.region none 0
    [.op (some 5) none (.mov (.con (.int .i64 0)))])
  (.block 0 (.loop x40l0)))
  (.seq (.region none 0
    [.op (some 4) none (.mov (.con (.int .i64 (-1))))])
  .ret))) }
/-- campanile/frame.Size -/
def x41 : XFunc := { ntmps := 43, results := [(.tmp 2), (.tmp 3)], body :=
  (.seq (.region none 0
    [.op (some 2) none (.mov (.con (.int .i64 0))),
     .op (some 3) none (.mov (.con (.int .i64 0)))])
  (.seq (.seq (.region none 0
    [.op (some 8) none (.mov (.tmp 0)),
     .call (some 9) none (.con (.fn 42 [] [])) [(.tmp 8)],
     .op (some 10) none (.not (.tmp 9))])
  (.cond (.tmp 10)
  (.seq (.region none 0
    [.op (some 2) none (.mov (.con (.int .i64 0))),
     .op (some 3) none (.mov (.con (.int .i64 1)))])
  .ret)
  .skip))
  (.seq (.seq (.region none 0
    [.op (some 11) none (.mov (.tmp 0)),
     .op (some 12) none (.len true (.tmp 11)),
     .op (some 13) none (.bin .lss (.tmp 12) (.con (.int .i64 14)))])
  (.cond (.tmp 13)
  (.seq (.region none 0
    [.op (some 2) none (.mov (.con (.int .i64 0))),
     .op (some 3) none (.mov (.con (.int .i64 3)))])
  .ret)
  .skip))
  (.seq (.region none 0
    [.op (some 4) none (.mov (.con (.int .i64 12))),
     .op (some 5) none (.mov (.con (.int .i64 19)))])
  (.seq (.seq (.region none 0
    [.op (some 14) none (.mov (.tmp 0)),
     .op (some 15) none (.sidx (.tmp 14) (.con (.int .i64 13))),
     .op (some 16) none (.bin .eql (.tmp 15) (.con (.int .u8 49)))])
  (.cond (.tmp 16)
  (.region none 0
    [.op (some 4) none (.mov (.con (.int .i64 32))),
     .op (some 5) none (.mov (.con (.int .i64 39)))])
  .skip))
  (.seq (.seq (.region none 0
    [.op (some 17) none (.mov (.tmp 0)),
     .op (some 18) none (.len true (.tmp 17)),
     .op (some 19) none (.mov (.tmp 5)),
     .op (some 20) none (.bin .lss (.tmp 18) (.tmp 19))])
  (.cond (.tmp 20)
  (.seq (.region none 0
    [.op (some 2) none (.mov (.con (.int .i64 0))),
     .op (some 3) none (.mov (.con (.int .i64 3)))])
  .ret)
  .skip))
  (.seq (.region none 0
    [.op (some 22) none (.mov (.tmp 0)),
     .op (some 23) none (.mov (.tmp 5)),
     .op (some 24) none (.bin .sub (.tmp 23) (.con (.int .i64 4))),
     .op (some 25) none (.mov (.tmp 5)),
     .op (some 26) none (.sls (.tmp 22) (some (.tmp 24)) (some (.tmp 25))),
     .call (some 27) none (.con (.fn 54 [] [])) [(.tmp 26)],
     .op (some 21) none (.mov (.tmp 27)),
     .op (some 28) none (.ext (.tmp 21) 0),
     .op (some 29) none (.ext (.tmp 21) 1),
     .op (some 6) none (.mov (.tmp 28)),
     .op (some 7) none (.mov (.tmp 29))])
  (.seq (.block 0 (.seq (.region none 0
    [.op (some 31) none (.mov (.tmp 6)),
     .op (some 32) none (.bin .gtr (.tmp 31) (.con (.int .u64 8))),
     .op (some 30) none (.mov (.tmp 32))])
  (.cond (.tmp 30)
  (.seq (.region none 0
    [.op (some 2) none (.mov (.con (.int .i64 0))),
     .op (some 3) none (.mov (.con (.int .i64 12)))])
  .ret)
  (.seq (.region none 0
    [.op (some 34) none (.mov (.tmp 0)),
     .op (some 35) none (.mov (.tmp 4)),
     .op (some 36) none (.sidx (.tmp 34) (.tmp 35)),
     .op (some 37) none (.bin .eql (.tmp 36) (.con (.int .u8 49))),
     .op (some 33) none (.mov (.tmp 37))])
  (.cond (.tmp 33)
  (.region none 0
    [.op (some 6) none (.mov (.con (.int .u64 0)))])
  .skip)))))
  (.seq (.region none 0
    [.op (some 38) none (.mov (.tmp 5)),
     .op (some 39) none (.mov (.tmp 6)),
     .op (some 40) none (.conv .i64 (.tmp 39)),
     .op (some 41) none (.bin .mul (.con (.int .i64 8)) (.tmp 40)),
     .op (some 42) none (.bin .add (.tmp 38) (.tmp 41)),
     .op (some 2) none (.mov (.tmp 42)),
     .op (some 3) none (.mov (.con (.int .i64 0)))])
  .ret))))))))) }
/-- campanile/bits.Right -/
def x42 : XFunc := { ntmps := 11, results := [(.tmp 2)], body :=
  (.seq (.region none 0
    [.op (some 2) none (.mov (.con (.bool false)))])
  (.seq (.region none 0
    [.op (some 3) none (.mov (.tmp 0)),
     .op (some 4) none (.len true (.tmp 3)),
     .op (some 5) none (.bin .leq (.tmp 4) (.con (.int .i64 4000))),
     .op (some 6) none (.mov (.tmp 5)),
     .op (some 7) (some (6, true)) (.mov (.tmp 0)),
     .call (some 8) (some (6, true)) (.con (.fn 55 [] [])) [(.tmp 7), (.con (.str [48, 49]))],
     .op (some 9) (some (6, true)) (.bin .eql (.tmp 8) (.con (.str []))),
     .op (some 10) none (.pick (.tmp 6) (.tmp 9) (.con (.bool false))),
     .op (some 2) none (.mov (.tmp 10))])
  .ret)) }
/-- campanile/stuff.Right -/
def x43 : XFunc := { ntmps := 22, results := [(.tmp 2)], body :=
  (.seq (.region none 1
    [.op (some 1) none (.box 0 2 (.tmp 0)),
     .op (some 2) none (.mov (.con (.bool false)))])
  (.seq (.seq (.region none 0
    [.op (some 3) none (.fld 0 (.tmp 1)),
     .op (some 4) none (.load false 1 (.tmp 3)),
     .op (some 5) none (.bin .eql (.tmp 4) (.con (.int .u8 0)))])
  (.cond (.tmp 5)
  (.seq (.region none 0
    [.op (some 6) none (.fld 1 (.tmp 1)),
     .op (some 7) none (.load false 1 (.tmp 6)),
     .op (some 8) none (.bin .eql (.tmp 7) (.con (.int .i64 0))),
     .op (some 2) none (.mov (.tmp 8))])
  .ret)
  .skip))
  (.seq (.region none 0
    [.op (some 9) none (.fld 0 (.tmp 1)),
     .op (some 10) none (.load false 1 (.tmp 9)),
     .call (some 11) none (.con (.fn 56 [] [])) [(.tmp 10)],
     .op (some 12) none (.mov (.tmp 11)),
     .op (some 13) (some (12, true)) (.fld 1 (.tmp 1)),
     .op (some 14) (some (12, true)) (.load false 1 (.tmp 13)),
     .op (some 15) (some (12, true)) (.bin .geq (.tmp 14) (.con (.int .i64 1))),
     .op (some 16) none (.pick (.tmp 12) (.tmp 15) (.con (.bool false))),
     .op (some 17) none (.mov (.tmp 16)),
     .op (some 18) (some (17, true)) (.fld 1 (.tmp 1)),
     .op (some 19) (some (17, true)) (.load false 1 (.tmp 18)),
     .op (some 20) (some (17, true)) (.bin .leq (.tmp 19) (.con (.int .i64 5))),
     .op (some 21) none (.pick (.tmp 17) (.tmp 20) (.con (.bool false))),
     .op (some 2) none (.mov (.tmp 21))])
  .ret))) }
/-- campanile/ctl.size -/
def x44 : XFunc := { ntmps := 14, results := [(.tmp 2)], body :=
  (.seq (.region none 0
    [.op (some 2) none (.mov (.con (.int .i64 0)))])
  (.seq (.region none 0
    [.op (some 6) none (.mov (.tmp 0)),
     .call (some 7) none (.con (.fn 41 [] [])) [(.tmp 6)],
     .op (some 5) none (.mov (.tmp 7)),
     .op (some 8) none (.ext (.tmp 5) 0),
     .op (some 9) none (.ext (.tmp 5) 1),
     .op (some 3) none (.mov (.tmp 8)),
     .op (some 4) none (.mov (.tmp 9))])
  (.seq (.seq (.region none 0
    [.op (some 10) none (.mov (.tmp 4)),
     .op (some 11) none (.bin .neq (.tmp 10) (.con (.int .i64 0)))])
  (.cond (.tmp 11)
  (.seq (.region none 0
    [.op (some 2) none (.mov (.con (.int .i64 0)))])
  .ret)
  .skip))
  (.seq (.region none 0
    [.op (some 12) none (.mov (.tmp 3)),
     .op (some 13) none (.bin .add (.tmp 12) (.con (.int .i64 15))),
     .op (some 2) none (.mov (.tmp 13))])
  .ret)))) }
/-- campanile/ctl.good -/
def x45 : XFunc := { ntmps := 24, results := [(.tmp 2)], body :=
  (.seq (.region none 0
    [.op (some 2) none (.mov (.con (.bool false)))])
  (.seq (.seq (.region none 0
    [.op (some 5) none (.mov (.tmp 0)),
     .op (some 6) none (.len true (.tmp 5)),
     .op (some 7) none (.bin .lss (.tmp 6) (.con (.int .i64 15))),
     .op (some 8) none (.mov (.tmp 7)),
     .op (some 9) (some (8, false)) (.mov (.tmp 0)),
     .call (some 10) (some (8, false)) (.con (.fn 57 [] [])) [(.tmp 9)],
     .op (some 11) (some (8, false)) (.not (.tmp 10)),
     .op (some 12) none (.pick (.tmp 8) (.con (.bool true)) (.tmp 11))])
  (.cond (.tmp 12)
  (.seq (.region none 0
    [.op (some 2) none (.mov (.con (.bool false)))])
  .ret)
  .skip))
  (.seq (.region none 1
    [.op (some 14) none (.mov (.tmp 0)),
     .op (some 15) none (.mov (.tmp 0)),
     .op (some 16) none (.len true (.tmp 15)),
     .op (some 17) none (.bin .sub (.tmp 16) (.con (.int .i64 15))),
     .op (some 18) none (.sls (.tmp 14) none (some (.tmp 17))),
     .call (some 19) none (.con (.fn 58 [] [])) [(.tmp 18)],
     .op (some 13) none (.mov (.tmp 19)),
     .op (some 20) none (.ext (.tmp 13) 0),
     .op (some 21) none (.ext (.tmp 13) 1),
     .op (some 3) none (.new 0 [(.int .u32 0), (.bool false), (.bool false), (.int .i64 0), (.str [])]),
     .op none none (.store 5 (.tmp 3) (.tmp 20)),
     .op (some 4) none (.mov (.tmp 21))])
  (.seq (.region none 0
    [.op (some 22) none (.mov (.tmp 4)),
     .op (some 23) none (.bin .eql (.tmp 22) (.con (.int .i64 0))),
     .op (some 2) none (.mov (.tmp 23))])
  .ret)))) }
/-- campanile/frame.Bits -/
def x46 : XFunc := { ntmps := 22, results := [(.tmp 2), (.tmp 3)], body :=
  (.seq (.region none 1
    [.op (some 1) none (.box 0 5 (.tmp 0)),
     .op (some 2) none (.mov (.con (.str []))),
     .op (some 3) none (.mov (.con (.int .i64 0)))])
  (.seq (.seq (.region none 0
    [.op (some 6) none (.load true 5 (.tmp 1)),
     .call (some 7) none (.con (.fn 30 [] [])) [(.tmp 6)],
     .op (some 8) none (.not (.tmp 7))])
  (.cond (.tmp 8)
  (.seq (.region none 0
    [.op (some 2) none (.mov (.con (.str []))),
     .op (some 3) none (.mov (.con (.int .i64 1)))])
  .ret)
  .skip))
  (.seq (.region none 0
    [.op (some 10) none (.load true 5 (.tmp 1)),
     .call (some 11) none (.con (.fn 60 [] [])) [(.tmp 10)],
     .call (some 12) none (.con (.fn 59 [] [])) [(.tmp 11)],
     .op (some 9) none (.mov (.tmp 12)),
     .op (some 13) none (.ext (.tmp 9) 0),
     .op (some 14) none (.ext (.tmp 9) 1),
     .op (some 4) none (.mov (.tmp 13)),
     .op (some 5) none (.mov (.tmp 14))])
  (.seq (.region none 0
    [.op (some 16) none (.mov (.tmp 4)),
     .call (some 17) none (.con (.fn 61 [] [])) [(.tmp 16)],
     .op (some 15) none (.mov (.tmp 17)),
     .op (some 18) none (.ext (.tmp 15) 0),
     .op (some 19) none (.ext (.tmp 15) 1),
     .op (some 4) none (.mov (.tmp 18))])
  (.seq (.region none 0
    [.op (some 20) none (.mov (.tmp 4)),
     .op (some 21) none (.bin .add (.tmp 20) (.con (.str [49, 49, 49, 49, 49, 49, 49, 49, 49, 49]))),
     .op (some 2) none (.mov (.tmp 21)),
     .op (some 3) none (.mov (.con (.int .i64 0)))])
  .ret))))) }
/-- campanile/ctl.read -/
def x47l0 : XCode := (.seq (.region none 0
    [.op (some 13) none (.bin .lss (.tmp 12) (.tmp 11))])
  (.seq (.cond (.tmp 13)
  .skip
  (.exit 0))
  (.seq (.block 1 (.seq (.region none 0
    [.op (some 14) none (.mov (.tmp 12)),
     .op (some 6) none (.mov (.tmp 14))])
  (.seq (.region (some [(0, 9), (4, 9)]) 1
    [.op (some 16) none (.load true 2 (.tmp 4)),
     .op (some 17) none (.mov (.tmp 0)),
     .op (some 18) none (.mov (.tmp 6)),
     .op (some 19) none (.sidx (.tmp 17) (.tmp 18)),
     .call (some 20) none (.con (.fn 62 [] [])) [(.tmp 16), (.tmp 19)],
     .op (some 15) none (.mov (.tmp 20)),
     .op (some 21) none (.ext (.tmp 15) 0),
     .op (some 22) none (.ext (.tmp 15) 1),
     .op (some 23) none (.ext (.tmp 15) 2),
     .op (some 7) none (.new 0 [(.int .u8 0), (.int .i64 0)]),
     .op none none (.store 2 (.tmp 7) (.tmp 21)),
     .op (some 8) none (.mov (.tmp 22)),
     .op (some 9) none (.mov (.tmp 23))])
  (.seq (.region none 0
    [.op (some 24) none (.load true 2 (.tmp 7)),
     .op none none (.store 2 (.tmp 4) (.tmp 24))])
  (.seq (.region none 0
    [.op (some 25) none (.mov (.tmp 8)),
     .op (some 26) none (.bin .eql (.tmp 25) (.con (.int .i64 1)))])
  (.cond (.tmp 26)
  (.region none 2
    [.op (some 27) none (.mov (.tmp 5)),
     .op (some 28) none (.mov (.tmp 0)),
     .op (some 29) none (.mov (.tmp 6)),
     .op (some 30) none (.sidx (.tmp 28) (.tmp 29)),
     .op (some 31) none (.bsl 0 1 1 [(.int .u8 0)] [(0, 1, (.tmp 30))]),
     .op (some 32) none (.app 1 1 1 (.tmp 27) (.tmp 31)),
     .op (some 5) none (.mov (.tmp 32))])
  .skip))))))
  (.region none 0
    [.op (some 33) none (.bin .add (.tmp 12) (.con (.int .i64 1))),
     .op (some 12) none (.mov (.tmp 33))]))))
def x47 : XFunc := { ntmps := 37, results := [(.cell 2 true 2), (.tmp 3)], body :=
  (.seq (.region none 1
    [.op (some 2) none (.new 0 [(.int .u8 0), (.int .i64 0)]),
     .op (some 3) none (.mov (.con (.str [])))])
  (.seq (.region none 1
    [.op (some 4) none (.new 0 [(.int .u8 0), (.int .i64 0)])])
  (.seq (.region none 0
    [.op (some 5) none (.mov (.con .nil))])
  (.seq (.seq (.region none 0
    [.op (some 10) none (.mov (.tmp 0)),
     .op (some 11) none (.len true (.tmp 10)),
     .op (some 12) none (.mov (.con (.int .i64 0)))])
  (.block 0 (.loop x47l0)))
  (.seq (.region (some [(0, 2), (2, 3)]) 0
    [.op (some 34) none (.load true 2 (.tmp 4)),
     .op (some 35) none (.mov (.tmp 5)),
     .op (some 36) none (.b2s (.tmp 35)),
     .op none none (.store 2 (.tmp 2) (.tmp 34)),
     .op (some 3) none (.mov (.tmp 36))])
  .ret))))) }
/-- container/heap.down -/
def x48l0 : XCode := (.block 1 (.seq (.region none 0
    [.op (some 12) none (.mov (.tmp 7)),
     .op (some 13) none (.bin .mul (.con (.int .i64 2)) (.tmp 12)),
     .op (some 14) none (.bin .add (.tmp 13) (.con (.int .i64 1))),
     .op (some 8) none (.mov (.tmp 14))])
  (.seq (.seq (.region none 0
    [.op (some 15) none (.mov (.tmp 8)),
     .op (some 16) none (.mov (.tmp 2)),
     .op (some 17) none (.bin .geq (.tmp 15) (.tmp 16)),
     .op (some 18) none (.mov (.tmp 17)),
     .op (some 19) (some (18, false)) (.mov (.tmp 8)),
     .op (some 20) (some (18, false)) (.bin .lss (.tmp 19) (.con (.int .i64 0))),
     .op (some 21) none (.pick (.tmp 18) (.con (.bool true)) (.tmp 20))])
  (.cond (.tmp 21)
  (.exit 0)
  .skip))
  (.seq (.region none 0
    [.op (some 22) none (.mov (.tmp 8)),
     .op (some 9) none (.mov (.tmp 22))])
  (.seq (.seq (.region none 0
    [.op (some 23) none (.mov (.tmp 8)),
     .op (some 24) none (.bin .add (.tmp 23) (.con (.int .i64 1))),
     .op (some 10) none (.mov (.tmp 24))])
  (.seq (.region none 0
    [.op (some 25) none (.mov (.tmp 10)),
     .op (some 26) none (.mov (.tmp 2)),
     .op (some 27) none (.bin .lss (.tmp 25) (.tmp 26)),
     .op (some 28) none (.mov (.tmp 27)),
     .op (some 29) (some (28, true)) (.mov (.tmp 0)),
     .op (some 30) (some (28, true)) (.mov (.tmp 10)),
     .op (some 31) (some (28, true)) (.mov (.tmp 8)),
     .inv (some 32) (some (28, true)) (.tmp 29) "Less" [(.tmp 30), (.tmp 31)],
     .op (some 33) none (.pick (.tmp 28) (.tmp 32) (.con (.bool false)))])
  (.cond (.tmp 33)
  (.region none 0
    [.op (some 34) none (.mov (.tmp 10)),
     .op (some 9) none (.mov (.tmp 34))])
  .skip)))
  (.seq (.seq (.region none 0
    [.op (some 35) none (.mov (.tmp 0)),
     .op (some 36) none (.mov (.tmp 9)),
     .op (some 37) none (.mov (.tmp 7)),
     .inv (some 38) none (.tmp 35) "Less" [(.tmp 36), (.tmp 37)],
     .op (some 39) none (.not (.tmp 38))])
  (.cond (.tmp 39)
  (.exit 0)
  .skip))
  (.seq (.region none 0
    [.op (some 40) none (.mov (.tmp 0)),
     .op (some 41) none (.mov (.tmp 7)),
     .op (some 42) none (.mov (.tmp 9)),
     .inv (some 43) none (.tmp 40) "Swap" [(.tmp 41), (.tmp 42)]])
  (.region none 0
    [.op (some 44) none (.mov (.tmp 9)),
     .op (some 7) none (.mov (.tmp 44))]))))))))
def x48 : XFunc := { ntmps := 48, results := [(.tmp 6)], body :=
  (.seq (.region none 0
    [.op (some 6) none (.mov (.con (.bool false)))])
  (.seq (.region none 0
    [.op (some 11) none (.mov (.tmp 1)),
     .op (some 7) none (.mov (.tmp 11))])
  (.seq (.block 0 (.loop x48l0))
  (.seq (.region none 0
    [.op (some 45) none (.mov (.tmp 7)),
     .op (some 46) none (.mov (.tmp 1)),
     .op (some 47) none (.bin .gtr (.tmp 45) (.tmp 46)),
     .op (some 6) none (.mov (.tmp 47))])
  .ret)))) }
/-- campanile/box.Right$1 -/
def x49 : XFunc := { ntmps := 9, results := [(.tmp 3)], body :=
  (.seq (.region none 1
    [.op (some 2) none (.box 0 7 (.tmp 0)),
     .op (some 3) none (.mov (.con (.bool false)))])
  (.seq (.region none 0
    [.op (some 4) none (.fld 6 (.tmp 2)),
     .op (some 5) none (.load false 1 (.tmp 4)),
     .op (some 6) none (.fld 6 (.tmp 1)),
     .op (some 7) none (.load false 1 (.tmp 6)),
     .op (some 8) none (.bin .eql (.tmp 5) (.tmp 7)),
     .op (some 3) none (.mov (.tmp 8))])
  .ret)) }
/-- slices.ContainsFunc[[]campanile/api.Box,campanile/api.Box] -/
def x50 : XFunc := { ntmps := 9, results := [(.tmp 4)], body :=
  (.seq (.region none 0
    [.op (some 4) none (.mov (.con (.bool false)))])
  (.seq (.region none 0
    [.op (some 5) none (.mov (.tmp 0)),
     .op (some 6) none (.mov (.tmp 1)),
     .call (some 7) none (.con (.fn 63 [] [])) [(.tmp 5), (.tmp 6)],
     .op (some 8) none (.bin .geq (.tmp 7) (.con (.int .i64 0))),
     .op (some 4) none (.mov (.tmp 8))])
  .ret)) }
/-- campanile/box.ahead -/
def x51 : XFunc := { ntmps := 25, results := [(.tmp 4)], body :=
  (.seq (.region none 2
    [.op (some 2) none (.box 0 7 (.tmp 0)),
     .op (some 3) none (.box 1 7 (.tmp 1)),
     .op (some 4) none (.mov (.con (.bool false)))])
  (.seq (.region none 0
    [.op (some 5) none (.fld 1 (.tmp 2)),
     .op (some 6) none (.load true 5 (.tmp 5)),
     .op (some 7) none (.fld 1 (.tmp 3)),
     .op (some 8) none (.load true 5 (.tmp 7)),
     .call (some 9) none (.con (.fn 64 [] [])) [(.tmp 6), (.tmp 8)],
     .op (some 10) none (.mov (.tmp 9)),
     .op (some 11) (some (10, false)) (.fld 1 (.tmp 3)),
     .op (some 12) (some (10, false)) (.load true 5 (.tmp 11)),
     .op (some 13) (some (10, false)) (.fld 1 (.tmp 2)),
     .op (some 14) (some (10, false)) (.load true 5 (.tmp 13)),
     .call (some 15) (some (10, false)) (.con (.fn 64 [] [])) [(.tmp 12), (.tmp 14)],
     .op (some 16) (some (10, false)) (.not (.tmp 15)),
     .op (some 17) (some (10, false)) (.mov (.tmp 16)),
     .op (some 18) (some (17, true)) (.fld 6 (.tmp 2)),
     .op (some 19) (some (17, true)) (.load false 1 (.tmp 18)),
     .op (some 20) (some (17, true)) (.fld 6 (.tmp 3)),
     .op (some 21) (some (17, true)) (.load false 1 (.tmp 20)),
     .op (some 22) (some (17, true)) (.bin .lss (.tmp 19) (.tmp 21)),
     .op (some 23) (some (10, false)) (.pick (.tmp 17) (.tmp 22) (.con (.bool false))),
     .op (some 24) none (.pick (.tmp 10) (.con (.bool true)) (.tmp 23)),
     .op (some 4) none (.mov (.tmp 24))])
  .ret)) }
/-- container/heap.up -/
def x52l0 : XCode := (.block 1 (.seq (.region none 0
    [.op (some 5) none (.mov (.tmp 1)),
     .op (some 6) none (.bin .sub (.tmp 5) (.con (.int .i64 1))),
     .op (some 7) none (.bin .quo (.tmp 6) (.con (.int .i64 2))),
     .op (some 4) none (.mov (.tmp 7))])
  (.seq (.seq (.region none 0
    [.op (some 8) none (.mov (.tmp 4)),
     .op (some 9) none (.mov (.tmp 1)),
     .op (some 10) none (.bin .eql (.tmp 8) (.tmp 9)),
     .op (some 11) none (.mov (.tmp 10)),
     .op (some 12) (some (11, false)) (.mov (.tmp 0)),
     .op (some 13) (some (11, false)) (.mov (.tmp 1)),
     .op (some 14) (some (11, false)) (.mov (.tmp 4)),
     .inv (some 15) (some (11, false)) (.tmp 12) "Less" [(.tmp 13), (.tmp 14)],
     .op (some 16) (some (11, false)) (.not (.tmp 15)),
     .op (some 17) none (.pick (.tmp 11) (.con (.bool true)) (.tmp 16))])
  (.cond (.tmp 17)
  (.exit 0)
  .skip))
  (.seq (.region none 0
    [.op (some 18) none (.mov (.tmp 0)),
     .op (some 19) none (.mov (.tmp 4)),
     .op (some 20) none (.mov (.tmp 1)),
     .inv (some 21) none (.tmp 18) "Swap" [(.tmp 19), (.tmp 20)]])
  (.region none 0
    [.op (some 22) none (.mov (.tmp 4)),
     .op (some 1) none (.mov (.tmp 22))])))))
def x52 : XFunc := { ntmps := 23, results := [], body :=
  (.block 0 (.loop x52l0)) }
/-- campanile/campanileref04.Head -/
def x53l0 : XCode := (.seq (.seq (.region none 0
    [.op (some 36) none (.mov (.tmp 6)),
     .op (some 37) none (.fld 4 (.tmp 1)),
     .op (some 38) none (.load false 1 (.tmp 37)),
     .op (some 39) none (.len true (.tmp 38)),
     .op (some 40) none (.bin .lss (.tmp 36) (.tmp 39))])
  (.cond (.tmp 40)
  .skip
  (.exit 0)))
  (.seq (.block 1 (.region none 0
    [.op (some 43) none (.mov (.tmp 4)),
     .op (some 44) none (.fld 4 (.tmp 1)),
     .op (some 45) none (.load false 1 (.tmp 44)),
     .op (some 46) none (.mov (.tmp 6)),
     .op (some 47) none (.sidx (.tmp 45) (.tmp 46)),
     .op (some 48) none (.conv .u64 (.tmp 47)),
     .call (some 49) none (.con (.fn 65 [] [])) [(.tmp 48), (.con (.int .i64 8))],
     .op (some 50) none (.bin .add (.tmp 43) (.tmp 49)),
     .op (some 4) none (.mov (.tmp 50))]))
  (.region none 0
    [.op (some 41) none (.mov (.tmp 6)),
     .op (some 42) none (.bin .add (.tmp 41) (.con (.int .i64 1))),
     .op (some 6) none (.mov (.tmp 42))])))
def x53 : XFunc := { ntmps := 52, results := [(.tmp 2)], body :=
  (.seq (.region none 1
    [.op (some 1) none (.box 0 5 (.tmp 0)),
     .op (some 2) none (.mov (.con (.str [])))])
  (.seq (.region none 0
    [.op (some 3) none (.mov (.con (.str [48])))])
  (.seq (.seq (.region none 0
    [.op (some 7) none (.fld 2 (.tmp 1)),
     .op (some 8) none (.load false 1 (.tmp 7))])
  (.cond (.tmp 8)
  (.region none 0
    [.op (some 3) none (.mov (.con (.str [49])))])
  .skip))
  (.seq (.region none 0
    [.op (some 9) none (.fld 0 (.tmp 1)),
     .op (some 10) none (.load false 1 (.tmp 9)),
     .op (some 11) none (.conv .u64 (.tmp 10)),
     .call (some 12) none (.con (.fn 65 [] [])) [(.tmp 11), (.con (.int .i64 11))],
     .op (some 13) none (.bin .add (.con (.str [48])) (.tmp 12)),
     .op (some 4) none (.mov (.tmp 13))])
  (.seq (.seq (.region none 0
    [.op (some 14) none (.fld 1 (.tmp 1)),
     .op (some 15) none (.load false 1 (.tmp 14))])
  (.cond (.tmp 15)
  (.seq (.region none 0
    [.op (some 16) none (.fld 0 (.tmp 1)),
     .op (some 17) none (.load false 1 (.tmp 16)),
     .op (some 18) none (.conv .u64 (.tmp 17)),
     .call (some 19) none (.con (.fn 65 [] [])) [(.tmp 18), (.con (.int .i64 29))],
     .op (some 5) none (.mov (.tmp 19))])
  (.region (some []) 0
    [.op (some 20) none (.mov (.tmp 5)),
     .op (some 21) none (.sls (.tmp 20) none (some (.con (.int .i64 11)))),
     .op (some 22) none (.bin .add (.con (.str [48])) (.tmp 21)),
     .op (some 23) none (.bin .add (.tmp 22) (.con (.str [49, 49]))),
     .op (some 24) none (.mov (.tmp 5)),
     .op (some 25) none (.sls (.tmp 24) (some (.con (.int .i64 11))) none),
     .op (some 26) none (.bin .add (.tmp 23) (.tmp 25)),
     .op (some 4) none (.mov (.tmp 26))]))
  .skip))
  (.seq (.region none 0
    [.op (some 27) none (.mov (.tmp 4)),
     .op (some 28) none (.mov (.tmp 3)),
     .op (some 29) none (.bin .add (.tmp 27) (.tmp 28)),
     .op (some 30) none (.bin .add (.tmp 29) (.con (.str [48, 48]))),
     .op (some 31) none (.fld 3 (.tmp 1)),
     .op (some 32) none (.load false 1 (.tmp 31)),
     .op (some 33) none (.conv .u64 (.tmp 32)),
     .call (some 34) none (.con (.fn 65 [] [])) [(.tmp 33), (.con (.int .i64 4))],
     .op (some 35) none (.bin .add (.tmp 30) (.tmp 34)),
     .op (some 4) none (.mov (.tmp 35))])
  (.seq (.seq (.region none 0
    [.op (some 6) none (.mov (.con (.int .i64 0)))])
  (.block 0 (.loop x53l0)))
  (.seq (.region none 0
    [.op (some 51) none (.mov (.tmp 4)),
     .op (some 2) none (.mov (.tmp 51))])
  .ret)))))))) }
/-- campanile/bits.Number -/
def x54l0 : XCode := (.seq (.region none 0
    [.op (some 17) none (.bin .lss (.tmp 16) (.tmp 15))])
  (.seq (.cond (.tmp 17)
  .skip
  (.exit 0))
  (.seq (.block 1 (.seq (.region none 0
    [.op (some 18) none (.mov (.tmp 16)),
     .op (some 5) none (.mov (.tmp 18))])
  (.region none 0
    [.op (some 19) none (.mov (.tmp 4)),
     .op (some 20) none (.bin .shl (.tmp 19) (.con (.int .u64 1))),
     .op (some 21) none (.mov (.tmp 0)),
     .op (some 22) none (.mov (.tmp 5)),
     .op (some 23) none (.sidx (.tmp 21) (.tmp 22)),
     .op (some 24) none (.bin .sub (.tmp 23) (.con (.int .u8 48))),
     .op (some 25) none (.conv .u64 (.tmp 24)),
     .op (some 26) none (.bin .or (.tmp 20) (.tmp 25)),
     .op (some 4) none (.mov (.tmp 26))])))
  (.region none 0
    [.op (some 27) none (.bin .add (.tmp 16) (.con (.int .i64 1))),
     .op (some 16) none (.mov (.tmp 27))]))))
def x54 : XFunc := { ntmps := 29, results := [(.tmp 2), (.tmp 3)], body :=
  (.seq (.region none 0
    [.op (some 2) none (.mov (.con (.int .u64 0))),
     .op (some 3) none (.mov (.con (.int .i64 0)))])
  (.seq (.seq (.region none 0
    [.op (some 6) none (.mov (.tmp 0)),
     .call (some 7) none (.con (.fn 42 [] [])) [(.tmp 6)],
     .op (some 8) none (.not (.tmp 7)),
     .op (some 9) none (.mov (.tmp 8)),
     .op (some 10) (some (9, false)) (.mov (.tmp 0)),
     .op (some 11) (some (9, false)) (.len true (.tmp 10)),
     .op (some 12) (some (9, false)) (.bin .gtr (.tmp 11) (.con (.int .i64 64))),
     .op (some 13) none (.pick (.tmp 9) (.con (.bool true)) (.tmp 12))])
  (.cond (.tmp 13)
  (.seq (.region none 0
    [.op (some 2) none (.mov (.con (.int .u64 0))),
     .op (some 3) none (.mov (.con (.int .i64 1)))])
  .ret)
  .skip))
  (.seq (.region none 0
    [.op (some 4) none (.mov (.con (.int .u64 0)))])
  (.seq (.seq (.region none 0
    [.op (some 14) none (.mov (.tmp 0)),
     .op (some 15) none (.len true (.tmp 14)),
     .op (some 16) none (.mov (.con (.int .i64 0)))])
  (.block 0 (.loop x54l0)))
  (.seq (.region none 0
    [.op (some 28) none (.mov (.tmp 4)),
     .op (some 2) none (.mov (.tmp 28)),
     .op (some 3) none (.mov (.con (.int .i64 0)))])
  .ret))))) }
/-- strings.TrimLeft -/
def x55 : XFunc := { ntmps := 37, results := [(.tmp 4)], body :=
  (.seq (.region none 0
    [.op (some 4) none (.mov (.con (.str [])))])
  (.seq (.seq (.region none 0
    [.op (some 7) none (.mov (.tmp 0)),
     .op (some 8) none (.bin .eql (.tmp 7) (.con (.str []))),
     .op (some 9) none (.mov (.tmp 8)),
     .op (some 10) (some (9, false)) (.mov (.tmp 1)),
     .op (some 11) (some (9, false)) (.bin .eql (.tmp 10) (.con (.str []))),
     .op (some 12) none (.pick (.tmp 9) (.con (.bool true)) (.tmp 11))])
  (.cond (.tmp 12)
  (.seq (.region none 0
    [.op (some 13) none (.mov (.tmp 0)),
     .op (some 4) none (.mov (.tmp 13))])
  .ret)
  .skip))
  (.seq (.seq (.region none 0
    [.op (some 14) none (.mov (.tmp 1)),
     .op (some 15) none (.len true (.tmp 14)),
     .op (some 16) none (.bin .eql (.tmp 15) (.con (.int .i64 1))),
     .op (some 17) none (.mov (.tmp 16)),
     .op (some 18) (some (17, true)) (.mov (.tmp 1)),
     .op (some 19) (some (17, true)) (.sidx (.tmp 18) (.con (.int .i64 0))),
     .op (some 20) (some (17, true)) (.bin .lss (.tmp 19) (.con (.int .u8 128))),
     .op (some 21) none (.pick (.tmp 17) (.tmp 20) (.con (.bool false)))])
  (.cond (.tmp 21)
  (.seq (.region none 0
    [.op (some 22) none (.mov (.tmp 0)),
     .op (some 23) none (.mov (.tmp 1)),
     .op (some 24) none (.sidx (.tmp 23) (.con (.int .i64 0))),
     .call (some 25) none (.con (.fn 66 [] [])) [(.tmp 22), (.tmp 24)],
     .op (some 4) none (.mov (.tmp 25))])
  .ret)
  .skip))
  (.seq (.seq (.region none 1
    [.op (some 27) none (.mov (.tmp 1)),
     .call (some 28) none (.con (.fn 67 [] [])) [(.tmp 27)],
     .op (some 26) none (.mov (.tmp 28)),
     .op (some 29) none (.ext (.tmp 26) 0),
     .op (some 30) none (.ext (.tmp 26) 1),
     .op (some 5) none (.new 0 [(.bool false), (.bool false), (.bool false), (.bool false), (.bool false), (.bool false), (.bool false), (.bool false), (.bool false), (.bool false), (.bool false), (.bool false), (.bool false), (.bool false), (.bool false), (.bool false), (.bool false), (.bool false), (.bool false), (.bool false), (.bool false), (.bool false), (.bool false), (.bool false), (.bool false), (.bool false), (.bool false), (.bool false), (.bool false), (.bool false), (.bool false), (.bool false), (.bool false), (.bool false), (.bool false), (.bool false), (.bool false), (.bool false), (.bool false), (.bool false), (.bool false), (.bool false), (.bool false), (.bool false), (.bool false), (.bool false), (.bool false), (.bool false), (.bool false), (.bool false), (.bool false), (.bool false), (.bool false), (.bool false), (.bool false), (.bool false), (.bool false), (.bool false), (.bool false), (.bool false), (.bool false), (.bool false), (.bool false), (.bool false), (.bool false), (.bool false), (.bool false), (.bool false), (.bool false), (.bool false), (.bool false), (.bool false), (.bool false), (.bool false), (.bool false), (.bool false), (.bool false), (.bool false), (.bool false), (.bool false), (.bool false), (.bool false), (.bool false), (.bool false), (.bool false), (.bool false), (.bool false), (.bool false), (.bool false), (.bool false), (.bool false), (.bool false), (.bool false), (.bool false), (.bool false), (.bool false), (.bool false), (.bool false), (.bool false), (.bool false), (.bool false), (.bool false), (.bool false), (.bool false), (.bool false), (.bool false), (.bool false), (.bool false), (.bool false), (.bool false), (.bool false), (.bool false), (.bool false), (.bool false), (.bool false), (.bool false), (.bool false), (.bool false), (.bool false), (.bool false), (.bool false), (.bool false), (.bool false), (.bool false), (.bool false), (.bool false), (.bool false), (.bool false), (.bool false), (.bool false), (.bool false), (.bool false), (.bool false), (.bool false), (.bool false), (.bool false), (.bool false), (.bool false), (.bool false), (.bool false), (.bool false), (.bool false), (.bool false), (.bool false), (.bool false), (.bool false), (.bool false), (.bool false), (.bool false), (.bool false), (.bool false), (.bool false), (.bool false), (.bool false), (.bool false), (.bool false), (.bool false), (.bool false), (.bool false), (.bool false), (.bool false), (.bool false), (.bool false), (.bool false), (.bool false), (.bool false), (.bool false), (.bool false), (.bool false), (.bool false), (.bool false), (.bool false), (.bool false), (.bool false), (.bool false), (.bool false), (.bool false), (.bool false), (.bool false), (.bool false), (.bool false), (.bool false), (.bool false), (.bool false), (.bool false), (.bool false), (.bool false), (.bool false), (.bool false), (.bool false), (.bool false), (.bool false), (.bool false), (.bool false), (.bool false), (.bool false), (.bool false), (.bool false), (.bool false), (.bool false), (.bool false), (.bool false), (.bool false), (.bool false), (.bool false), (.bool false), (.bool false), (.bool false), (.bool false), (.bool false), (.bool false), (.bool false), (.bool false), (.bool false), (.bool false), (.bool false), (.bool false), (.bool false), (.bool false), (.bool false), (.bool false), (.bool false), (.bool false), (.bool false), (.bool false), (.bool false), (.bool false), (.bool false), (.bool false), (.bool false), (.bool false), (.bool false), (.bool false), (.bool false), (.bool false), (.bool false), (.bool false), (.bool false), (.bool false), (.bool false), (.bool false), (.bool false), (.bool false), (.bool false), (.bool false), (.bool false), (.bool false), (.bool false), (.bool false), (.bool false), (.bool false), (.bool false), (.bool false), (.bool false), (.bool false), (.bool false)]),
     .op none none (.store 256 (.tmp 5) (.tmp 29)),
     .op (some 6) none (.mov (.tmp 30))])
  (.seq (.region none 0
    [.op (some 31) none (.mov (.tmp 6))])
  (.cond (.tmp 31)
  (.seq (.region none 0
    [.op (some 32) none (.mov (.tmp 0)),
     .call (some 33) none (.con (.fn 68 [] [])) [(.tmp 32), (.tmp 5)],
     .op (some 4) none (.mov (.tmp 33))])
  .ret)
  .skip)))
  (.seq (.region none 0
    [.op (some 34) none (.mov (.tmp 0)),
     .op (some 35) none (.mov (.tmp 1)),
     .call (some 36) none (.con (.fn 69 [] [])) [(.tmp 34), (.tmp 35)],
     .op (some 4) none (.mov (.tmp 36))])
  .ret))))) }
/-- campanile/stuff.bit -/
def x56 : XFunc := { ntmps := 9, results := [(.tmp 2)], body :=
  (.seq (.region none 0
    [.op (some 2) none (.mov (.con (.bool false)))])
  (.seq (.region none 0
    [.op (some 3) none (.mov (.tmp 0)),
     .op (some 4) none (.bin .eql (.tmp 3) (.con (.int .u8 48))),
     .op (some 5) none (.mov (.tmp 4)),
     .op (some 6) (some (5, false)) (.mov (.tmp 0)),
     .op (some 7) (some (5, false)) (.bin .eql (.tmp 6) (.con (.int .u8 49))),
     .op (some 8) none (.pick (.tmp 5) (.con (.bool true)) (.tmp 7)),
     .op (some 2) none (.mov (.tmp 8))])
  .ret)) }
/-- campanile/crc.Check -/
def x57 : XFunc := { ntmps := 21, results := [(.tmp 2)], body :=
  (.seq (.region none 0
    [.op (some 2) none (.mov (.con (.bool false)))])
  (.seq (.region none 0
    [.op (some 6) none (.mov (.tmp 0)),
     .call (some 7) none (.con (.fn 70 [] [])) [(.tmp 6)],
     .op (some 5) none (.mov (.tmp 7)),
     .op (some 8) none (.ext (.tmp 5) 0),
     .op (some 9) none (.ext (.tmp 5) 1),
     .op (some 3) none (.mov (.tmp 8)),
     .op (some 4) none (.mov (.tmp 9))])
  (.seq (.region none 0
    [.op (some 10) none (.mov (.tmp 4)),
     .op (some 11) none (.bin .eql (.tmp 10) (.con (.int .i64 0))),
     .op (some 12) none (.mov (.tmp 11)),
     .op (some 13) (some (12, true)) (.mov (.tmp 0)),
     .op (some 14) (some (12, true)) (.len true (.tmp 13)),
     .op (some 15) (some (12, true)) (.bin .geq (.tmp 14) (.con (.int .i64 15))),
     .op (some 16) none (.pick (.tmp 12) (.tmp 15) (.con (.bool false))),
     .op (some 17) none (.mov (.tmp 16)),
     .op (some 18) (some (17, true)) (.mov (.tmp 3)),
     .op (some 19) (some (17, true)) (.bin .eql (.tmp 18) (.con (.int .u32 0))),
     .op (some 20) none (.pick (.tmp 17) (.tmp 19) (.con (.bool false))),
     .op (some 2) none (.mov (.tmp 20))])
  .ret))) }
/-- campanile/frame.Read -/
def x58l0 : XCode := (.seq (.seq (.region none 0
    [.op (some 55) none (.mov (.tmp 8)),
     .op (some 56) none (.load false 1 (.tmp 1)),
     .op (some 57) none (.len true (.tmp 56)),
     .op (some 58) none (.bin .lss (.tmp 55) (.tmp 57))])
  (.cond (.tmp 58)
  .skip
  (.exit 0)))
  (.seq (.block 1 (.region none 2
    [.op (some 61) none (.mov (.tmp 9)),
     .op (some 62) none (.mov (.tmp 6)),
     .op (some 63) none (.mov (.tmp 8)),
     .call (some 64) none (.tmp 62) [(.tmp 63), (.con (.int .i64 8))],
     .op (some 65) none (.conv .u8 (.tmp 64)),
     .op (some 66) none (.bsl 0 1 1 [(.int .u8 0)] [(0, 1, (.tmp 65))]),
     .op (some 67) none (.app 1 1 1 (.tmp 61) (.tmp 66)),
     .op (some 9) none (.mov (.tmp 67))]))
  (.region none 0
    [.op (some 59) none (.mov (.tmp 8)),
     .op (some 60) none (.bin .add (.tmp 59) (.con (.int .i64 8))),
     .op (some 8) none (.mov (.tmp 60))])))
def x58 : XFunc := { ntmps := 82, results := [(.cell 2 true 5), (.tmp 3)], body :=
  (.seq (.region none 2
    [.op (some 1) none (.box 0 1 (.tmp 0)),
     .op (some 2) none (.new 1 [(.int .u32 0), (.bool false), (.bool false), (.int .i64 0), (.str [])]),
     .op (some 3) none (.mov (.con (.int .i64 0)))])
  (.seq (.region none 0
    [.op (some 11) none (.load false 1 (.tmp 1)),
     .call (some 12) none (.con (.fn 41 [] [])) [(.tmp 11)],
     .op (some 10) none (.mov (.tmp 12)),
     .op (some 13) none (.ext (.tmp 10) 0),
     .op (some 14) none (.ext (.tmp 10) 1),
     .op (some 4) none (.mov (.tmp 13)),
     .op (some 5) none (.mov (.tmp 14))])
  (.seq (.seq (.region none 0
    [.op (some 15) none (.mov (.tmp 5)),
     .op (some 16) none (.bin .neq (.tmp 15) (.con (.int .i64 0))),
     .op (some 17) none (.mov (.tmp 16)),
     .op (some 18) (some (17, false)) (.mov (.tmp 4)),
     .op (some 19) (some (17, false)) (.load false 1 (.tmp 1)),
     .op (some 20) (some (17, false)) (.len true (.tmp 19)),
     .op (some 21) (some (17, false)) (.bin .neq (.tmp 18) (.tmp 20)),
     .op (some 22) none (.pick (.tmp 17) (.con (.bool true)) (.tmp 21))])
  (.cond (.tmp 22)
  (.seq (.region none 0
    [.op (some 23) none (.build [(.int .u32 0), (.bool false), (.bool false), (.int .i64 0), (.str [])] []),
     .op none none (.store 5 (.tmp 2) (.tmp 23)),
     .op (some 3) none (.mov (.con (.int .i64 12)))])
  .ret)
  .skip))
  (.seq (.region none 0
    [.op (some 24) none (.mkf 71 [] [(.tmp 1)]),
     .op (some 6) none (.mov (.tmp 24))])
  (.seq (.region (some [(1, 3), (1, 7), (3, 7)]) 1
    [.op (some 25) none (.mov (.tmp 6)),
     .call (some 26) none (.tmp 25) [(.con (.int .i64 1)), (.con (.int .i64 11))],
     .op (some 27) none (.conv .u32 (.tmp 26)),
     .op (some 28) none (.load false 1 (.tmp 1)),
     .op (some 29) none (.sidx (.tmp 28) (.con (.int .i64 13))),
     .op (some 30) none (.bin .eql (.tmp 29) (.con (.int .u8 49))),
     .op (some 31) none (.build [(.int .u32 0), (.bool false), (.bool false), (.int .i64 0), (.str [])] [(0, 1, (.tmp 27)), (1, 1, (.tmp 30))]),
     .op (some 7) none (.new 0 [(.int .u32 0), (.bool false), (.bool false), (.int .i64 0), (.str [])]),
     .op none none (.store 5 (.tmp 7) (.tmp 31))])
  (.seq (.region none 0
    [.op (some 8) none (.mov (.con (.int .i64 12)))])
  (.seq (.seq (.region none 0
    [.op (some 32) none (.fld 1 (.tmp 7)),
     .op (some 33) none (.load false 1 (.tmp 32))])
  (.cond (.tmp 33)
  (.seq (.region (some [(1, 4)]) 0
    [.op (some 34) none (.fld 0 (.tmp 7)),
     .op (some 35) none (.load false 1 (.tmp 34)),
     .op (some 36) none (.bin .shl (.tmp 35) (.con (.int .u64 18))),
     .op (some 37) none (.mov (.tmp 6)),
     .call (some 38) none (.tmp 37) [(.con (.int .i64 14)), (.con (.int .i64 18))],
     .op (some 39) none (.conv .u32 (.tmp 38)),
     .op (some 40) none (.bin .or (.tmp 36) (.tmp 39)),
     .op (some 41) none (.fld 0 (.tmp 7)),
     .op none none (.store 1 (.tmp 41) (.tmp 40))])
  (.region none 0
    [.op (some 8) none (.mov (.con (.int .i64 32)))]))
  .skip))
  (.seq (.region (some [(0, 7)]) 0
    [.op (some 42) none (.load false 1 (.tmp 1)),
     .op (some 43) none (.mov (.tmp 8)),
     .op (some 44) none (.sidx (.tmp 42) (.tmp 43)),
     .op (some 45) none (.bin .eql (.tmp 44) (.con (.int .u8 49))),
     .op (some 46) none (.mov (.tmp 6)),
     .op (some 47) none (.mov (.tmp 8)),
     .op (some 48) none (.bin .add (.tmp 47) (.con (.int .i64 3))),
     .call (some 49) none (.tmp 46) [(.tmp 48), (.con (.int .i64 4))],
     .op (some 50) none (.conv .i64 (.tmp 49)),
     .op (some 51) none (.fld 2 (.tmp 7)),
     .op none none (.store 1 (.tmp 51) (.tmp 45)),
     .op (some 52) none (.fld 3 (.tmp 7)),
     .op none none (.store 1 (.tmp 52) (.tmp 50))])
  (.seq (.region none 0
    [.op (some 9) none (.mov (.con .nil))])
  (.seq (.seq (.region none 0
    [.op (some 53) none (.mov (.tmp 8)),
     .op (some 54) none (.bin .add (.tmp 53) (.con (.int .i64 7))),
     .op (some 8) none (.mov (.tmp 54))])
  (.block 0 (.loop x58l0)))
  (.seq (.seq (.region none 0
    [.op (some 68) none (.mov (.tmp 9)),
     .op (some 69) none (.b2s (.tmp 68)),
     .op (some 70) none (.fld 4 (.tmp 7)),
     .op none none (.store 1 (.tmp 70) (.tmp 69))])
  (.seq (.region (some [(4, 6), (5, 6)]) 0
    [.op (some 71) none (.load true 5 (.tmp 7)),
     .call (some 72) none (.con (.fn 30 [] [])) [(.tmp 71)],
     .op (some 73) none (.not (.tmp 72)),
     .op (some 74) none (.mov (.tmp 73)),
     .op (some 75) (some (74, false)) (.load true 5 (.tmp 7)),
     .call (some 76) (some (74, false)) (.con (.fn 60 [] [])) [(.tmp 75)],
     .op (some 77) (some (74, false)) (.load false 1 (.tmp 1)),
     .op (some 78) (some (74, false)) (.bin .neq (.tmp 76) (.tmp 77)),
     .op (some 79) none (.pick (.tmp 74) (.con (.bool true)) (.tmp 78))])
  (.cond (.tmp 79)
  (.seq (.region none 0
    [.op (some 80) none (.build [(.int .u32 0), (.bool false), (.bool false), (.int .i64 0), (.str [])] []),
     .op none none (.store 5 (.tmp 2) (.tmp 80)),
     .op (some 3) none (.mov (.con (.int .i64 12)))])
  .ret)
  .skip)))
  (.seq (.region none 0
    [.op (some 81) none (.load true 5 (.tmp 7)),
     .op none none (.store 5 (.tmp 2) (.tmp 81)),
     .op (some 3) none (.mov (.con (.int .i64 0)))])
  .ret)))))))))))) }
/-- campanile/crc.Frame -/
def x59 : XFunc := { ntmps := 29, results := [(.tmp 2), (.tmp 3)], body :=
  (.seq (.region none 0
    [.op (some 2) none (.mov (.con (.str []))),
     .op (some 3) none (.mov (.con (.int .i64 0)))])
  (.seq (.region none 0
    [.op (some 8) none (.mov (.tmp 0)),
     .call (some 9) none (.con (.fn 70 [] [])) [(.tmp 8)],
     .op (some 7) none (.mov (.tmp 9)),
     .op (some 10) none (.ext (.tmp 7) 0),
     .op (some 11) none (.ext (.tmp 7) 1),
     .op (some 4) none (.mov (.tmp 10)),
     .op (some 5) none (.mov (.tmp 11))])
  (.seq (.seq (.region none 0
    [.op (some 12) none (.mov (.tmp 5)),
     .op (some 13) none (.bin .neq (.tmp 12) (.con (.int .i64 0))),
     .op (some 14) none (.mov (.tmp 13)),
     .op (some 15) (some (14, false)) (.mov (.tmp 0)),
     .op (some 16) (some (14, false)) (.len true (.tmp 15)),
     .op (some 17) (some (14, false)) (.bin .gtr (.tmp 16) (.con (.int .i64 3985))),
     .op (some 18) none (.pick (.tmp 14) (.con (.bool true)) (.tmp 17))])
  (.cond (.tmp 18)
  (.seq (.region none 0
    [.op (some 2) none (.mov (.con (.str []))),
     .op (some 3) none (.mov (.con (.int .i64 1)))])
  .ret)
  .skip))
  (.seq (.region none 0
    [.op (some 20) none (.mov (.tmp 4)),
     .op (some 21) none (.conv .u64 (.tmp 20)),
     .call (some 22) none (.con (.fn 72 [] [])) [(.tmp 21), (.con (.int .i64 15))],
     .op (some 19) none (.mov (.tmp 22)),
     .op (some 23) none (.ext (.tmp 19) 0),
     .op (some 24) none (.ext (.tmp 19) 1),
     .op (some 6) none (.mov (.tmp 23)),
     .op (some 5) none (.mov (.tmp 24))])
  (.seq (.region none 0
    [.op (some 25) none (.mov (.tmp 0)),
     .op (some 26) none (.mov (.tmp 6)),
     .op (some 27) none (.bin .add (.tmp 25) (.tmp 26)),
     .op (some 28) none (.mov (.tmp 5)),
     .op (some 2) none (.mov (.tmp 27)),
     .op (some 3) none (.mov (.tmp 28))])
  .ret))))) }
/-- campanile/frame.head -/
def x60l0 : XCode := (.seq (.region none 0
    [.op (some 49) none (.bin .lss (.tmp 48) (.tmp 47))])
  (.seq (.cond (.tmp 49)
  .skip
  (.exit 0))
  (.seq (.block 1 (.seq (.region none 0
    [.op (some 50) none (.mov (.tmp 48)),
     .op (some 4) none (.mov (.tmp 50))])
  (.region none 0
    [.op (some 51) none (.mov (.tmp 3)),
     .op (some 52) none (.fld 4 (.tmp 1)),
     .op (some 53) none (.load false 1 (.tmp 52)),
     .op (some 54) none (.mov (.tmp 4)),
     .op (some 55) none (.sidx (.tmp 53) (.tmp 54)),
     .op (some 56) none (.conv .u64 (.tmp 55)),
     .call (some 57) none (.con (.fn 74 [] [])) [(.tmp 51), (.tmp 56), (.con (.int .i64 8))]])))
  (.region none 0
    [.op (some 58) none (.bin .add (.tmp 48) (.con (.int .i64 1))),
     .op (some 48) none (.mov (.tmp 58))]))))
def x60 : XFunc := { ntmps := 63, results := [(.tmp 2)], body :=
  (.seq (.region none 1
    [.op (some 1) none (.box 0 5 (.tmp 0)),
     .op (some 2) none (.mov (.con (.str [])))])
  (.seq (.region none 1
    [.op (some 5) none (.build [.nilp, .nil] []),
     .op (some 6) none (.box 0 2 (.tmp 5)),
     .op (some 3) none (.mov (.tmp 6))])
  (.seq (.region none 0
    [.op (some 7) none (.mov (.tmp 3)),
     .call (some 8) none (.con (.fn 73 [] [])) [(.tmp 7), (.con (.bool false))]])
  (.seq (.seq (.region none 0
    [.op (some 9) none (.fld 1 (.tmp 1)),
     .op (some 10) none (.load false 1 (.tmp 9))])
  (.cond (.tmp 10)
  (.seq (.region none 0
    [.op (some 11) none (.mov (.tmp 3)),
     .op (some 12) none (.fld 0 (.tmp 1)),
     .op (some 13) none (.load false 1 (.tmp 12)),
     .op (some 14) none (.bin .shr (.tmp 13) (.con (.int .u64 18))),
     .op (some 15) none (.conv .u64 (.tmp 14)),
     .call (some 16) none (.con (.fn 74 [] [])) [(.tmp 11), (.tmp 15), (.con (.int .i64 11))]])
  (.seq (.region none 0
    [.op (some 17) none (.mov (.tmp 3)),
     .op (some 18) none (.nilc (.tmp 17)),
     .op (some 19) none (.fld 0 (.tmp 18)),
     .call (some 20) none (.con (.fn 75 [] [])) [(.tmp 19), (.con (.str [49, 49]))]])
  (.region none 0
    [.op (some 21) none (.mov (.tmp 3)),
     .op (some 22) none (.fld 0 (.tmp 1)),
     .op (some 23) none (.load false 1 (.tmp 22)),
     .op (some 24) none (.bin .and (.tmp 23) (.con (.int .u32 262143))),
     .op (some 25) none (.conv .u64 (.tmp 24)),
     .call (some 26) none (.con (.fn 74 [] [])) [(.tmp 21), (.tmp 25), (.con (.int .i64 18))]])))
  (.region none 0
    [.op (some 27) none (.mov (.tmp 3)),
     .op (some 28) none (.fld 0 (.tmp 1)),
     .op (some 29) none (.load false 1 (.tmp 28)),
     .op (some 30) none (.conv .u64 (.tmp 29)),
     .call (some 31) none (.con (.fn 74 [] [])) [(.tmp 27), (.tmp 30), (.con (.int .i64 11))]])))
  (.seq (.region none 0
    [.op (some 32) none (.mov (.tmp 3)),
     .op (some 33) none (.fld 2 (.tmp 1)),
     .op (some 34) none (.load false 1 (.tmp 33)),
     .call (some 35) none (.con (.fn 73 [] [])) [(.tmp 32), (.tmp 34)]])
  (.seq (.region none 0
    [.op (some 36) none (.mov (.tmp 3)),
     .op (some 37) none (.nilc (.tmp 36)),
     .op (some 38) none (.fld 0 (.tmp 37)),
     .call (some 39) none (.con (.fn 75 [] [])) [(.tmp 38), (.con (.str [48, 48]))]])
  (.seq (.region none 0
    [.op (some 40) none (.mov (.tmp 3)),
     .op (some 41) none (.fld 3 (.tmp 1)),
     .op (some 42) none (.load false 1 (.tmp 41)),
     .op (some 43) none (.conv .u64 (.tmp 42)),
     .call (some 44) none (.con (.fn 74 [] [])) [(.tmp 40), (.tmp 43), (.con (.int .i64 4))]])
  (.seq (.seq (.region none 0
    [.op (some 45) none (.fld 4 (.tmp 1)),
     .op (some 46) none (.load false 1 (.tmp 45)),
     .op (some 47) none (.len true (.tmp 46)),
     .op (some 48) none (.mov (.con (.int .i64 0)))])
  (.block 0 (.loop x60l0)))
  (.seq (.region none 0
    [.op (some 59) none (.mov (.tmp 3)),
     .op (some 60) none (.nilc (.tmp 59)),
     .op (some 61) none (.fld 0 (.tmp 60)),
     .call (some 62) none (.con (.fn 76 [] [])) [(.tmp 61)],
     .op (some 2) none (.mov (.tmp 62))])
  .ret))))))))) }
/-- campanile/stuff.Stuff -/
def x61l0 : XCode := (.seq (.region none 0
    [.op (some 17) none (.bin .lss (.tmp 16) (.tmp 15))])
  (.seq (.cond (.tmp 17)
  .skip
  (.exit 0))
  (.seq (.block 1 (.seq (.region none 0
    [.op (some 18) none (.mov (.tmp 16)),
     .op (some 7) none (.mov (.tmp 18))])
  (.seq (.region none 0
    [.op (some 19) none (.mov (.tmp 6)),
     .op (some 20) none (.mov (.tmp 0)),
     .op (some 21) none (.mov (.tmp 7)),
     .op (some 22) none (.sidx (.tmp 20) (.tmp 21)),
     .call (some 23) none (.tmp 19) [(.tmp 22)]])
  (.seq (.region none 0
    [.op (some 24) none (.load false 1 (.tmp 5)),
     .op (some 25) none (.nilc (.tmp 24)),
     .op (some 26) none (.fld 0 (.tmp 25)),
     .op (some 27) none (.fld 1 (.tmp 26)),
     .op (some 28) none (.load false 1 (.tmp 27)),
     .op (some 29) none (.bin .eql (.tmp 28) (.con (.int .i64 5)))])
  (.cond (.tmp 29)
  (.region none 0
    [.op (some 30) none (.mov (.tmp 6)),
     .op (some 31) none (.mov (.tmp 0)),
     .op (some 32) none (.mov (.tmp 7)),
     .op (some 33) none (.sidx (.tmp 31) (.tmp 32)),
     .call (some 34) none (.con (.fn 79 [] [])) [(.tmp 33)],
     .call (some 35) none (.tmp 30) [(.tmp 34)]])
  .skip)))))
  (.region none 0
    [.op (some 36) none (.bin .add (.tmp 16) (.con (.int .i64 1))),
     .op (some 16) none (.mov (.tmp 36))]))))
def x61 : XFunc := { ntmps := 42, results := [(.tmp 2), (.tmp 3)], body :=
  (.seq (.region none 0
    [.op (some 2) none (.mov (.con (.str []))),
     .op (some 3) none (.mov (.con (.int .i64 0)))])
  (.seq (.seq (.region none 0
    [.op (some 8) none (.mov (.tmp 0)),
     .call (some 9) none (.con (.fn 42 [] [])) [(.tmp 8)],
     .op (some 10) none (.not (.tmp 9))])
  (.cond (.tmp 10)
  (.seq (.region none 0
    [.op (some 2) none (.mov (.con (.str []))),
     .op (some 3) none (.mov (.con (.int .i64 1)))])
  .ret)
  .skip))
  (.seq (.region none 1
    [.op (some 4) none (.new 0 [.nil])])
  (.seq (.region none 2
    [.op (some 11) none (.build [(.int .u8 0), (.int .i64 0)] []),
     .op (some 12) none (.box 0 2 (.tmp 11)),
     .op (some 5) none (.new 1 [.nilp]),
     .op none none (.store 1 (.tmp 5) (.tmp 12))])
  (.seq (.region none 0
    [.op (some 13) none (.mkf 77 [] [(.tmp 5), (.tmp 4)]),
     .op (some 6) none (.mov (.tmp 13))])
  (.seq (.seq (.region none 0
    [.op (some 14) none (.mov (.tmp 0)),
     .op (some 15) none (.len true (.tmp 14)),
     .op (some 16) none (.mov (.con (.int .i64 0)))])
  (.block 0 (.loop x61l0)))
  (.seq (.seq (.region none 0
    [.op (some 37) none (.load false 1 (.tmp 4)),
     .op (some 38) none (.len false (.tmp 37)),
     .op (some 39) none (.bin .gtr (.tmp 38) (.con (.int .i64 4000)))])
  (.cond (.tmp 39)
  (.seq (.region none 0
    [.op (some 2) none (.mov (.con (.str []))),
     .op (some 3) none (.mov (.con (.int .i64 2)))])
  .ret)
  .skip))
  (.seq (.region none 0
    [.op (some 40) none (.load false 1 (.tmp 4)),
     .op (some 41) none (.b2s (.tmp 40)),
     .op (some 2) none (.mov (.tmp 41)),
     .op (some 3) none (.mov (.con (.int .i64 0)))])
  .ret)))))))) }
/-- campanile/stuff.Step -/
def x62 : XFunc := { ntmps := 29, results := [(.cell 4 true 2), (.tmp 5), (.tmp 6)], body :=
  (.seq (.region none 2
    [.op (some 2) none (.box 0 2 (.tmp 0)),
     .op (some 4) none (.new 1 [(.int .u8 0), (.int .i64 0)]),
     .op (some 5) none (.mov (.con (.int .i64 0))),
     .op (some 6) none (.mov (.con (.int .i64 0)))])
  (.seq (.seq (.region none 0
    [.op (some 9) none (.load true 2 (.tmp 2)),
     .call (some 10) none (.con (.fn 43 [] [])) [(.tmp 9)],
     .op (some 11) none (.not (.tmp 10)),
     .op (some 12) none (.mov (.tmp 11)),
     .op (some 13) (some (12, false)) (.mov (.tmp 1)),
     .call (some 14) (some (12, false)) (.con (.fn 56 [] [])) [(.tmp 13)],
     .op (some 15) (some (12, false)) (.not (.tmp 14)),
     .op (some 16) none (.pick (.tmp 12) (.con (.bool true)) (.tmp 15))])
  (.cond (.tmp 16)
  (.seq (.region none 0
    [.op (some 17) none (.build [(.int .u8 0), (.int .i64 0)] []),
     .op none none (.store 2 (.tmp 4) (.tmp 17)),
     .op (some 5) none (.mov (.con (.int .i64 0))),
     .op (some 6) none (.mov (.con (.int .i64 1)))])
  .ret)
  .skip))
  (.seq (.region none 1
    [.op (some 18) none (.load true 2 (.tmp 2)),
     .op (some 19) none (.build [(.int .u8 0), (.int .i64 0)] [(0, 2, (.tmp 18))]),
     .op (some 20) none (.box 0 2 (.tmp 19)),
     .op (some 7) none (.mov (.tmp 20))])
  (.seq (.region none 0
    [.op (some 21) none (.mov (.tmp 7)),
     .op (some 22) none (.mov (.tmp 1)),
     .call (some 23) none (.con (.fn 78 [] [])) [(.tmp 21), (.tmp 22)],
     .op (some 8) none (.mov (.tmp 23))])
  (.seq (.region none 0
    [.op (some 24) none (.mov (.tmp 7)),
     .op (some 25) none (.nilc (.tmp 24)),
     .op (some 26) none (.fld 0 (.tmp 25)),
     .op (some 27) none (.load true 2 (.tmp 26)),
     .op (some 28) none (.mov (.tmp 8)),
     .op none none (.store 2 (.tmp 4) (.tmp 27)),
     .op (some 5) none (.mov (.tmp 28)),
     .op (some 6) none (.mov (.con (.int .i64 0)))])
  .ret))))) }
/-- slices.IndexFunc[[]campanile/api.Box,campanile/api.Box] -/
def x63l0 : XCode := (.seq (.region none 0
    [.op (some 9) none (.bin .lss (.tmp 8) (.tmp 7))])
  (.seq (.cond (.tmp 9)
  .skip
  (.exit 0))
  (.seq (.block 1 (.seq (.region none 0
    [.op (some 10) none (.mov (.tmp 8)),
     .op (some 5) none (.mov (.tmp 10))])
  (.seq (.region none 0
    [.op (some 11) none (.mov (.tmp 1)),
     .op (some 12) none (.mov (.tmp 0)),
     .op (some 13) none (.mov (.tmp 5)),
     .op (some 14) none (.idx 7 (.tmp 12) (.tmp 13)),
     .op (some 15) none (.load true 7 (.tmp 14)),
     .call (some 16) none (.tmp 11) [(.tmp 15)]])
  (.cond (.tmp 16)
  (.seq (.region none 0
    [.op (some 17) none (.mov (.tmp 5)),
     .op (some 4) none (.mov (.tmp 17))])
  .ret)
  .skip))))
  (.region none 0
    [.op (some 18) none (.bin .add (.tmp 8) (.con (.int .i64 1))),
     .op (some 8) none (.mov (.tmp 18))]))))
def x63 : XFunc := { ntmps := 19, results := [(.tmp 4)], body :=
  (.seq (.region none 0
    [.op (some 4) none (.mov (.con (.int .i64 0)))])
  (.seq (.seq (.region none 0
    [.op (some 6) none (.mov (.tmp 0)),
     .op (some 7) none (.len false (.tmp 6)),
     .op (some 8) none (.mov (.con (.int .i64 0)))])
  (.block 0 (.loop x63l0)))
  (.seq (.region none 0
    [.op (some 4) none (.mov (.con (.int .i64 (-1))))])
  .ret))) }
/-- campanile/prio.Less -/
def x64 : XFunc := { ntmps := 18, results := [(.tmp 4)], body :=
  (.seq (.region none 2
    [.op (some 2) none (.box 0 5 (.tmp 0)),
     .op (some 3) none (.box 1 5 (.tmp 1)),
     .op (some 4) none (.mov (.con (.bool false)))])
  (.seq (.region (some [(7, 9), (8, 9)]) 0
    [.op (some 5) none (.load true 5 (.tmp 2)),
     .call (some 6) none (.con (.fn 30 [] [])) [(.tmp 5)],
     .op (some 7) none (.mov (.tmp 6)),
     .op (some 8) (some (7, true)) (.load true 5 (.tmp 3)),
     .call (some 9) (some (7, true)) (.con (.fn 30 [] [])) [(.tmp 8)],
     .op (some 10) none (.pick (.tmp 7) (.tmp 9) (.con (.bool false))),
     .op (some 11) none (.mov (.tmp 10)),
     .op (some 12) (some (11, true)) (.load true 5 (.tmp 2)),
     .call (some 13) (some (11, true)) (.con (.fn 80 [] [])) [(.tmp 12)],
     .op (some 14) (some (11, true)) (.load true 5 (.tmp 3)),
     .call (some 15) (some (11, true)) (.con (.fn 80 [] [])) [(.tmp 14)],
     .op (some 16) (some (11, true)) (.bin .lss (.tmp 13) (.tmp 15)),
     .op (some 17) none (.pick (.tmp 11) (.tmp 16) (.con (.bool false))),
     .op (some 4) none (.mov (.tmp 17))])
  .ret)) }
/-- campanile/campanileref01.Of -/
def x65l0 : XCode := (.seq (.seq (.region none 0
    [.op (some 7) none (.mov (.tmp 6)),
     .op (some 8) none (.mov (.tmp 1)),
     .op (some 9) none (.bin .lss (.tmp 7) (.tmp 8))])
  (.cond (.tmp 9)
  .skip
  (.exit 0)))
  (.seq (.block 1 (.seq (.seq (.region none 0
    [.op (some 12) none (.mov (.tmp 0)),
     .op (some 13) none (.bin .rem (.tmp 12) (.con (.int .u64 2))),
     .op (some 14) none (.bin .eql (.tmp 13) (.con (.int .u64 1)))])
  (.cond (.tmp 14)
  (.region none 0
    [.op (some 15) none (.mov (.tmp 5)),
     .op (some 16) none (.bin .add (.con (.str [49])) (.tmp 15)),
     .op (some 5) none (.mov (.tmp 16))])
  (.region none 0
    [.op (some 17) none (.mov (.tmp 5)),
     .op (some 18) none (.bin .add (.con (.str [48])) (.tmp 17)),
     .op (some 5) none (.mov (.tmp 18))])))
  (.region none 0
    [.op (some 19) none (.mov (.tmp 0)),
     .op (some 20) none (.bin .quo (.tmp 19) (.con (.int .u64 2))),
     .op (some 0) none (.mov (.tmp 20))])))
  (.region none 0
    [.op (some 10) none (.mov (.tmp 6)),
     .op (some 11) none (.bin .add (.tmp 10) (.con (.int .i64 1))),
     .op (some 6) none (.mov (.tmp 11))])))
def x65 : XFunc := { ntmps := 22, results := [(.tmp 4)], body :=
  (.seq (.region none 0
    [.op (some 4) none (.mov (.con (.str [])))])
  (.seq (.region none 0
    [.op (some 5) none (.mov (.con (.str [])))])
  (.seq (.seq (.region none 0
    [.op (some 6) none (.mov (.con (.int .i64 0)))])
  (.block 0 (.loop x65l0)))
  (.seq (.region none 0
    [.op (some 21) none (.mov (.tmp 5)),
     .op (some 4) none (.mov (.tmp 21))])
  .ret)))) }
/-- strings.trimLeftByte -/
def x66l0 : XCode := (.seq (.seq (.region none 0
    [.op (some 5) none (.mov (.tmp 0)),
     .op (some 6) none (.len true (.tmp 5)),
     .op (some 7) none (.bin .gtr (.tmp 6) (.con (.int .i64 0))),
     .op (some 8) none (.mov (.tmp 7)),
     .op (some 9) (some (8, true)) (.mov (.tmp 0)),
     .op (some 10) (some (8, true)) (.sidx (.tmp 9) (.con (.int .i64 0))),
     .op (some 11) (some (8, true)) (.mov (.tmp 1)),
     .op (some 12) (some (8, true)) (.bin .eql (.tmp 10) (.tmp 11)),
     .op (some 13) none (.pick (.tmp 8) (.tmp 12) (.con (.bool false)))])
  (.cond (.tmp 13)
  .skip
  (.exit 0)))
  (.block 1 (.region none 0
    [.op (some 14) none (.mov (.tmp 0)),
     .op (some 15) none (.sls (.tmp 14) (some (.con (.int .i64 1))) none),
     .op (some 0) none (.mov (.tmp 15))])))
def x66 : XFunc := { ntmps := 17, results := [(.tmp 4)], body :=
  (.seq (.region none 0
    [.op (some 4) none (.mov (.con (.str [])))])
  (.seq (.block 0 (.loop x66l0))
  (.seq (.region none 0
    [.op (some 16) none (.mov (.tmp 0)),
     .op (some 4) none (.mov (.tmp 16))])
  .ret))) }
/-- strings.makeASCIISet -/
def x67l0 : XCode := (.seq (.seq (.region none 0
    [.op (some 6) none (.mov (.tmp 4)),
     .op (some 7) none (.mov (.tmp 0)),
     .op (some 8) none (.len true (.tmp 7)),
     .op (some 9) none (.bin .lss (.tmp 6) (.tmp 8))])
  (.cond (.tmp 9)
  .skip
  (.exit 0)))
  (.seq (.block 1 (.seq (.region none 0
    [.op (some 12) none (.mov (.tmp 0)),
     .op (some 13) none (.mov (.tmp 4)),
     .op (some 14) none (.sidx (.tmp 12) (.tmp 13)),
     .op (some 5) none (.mov (.tmp 14))])
  (.seq (.seq (.region none 0
    [.op (some 15) none (.mov (.tmp 5)),
     .op (some 16) none (.bin .geq (.tmp 15) (.con (.int .u8 128)))])
  (.cond (.tmp 16)
  (.seq (.region none 0
    [.op (some 17) none (.load true 256 (.tmp 2)),
     .op none none (.store 256 (.tmp 2) (.tmp 17)),
     .op (some 3) none (.mov (.con (.bool false)))])
  .ret)
  .skip))
  (.region none 0
    [.op (some 18) none (.mov (.tmp 5)),
     .op (some 19) none (.aidx 256 1 (.tmp 2) (.tmp 18)),
     .op none none (.store 1 (.tmp 19) (.con (.bool true)))]))))
  (.region none 0
    [.op (some 10) none (.mov (.tmp 4)),
     .op (some 11) none (.bin .add (.tmp 10) (.con (.int .i64 1))),
     .op (some 4) none (.mov (.tmp 11))])))
def x67 : XFunc := { ntmps := 21, results := [(.cell 2 true 256), (.tmp 3)], body :=
  (.seq (.region none 1
    [.op (some 2) none (.new 0 [(.bool false), (.bool false), (.bool false), (.bool false), (.bool false), (.bool false), (.bool false), (.bool false), (.bool false), (.bool false), (.bool false), (.bool false), (.bool false), (.bool false), (.bool false), (.bool false), (.bool false), (.bool false), (.bool false), (.bool false), (.bool false), (.bool false), (.bool false), (.bool false), (.bool false), (.bool false), (.bool false), (.bool false), (.bool false), (.bool false), (.bool false), (.bool false), (.bool false), (.bool false), (.bool false), (.bool false), (.bool false), (.bool false), (.bool false), (.bool false), (.bool false), (.bool false), (.bool false), (.bool false), (.bool false), (.bool false), (.bool false), (.bool false), (.bool false), (.bool false), (.bool false), (.bool false), (.bool false), (.bool false), (.bool false), (.bool false), (.bool false), (.bool false), (.bool false), (.bool false), (.bool false), (.bool false), (.bool false), (.bool false), (.bool false), (.bool false), (.bool false), (.bool false), (.bool false), (.bool false), (.bool false), (.bool false), (.bool false), (.bool false), (.bool false), (.bool false), (.bool false), (.bool false), (.bool false), (.bool false), (.bool false), (.bool false), (.bool false), (.bool false), (.bool false), (.bool false), (.bool false), (.bool false), (.bool false), (.bool false), (.bool false), (.bool false), (.bool false), (.bool false), (.bool false), (.bool false), (.bool false), (.bool false), (.bool false), (.bool false), (.bool false), (.bool false), (.bool false), (.bool false), (.bool false), (.bool false), (.bool false), (.bool false), (.bool false), (.bool false), (.bool false), (.bool false), (.bool false), (.bool false), (.bool false), (.bool false), (.bool false), (.bool false), (.bool false), (.bool false), (.bool false), (.bool false), (.bool false), (.bool false), (.bool false), (.bool false), (.bool false), (.bool false), (.bool false), (.bool false), (.bool false), (.bool false), (.bool false), (.bool false), (.bool false), (.bool false), (.bool false), (.bool false), (.bool false), (.bool false), (.bool false), (.bool false), (.bool false), (.bool false), (.bool false), (.bool false), (.bool false), (.bool false), (.bool false), (.bool false), (.bool false), (.bool false), (.bool false), (.bool false), (.bool false), (.bool false), (.bool false), (.bool false), (.bool false), (.bool false), (.bool false), (.bool false), (.bool false), (.bool false), (.bool false), (.bool false), (.bool false), (.bool false), (.bool false), (.bool false), (.bool false), (.bool false), (.bool false), (.bool false), (.bool false), (.bool false), (.bool false), (.bool false), (.bool false), (.bool false), (.bool false), (.bool false), (.bool false), (.bool false), (.bool false), (.bool false), (.bool false), (.bool false), (.bool false), (.bool false), (.bool false), (.bool false), (.bool false), (.bool false), (.bool false), (.bool false), (.bool false), (.bool false), (.bool false), (.bool false), (.bool false), (.bool false), (.bool false), (.bool false), (.bool false), (.bool false), (.bool false), (.bool false), (.bool false), (.bool false), (.bool false), (.bool false), (.bool false), (.bool false), (.bool false), (.bool false), (.bool false), (.bool false), (.bool false), (.bool false), (.bool false), (.bool false), (.bool false), (.bool false), (.bool false), (.bool false), (.bool false), (.bool false), (.bool false), (.bool false), (.bool false), (.bool false), (.bool false), (.bool false), (.bool false), (.bool false), (.bool false), (.bool false), (.bool false), (.bool false), (.bool false), (.bool false), (.bool false), (.bool false), (.bool false), (.bool false), (.bool false), (.bool false), (.bool false), (.bool false), (.bool false), (.bool false), (.bool false), (.bool false), (.bool false), (.bool false)]),
     .op (some 3) none (.mov (.con (.bool false)))])
  (.seq (.seq (.region none 0
    [.op (some 4) none (.mov (.con (.int .i64 0)))])
  (.block 0 (.loop x67l0)))
  (.seq (.region none 0
    [.op (some 20) none (.load true 256 (.tmp 2)),
     .op none none (.store 256 (.tmp 2) (.tmp 20)),
     .op (some 3) none (.mov (.con (.bool true)))])
  .ret))) }
/-- strings.trimLeftASCII -/
def x68l0 : XCode := (.seq (.seq (.region none 0
    [.op (some 5) none (.mov (.tmp 0)),
     .op (some 6) none (.len true (.tmp 5)),
     .op (some 7) none (.bin .gtr (.tmp 6) (.con (.int .i64 0)))])
  (.cond (.tmp 7)
  .skip
  (.exit 0)))
  (.block 1 (.seq (.seq (.region none 0
    [.op (some 8) none (.mov (.tmp 1)),
     .op (some 9) none (.mov (.tmp 0)),
     .op (some 10) none (.sidx (.tmp 9) (.con (.int .i64 0))),
     .call (some 11) none (.con (.fn 81 [] [])) [(.tmp 8), (.tmp 10)],
     .op (some 12) none (.not (.tmp 11))])
  (.cond (.tmp 12)
  (.exit 0)
  .skip))
  (.region none 0
    [.op (some 13) none (.mov (.tmp 0)),
     .op (some 14) none (.sls (.tmp 13) (some (.con (.int .i64 1))) none),
     .op (some 0) none (.mov (.tmp 14))]))))
def x68 : XFunc := { ntmps := 16, results := [(.tmp 4)], body :=
  (.seq (.region none 0
    [.op (some 4) none (.mov (.con (.str [])))])
  (.seq (.block 0 (.loop x68l0))
  (.seq (.region none 0
    [.op (some 15) none (.mov (.tmp 0)),
     .op (some 4) none (.mov (.tmp 15))])
  .ret))) }
/-- strings.trimLeftUnicode -/
def x69l0 : XCode := (.seq (.seq (.region none 0
    [.op (some 7) none (.mov (.tmp 0)),
     .op (some 8) none (.len true (.tmp 7)),
     .op (some 9) none (.bin .gtr (.tmp 8) (.con (.int .i64 0)))])
  (.cond (.tmp 9)
  .skip
  (.exit 0)))
  (.block 1 (.seq (.region none 0
    [.op (some 11) none (.mov (.tmp 0)),
     .call (some 12) none (.con (.fn 82 [] [])) [(.tmp 11)],
     .op (some 10) none (.mov (.tmp 12)),
     .op (some 13) none (.ext (.tmp 10) 0),
     .op (some 14) none (.ext (.tmp 10) 1),
     .op (some 5) none (.mov (.tmp 13)),
     .op (some 6) none (.mov (.tmp 14))])
  (.seq (.seq (.region none 0
    [.op (some 15) none (.mov (.tmp 1)),
     .op (some 16) none (.mov (.tmp 5)),
     .call (some 17) none (.con (.fn 83 [] [])) [(.tmp 15), (.tmp 16)],
     .op (some 18) none (.not (.tmp 17))])
  (.cond (.tmp 18)
  (.exit 0)
  .skip))
  (.region none 0
    [.op (some 19) none (.mov (.tmp 0)),
     .op (some 20) none (.mov (.tmp 6)),
     .op (some 21) none (.sls (.tmp 19) (some (.tmp 20)) none),
     .op (some 0) none (.mov (.tmp 21))])))))
def x69 : XFunc := { ntmps := 23, results := [(.tmp 4)], body :=
  (.seq (.region none 0
    [.op (some 4) none (.mov (.con (.str [])))])
  (.seq (.block 0 (.loop x69l0))
  (.seq (.region none 0
    [.op (some 22) none (.mov (.tmp 0)),
     .op (some 4) none (.mov (.tmp 22))])
  .ret))) }
/-- campanile/crc.Of -/
def x70 : XFunc := { ntmps := 12, results := [(.tmp 2), (.tmp 3)], body :=
  (.seq (.region none 0
    [.op (some 2) none (.mov (.con (.int .u32 0))),
     .op (some 3) none (.mov (.con (.int .i64 0)))])
  (.seq (.seq (.region none 0
    [.op (some 5) none (.mov (.tmp 0)),
     .call (some 6) none (.con (.fn 42 [] [])) [(.tmp 5)],
     .op (some 7) none (.not (.tmp 6))])
  (.cond (.tmp 7)
  (.seq (.region none 0
    [.op (some 2) none (.mov (.con (.int .u32 0))),
     .op (some 3) none (.mov (.con (.int .i64 1)))])
  .ret)
  .skip))
  (.seq (.region none 1
    [.op (some 4) none (.new 0 [(.int .u32 0)]),
     .op none none (.store 1 (.tmp 4) (.con (.int .u32 0)))])
  (.seq (.region none 0
    [.op (some 8) none (.mov (.tmp 0)),
     .op (some 9) none (.mkf 85 [] [(.tmp 4)]),
     .call (some 10) none (.con (.fn 84 [] [])) [(.tmp 8), (.tmp 9)]])
  (.seq (.region none 0
    [.op (some 11) none (.load false 1 (.tmp 4)),
     .op (some 2) none (.mov (.tmp 11)),
     .op (some 3) none (.mov (.con (.int .i64 0)))])
  .ret))))) }
/-- campanile/frame.Read$1 -/
def x71 : XFunc := { ntmps := 19, results := [(.tmp 5)], body :=
  (.seq (.region none 0
    [.op (some 5) none (.mov (.con (.int .u64 0)))])
  (.seq (.region none 0
    [.op (some 9) none (.load false 1 (.tmp 2)),
     .op (some 10) none (.mov (.tmp 0)),
     .op (some 11) none (.mov (.tmp 0)),
     .op (some 12) none (.mov (.tmp 1)),
     .op (some 13) none (.bin .add (.tmp 11) (.tmp 12)),
     .op (some 14) none (.sls (.tmp 9) (some (.tmp 10)) (some (.tmp 13))),
     .call (some 15) none (.con (.fn 54 [] [])) [(.tmp 14)],
     .op (some 8) none (.mov (.tmp 15)),
     .op (some 16) none (.ext (.tmp 8) 0),
     .op (some 17) none (.ext (.tmp 8) 1),
     .op (some 6) none (.mov (.tmp 16)),
     .op (some 7) none (.mov (.tmp 17))])
  (.seq (.region none 0
    [.op (some 18) none (.mov (.tmp 6)),
     .op (some 5) none (.mov (.tmp 18))])
  .ret))) }
/-- campanile/bits.Of -/
def x72l0 : XCode := (.seq (.region none 0
    [.op (some 29) none (.bin .lss (.tmp 28) (.tmp 27))])
  (.seq (.cond (.tmp 29)
  .skip
  (.exit 0))
  (.seq (.block 1 (.seq (.region none 0
    [.op (some 30) none (.mov (.tmp 28)),
     .op (some 7) none (.mov (.tmp 30))])
  (.region none 0
    [.op (some 31) none (.mov (.tmp 6)),
     .op (some 32) none (.mov (.tmp 7)),
     .op (some 33) none (.mov (.tmp 0)),
     .op (some 34) none (.mov (.tmp 1)),
     .op (some 35) none (.bin .sub (.tmp 34) (.con (.int .i64 1))),
     .op (some 36) none (.mov (.tmp 7)),
     .op (some 37) none (.bin .sub (.tmp 35) (.tmp 36)),
     .op (some 38) none (.bin .shr (.tmp 33) (.tmp 37)),
     .op (some 39) none (.bin .and (.tmp 38) (.con (.int .u64 1))),
     .op (some 40) none (.conv .u8 (.tmp 39)),
     .op (some 41) none (.bin .add (.con (.int .u8 48)) (.tmp 40)),
     .op (some 42) none (.idx 1 (.tmp 31) (.tmp 32)),
     .op none none (.store 1 (.tmp 42) (.tmp 41))])))
  (.region none 0
    [.op (some 43) none (.bin .add (.tmp 28) (.con (.int .i64 1))),
     .op (some 28) none (.mov (.tmp 43))]))))
def x72 : XFunc := { ntmps := 46, results := [(.tmp 4), (.tmp 5)], body :=
  (.seq (.region none 0
    [.op (some 4) none (.mov (.con (.str []))),
     .op (some 5) none (.mov (.con (.int .i64 0)))])
  (.seq (.seq (.region none 0
    [.op (some 8) none (.mov (.tmp 1)),
     .op (some 9) none (.bin .lss (.tmp 8) (.con (.int .i64 0))),
     .op (some 10) none (.mov (.tmp 9)),
     .op (some 11) (some (10, false)) (.mov (.tmp 1)),
     .op (some 12) (some (10, false)) (.bin .gtr (.tmp 11) (.con (.int .i64 64))),
     .op (some 13) none (.pick (.tmp 10) (.con (.bool true)) (.tmp 12)),
     .op (some 14) none (.mov (.tmp 13)),
     .op (some 15) (some (14, false)) (.mov (.tmp 1)),
     .op (some 16) (some (14, false)) (.bin .lss (.tmp 15) (.con (.int .i64 64))),
     .op (some 17) (some (14, false)) (.mov (.tmp 16)),
     .op (some 18) (some (17, true)) (.mov (.tmp 0)),
     .op (some 19) (some (17, true)) (.mov (.tmp 1)),
     .op (some 20) (some (17, true)) (.bin .shr (.tmp 18) (.tmp 19)),
     .op (some 21) (some (17, true)) (.bin .neq (.tmp 20) (.con (.int .u64 0))),
     .op (some 22) (some (14, false)) (.pick (.tmp 17) (.tmp 21) (.con (.bool false))),
     .op (some 23) none (.pick (.tmp 14) (.con (.bool true)) (.tmp 22))])
  (.cond (.tmp 23)
  (.seq (.region none 0
    [.op (some 4) none (.mov (.con (.str []))),
     .op (some 5) none (.mov (.con (.int .i64 1)))])
  .ret)
  .skip))
  (.seq (.region none 1
    [.op (some 24) none (.mov (.tmp 1)),
     .op (some 25) none (.mksl 0 1 1 [(.int .u8 0)] (.tmp 24) (.tmp 24)),
     .op (some 6) none (.mov (.tmp 25))])
  (.seq (.seq (.region none 0
    [.op (some 26) none (.mov (.tmp 6)),
     .op (some 27) none (.len false (.tmp 26)),
     .op (some 28) none (.mov (.con (.int .i64 0)))])
  (.block 0 (.loop x72l0)))
  (.seq (.region none 0
    [.op (some 44) none (.mov (.tmp 6)),
     .op (some 45) none (.b2s (.tmp 44)),
     .op (some 4) none (.mov (.tmp 45)),
     .op (some 5) none (.mov (.con (.int .i64 0)))])
  .ret))))) }
/-- (*campanile/frame.writer).truth -/
def x73 : XFunc := { ntmps := 13, results := [], body :=
  (.seq (.region none 0
    [.op (some 4) none (.mov (.tmp 1))])
  (.cond (.tmp 4)
  (.region none 0
    [.op (some 5) none (.mov (.tmp 0)),
     .op (some 6) none (.nilc (.tmp 5)),
     .op (some 7) none (.fld 0 (.tmp 6)),
     .call (some 8) none (.con (.fn 75 [] [])) [(.tmp 7), (.con (.str [49]))]])
  (.region none 0
    [.op (some 9) none (.mov (.tmp 0)),
     .op (some 10) none (.nilc (.tmp 9)),
     .op (some 11) none (.fld 0 (.tmp 10)),
     .call (some 12) none (.con (.fn 75 [] [])) [(.tmp 11), (.con (.str [48]))]]))) }
/-- (*campanile/frame.writer).number -/
def x74 : XFunc := { ntmps := 19, results := [], body :=
  (.seq (.region none 0
    [.op (some 9) none (.mov (.tmp 1)),
     .op (some 10) none (.mov (.tmp 2)),
     .call (some 11) none (.con (.fn 72 [] [])) [(.tmp 9), (.tmp 10)],
     .op (some 8) none (.mov (.tmp 11)),
     .op (some 12) none (.ext (.tmp 8) 0),
     .op (some 13) none (.ext (.tmp 8) 1),
     .op (some 6) none (.mov (.tmp 12)),
     .op (some 7) none (.mov (.tmp 13))])
  (.region none 0
    [.op (some 14) none (.mov (.tmp 0)),
     .op (some 15) none (.nilc (.tmp 14)),
     .op (some 16) none (.fld 0 (.tmp 15)),
     .op (some 17) none (.mov (.tmp 6)),
     .call (some 18) none (.con (.fn 75 [] [])) [(.tmp 16), (.tmp 17)]])) }
/-- (*strings.Builder).WriteString -/
def x75 : XFunc := { ntmps := 19, results := [(.tmp 4), (.tmp 5)], body :=
  (.seq (.region none 0
    [.op (some 4) none (.mov (.con (.int .i64 0))),
     .op (some 5) none (.mov (.con .nili))])
  (.seq (.region none 0
    [.op (some 6) none (.mov (.tmp 0)),
     .call (some 7) none (.con (.fn 87 [] [])) [(.tmp 6)]])
  (.seq (.region none 1
    [.op (some 8) none (.mov (.tmp 0)),
     .op (some 9) none (.mov (.tmp 0)),
     .op (some 10) none (.nilc (.tmp 9)),
     .op (some 11) none (.fld 1 (.tmp 10)),
     .op (some 12) none (.load false 1 (.tmp 11)),
     .op (some 13) none (.mov (.tmp 1)),
     .op (some 14) none (.app 0 1 1 (.tmp 12) (.tmp 13)),
     .op (some 15) none (.nilc (.tmp 8)),
     .op (some 16) none (.fld 1 (.tmp 15)),
     .op none none (.store 1 (.tmp 16) (.tmp 14))])
  (.seq (.region none 0
    [.op (some 17) none (.mov (.tmp 1)),
     .op (some 18) none (.len true (.tmp 17)),
     .op (some 4) none (.mov (.tmp 18)),
     .op (some 5) none (.mov (.con .nili))])
  .ret)))) }
/-- campanile/stuff.Stuff$1 -/
def x77 : XFunc := { ntmps := 11, results := [], body :=
  (.seq (.region none 0
    [.op (some 4) none (.load false 1 (.tmp 1)),
     .op (some 5) none (.mov (.tmp 0)),
     .call (some 6) none (.con (.fn 78 [] [])) [(.tmp 4), (.tmp 5)]])
  (.region none 2
    [.op (some 7) none (.load false 1 (.tmp 2)),
     .op (some 8) none (.mov (.tmp 0)),
     .op (some 9) none (.bsl 0 1 1 [(.int .u8 0)] [(0, 1, (.tmp 8))]),
     .op (some 10) none (.app 1 1 1 (.tmp 7) (.tmp 9)),
     .op none none (.store 1 (.tmp 2) (.tmp 10))])) }
/-- (*campanile/stuff.state).step -/
def x78 : XFunc := { ntmps := 63, results := [(.tmp 4)], body :=
  (.seq (.region none 0
    [.op (some 4) none (.mov (.con (.int .i64 0)))])
  (.seq (.block 0 (.seq (.region none 0
    [.op (some 15) none (.mov (.tmp 0)),
     .op (some 16) none (.nilc (.tmp 15)),
     .op (some 17) none (.fld 0 (.tmp 16)),
     .op (some 18) none (.fld 1 (.tmp 17)),
     .op (some 19) none (.load false 1 (.tmp 18)),
     .op (some 20) none (.bin .eql (.tmp 19) (.con (.int .i64 5))),
     .op (some 21) none (.mov (.tmp 20)),
     .op (some 22) (some (21, true)) (.mov (.tmp 1)),
     .op (some 23) (some (21, true)) (.mov (.tmp 0)),
     .op (some 24) (some (21, true)) (.nilc (.tmp 23)),
     .op (some 25) (some (21, true)) (.fld 0 (.tmp 24)),
     .op (some 26) (some (21, true)) (.fld 0 (.tmp 25)),
     .op (some 27) (some (21, true)) (.load false 1 (.tmp 26)),
     .op (some 28) (some (21, true)) (.bin .eql (.tmp 22) (.tmp 27)),
     .op (some 29) none (.pick (.tmp 21) (.tmp 28) (.con (.bool false))),
     .op (some 14) none (.mov (.tmp 29))])
  (.cond (.tmp 14)
  (.seq (.region none 0
    [.op (some 4) none (.mov (.con (.int .i64 3)))])
  .ret)
  (.seq (.region none 0
    [.op (some 31) none (.mov (.tmp 0)),
     .op (some 32) none (.nilc (.tmp 31)),
     .op (some 33) none (.fld 0 (.tmp 32)),
     .op (some 34) none (.fld 1 (.tmp 33)),
     .op (some 35) none (.load false 1 (.tmp 34)),
     .op (some 36) none (.bin .eql (.tmp 35) (.con (.int .i64 5))),
     .op (some 30) none (.mov (.tmp 36))])
  (.cond (.tmp 30)
  (.seq (.region none 0
    [.op (some 37) none (.mov (.tmp 0)),
     .op (some 38) none (.mov (.tmp 0)),
     .op (some 39) none (.mov (.tmp 1)),
     .op (some 40) none (.nilc (.tmp 37)),
     .op (some 41) none (.fld 0 (.tmp 40)),
     .op (some 42) none (.fld 0 (.tmp 41)),
     .op none none (.store 1 (.tmp 42) (.tmp 39)),
     .op (some 43) none (.nilc (.tmp 38)),
     .op (some 44) none (.fld 0 (.tmp 43)),
     .op (some 45) none (.fld 1 (.tmp 44)),
     .op none none (.store 1 (.tmp 45) (.con (.int .i64 1)))])
  (.seq (.region none 0
    [.op (some 4) none (.mov (.con (.int .i64 2)))])
  .ret))
  (.seq (.region none 0
    [.op (some 47) none (.mov (.tmp 1)),
     .op (some 48) none (.mov (.tmp 0)),
     .op (some 49) none (.nilc (.tmp 48)),
     .op (some 50) none (.fld 0 (.tmp 49)),
     .op (some 51) none (.fld 0 (.tmp 50)),
     .op (some 52) none (.load false 1 (.tmp 51)),
     .op (some 53) none (.bin .eql (.tmp 47) (.tmp 52)),
     .op (some 46) none (.mov (.tmp 53))])
  (.cond (.tmp 46)
  (.region none 0
    [.op (some 54) none (.mov (.tmp 0)),
     .op (some 55) none (.nilc (.tmp 54)),
     .op (some 56) none (.fld 0 (.tmp 55)),
     .op (some 57) none (.fld 1 (.tmp 56)),
     .op (some 58) none (.load false 1 (.tmp 57)),
     .op (some 59) none (.bin .add (.tmp 58) (.con (.int .i64 1))),
     .op (some 60) none (.nilc (.tmp 54)),
     .op (some 61) none (.fld 0 (.tmp 60)),
     .op (some 62) none (.fld 1 (.tmp 61)),
     .op none none (.store 1 (.tmp 62) (.tmp 59))])
  (.region none 0
    [.op (some 5) none (.mov (.tmp 0)),
     .op (some 6) none (.mov (.tmp 0)),
     .op (some 7) none (.mov (.tmp 1)),
     .op (some 8) none (.nilc (.tmp 5)),
     .op (some 9) none (.fld 0 (.tmp 8)),
     .op (some 10) none (.fld 0 (.tmp 9)),
     .op none none (.store 1 (.tmp 10) (.tmp 7)),
     .op (some 11) none (.nilc (.tmp 6)),
     .op (some 12) none (.fld 0 (.tmp 11)),
     .op (some 13) none (.fld 1 (.tmp 12)),
     .op none none (.store 1 (.tmp 13) (.con (.int .i64 1)))]))))))))
  (.seq (.region none 0
    [.op (some 4) none (.mov (.con (.int .i64 1)))])
  .ret))) }
/-- campanile/stuff.other -/
def x79 : XFunc := { ntmps := 6, results := [(.tmp 2)], body :=
  (.seq (.region none 0
    [.op (some 2) none (.mov (.con (.int .u8 0)))])
  (.seq (.region none 0
    [.op (some 3) none (.mov (.tmp 0)),
     .op (some 4) none (.bin .xor (.tmp 3) (.con (.int .u8 48))),
     .op (some 5) none (.bin .xor (.tmp 4) (.con (.int .u8 49))),
     .op (some 2) none (.mov (.tmp 5))])
  .ret)) }
/-- campanile/prio.field -/
def x80 : XFunc := { ntmps := 26, results := [(.tmp 2)], body :=
  (.seq (.region none 1
    [.op (some 1) none (.box 0 5 (.tmp 0)),
     .op (some 2) none (.mov (.con (.str [])))])
  (.seq (.region none 0
    [.op (some 3) none (.mov (.con (.str [48])))])
  (.seq (.seq (.region none 0
    [.op (some 5) none (.fld 2 (.tmp 1)),
     .op (some 6) none (.load false 1 (.tmp 5))])
  (.cond (.tmp 6)
  (.region none 0
    [.op (some 3) none (.mov (.con (.str [49])))])
  .skip))
  (.seq (.seq (.region none 0
    [.op (some 7) none (.fld 1 (.tmp 1)),
     .op (some 8) none (.load false 1 (.tmp 7))])
  (.cond (.tmp 8)
  (.seq (.region none 0
    [.op (some 9) none (.fld 0 (.tmp 1)),
     .op (some 10) none (.load false 1 (.tmp 9)),
     .call (some 11) none (.con (.fn 88 [] [])) [(.tmp 10), (.con (.int .i64 29))],
     .op (some 4) none (.mov (.tmp 11))])
  (.seq (.region (some []) 0
    [.op (some 12) none (.mov (.tmp 4)),
     .op (some 13) none (.sls (.tmp 12) none (some (.con (.int .i64 11)))),
     .op (some 14) none (.bin .add (.tmp 13) (.con (.str [49, 49]))),
     .op (some 15) none (.mov (.tmp 4)),
     .op (some 16) none (.sls (.tmp 15) (some (.con (.int .i64 11))) none),
     .op (some 17) none (.bin .add (.tmp 14) (.tmp 16)),
     .op (some 18) none (.mov (.tmp 3)),
     .op (some 19) none (.bin .add (.tmp 17) (.tmp 18)),
     .op (some 2) none (.mov (.tmp 19))])
  .ret))
  .skip))
  (.seq (.region none 0
    [.op (some 20) none (.fld 0 (.tmp 1)),
     .op (some 21) none (.load false 1 (.tmp 20)),
     .call (some 22) none (.con (.fn 88 [] [])) [(.tmp 21), (.con (.int .i64 11))],
     .op (some 23) none (.mov (.tmp 3)),
     .op (some 24) none (.bin .add (.tmp 22) (.tmp 23)),
     .op (some 25) none (.bin .add (.tmp 24) (.con (.str [48]))),
     .op (some 2) none (.mov (.tmp 25))])
  .ret))))) }
/-- (*strings.asciiSet).contains -/
def x81 : XFunc := { ntmps := 10, results := [(.tmp 4)], body :=
  (.seq (.region none 0
    [.op (some 4) none (.mov (.con (.bool false)))])
  (.seq (.region none 0
    [.op (some 5) none (.mov (.tmp 0)),
     .op (some 6) none (.mov (.tmp 1)),
     .op (some 7) none (.nilc (.tmp 5)),
     .op (some 8) none (.aidx 256 1 (.tmp 7) (.tmp 6)),
     .op (some 9) none (.load false 1 (.tmp 8)),
     .op (some 4) none (.mov (.tmp 9))])
  .ret)) }
/-- unicode/utf8.DecodeRuneInString -/
def x82 : XFunc := { ntmps := 19, results := [(.tmp 2), (.tmp 3)], body :=
  (.seq (.region none 0
    [.op (some 2) none (.mov (.con (.int .i32 0))),
     .op (some 3) none (.mov (.con (.int .i64 0)))])
  (.seq (.seq (.region none 0
    [.op (some 4) none (.mov (.tmp 0)),
     .op (some 5) none (.bin .neq (.tmp 4) (.con (.str []))),
     .op (some 6) none (.mov (.tmp 5)),
     .op (some 7) (some (6, true)) (.mov (.tmp 0)),
     .op (some 8) (some (6, true)) (.sidx (.tmp 7) (.con (.int .i64 0))),
     .op (some 9) (some (6, true)) (.bin .lss (.tmp 8) (.con (.int .u8 128))),
     .op (some 10) none (.pick (.tmp 6) (.tmp 9) (.con (.bool false)))])
  (.cond (.tmp 10)
  (.seq (.region none 0
    [.op (some 11) none (.mov (.tmp 0)),
     .op (some 12) none (.sidx (.tmp 11) (.con (.int .i64 0))),
     .op (some 13) none (.conv .i32 (.tmp 12)),
     .op (some 2) none (.mov (.tmp 13)),
     .op (some 3) none (.mov (.con (.int .i64 1)))])
  .ret)
  (.region none 0
    [.op (some 15) none (.mov (.tmp 0)),
     .call (some 16) none (.con (.fn 89 [] [])) [(.tmp 15)],
     .op (some 14) none (.mov (.tmp 16)),
     .op (some 17) none (.ext (.tmp 14) 0),
     .op (some 18) none (.ext (.tmp 14) 1),
     .op (some 2) none (.mov (.tmp 17)),
     .op (some 3) none (.mov (.tmp 18))])))
  .ret)) }
/-- strings.ContainsRune -/
def x83 : XFunc := { ntmps := 9, results := [(.tmp 4)], body :=
  (.seq (.region none 0
    [.op (some 4) none (.mov (.con (.bool false)))])
  (.seq (.region none 0
    [.op (some 5) none (.mov (.tmp 0)),
     .op (some 6) none (.mov (.tmp 1)),
     .call (some 7) none (.con (.fn 90 [] [])) [(.tmp 5), (.tmp 6)],
     .op (some 8) none (.bin .geq (.tmp 7) (.con (.int .i64 0))),
     .op (some 4) none (.mov (.tmp 8))])
  .ret)) }
/-- campanile/crc.each -/
def x84l0 : XCode := (.seq (.region none 0
    [.op (some 8) none (.bin .lss (.tmp 7) (.tmp 6))])
  (.seq (.cond (.tmp 8)
  .skip
  (.exit 0))
  (.seq (.block 1 (.seq (.region none 0
    [.op (some 9) none (.mov (.tmp 7)),
     .op (some 4) none (.mov (.tmp 9))])
  (.region none 0
    [.op (some 10) none (.mov (.tmp 1)),
     .op (some 11) none (.mov (.tmp 0)),
     .op (some 12) none (.mov (.tmp 4)),
     .op (some 13) none (.sidx (.tmp 11) (.tmp 12)),
     .call (some 14) none (.tmp 10) [(.tmp 13)]])))
  (.region none 0
    [.op (some 15) none (.bin .add (.tmp 7) (.con (.int .i64 1))),
     .op (some 7) none (.mov (.tmp 15))]))))
def x84 : XFunc := { ntmps := 16, results := [], body :=
  (.seq (.region none 0
    [.op (some 5) none (.mov (.tmp 0)),
     .op (some 6) none (.len true (.tmp 5)),
     .op (some 7) none (.mov (.con (.int .i64 0)))])
  (.block 0 (.loop x84l0))) }
/-- campanile/crc.Of$1 -/
def x85 : XFunc := { ntmps := 6, results := [], body :=
  (.region none 0
    [.op (some 3) none (.load false 1 (.tmp 1)),
     .op (some 4) none (.mov (.tmp 0)),
     .call (some 5) none (.con (.fn 86 [] [])) [(.tmp 3), (.tmp 4)],
     .op none none (.store 1 (.tmp 1) (.tmp 5))]) }
/-- campanile/crc.Step -/
def x86 : XFunc := { ntmps := 20, results := [(.tmp 4)], body :=
  (.seq (.region none 0
    [.op (some 4) none (.mov (.con (.int .u32 0)))])
  (.seq (.region none 0
    [.op (some 6) none (.mov (.tmp 0)),
     .op (some 7) none (.bin .shr (.tmp 6) (.con (.int .u64 14))),
     .op (some 8) none (.bin .and (.tmp 7) (.con (.int .u32 1))),
     .op (some 9) none (.bin .eql (.tmp 8) (.con (.int .u32 1))),
     .op (some 5) none (.mov (.tmp 9))])
  (.seq (.region none 0
    [.op (some 10) none (.mov (.tmp 0)),
     .op (some 11) none (.bin .shl (.tmp 10) (.con (.int .u64 1))),
     .op (some 12) none (.bin .and (.tmp 11) (.con (.int .u32 32767))),
     .op (some 0) none (.mov (.tmp 12))])
  (.seq (.seq (.region none 0
    [.op (some 13) none (.mov (.tmp 5)),
     .op (some 14) none (.mov (.tmp 1)),
     .op (some 15) none (.bin .eql (.tmp 14) (.con (.int .u8 49))),
     .op (some 16) none (.eqp true false [.bool] (.tmp 13) (.tmp 15))])
  (.cond (.tmp 16)
  (.region none 0
    [.op (some 17) none (.mov (.tmp 0)),
     .op (some 18) none (.bin .xor (.tmp 17) (.con (.int .u32 17817))),
     .op (some 0) none (.mov (.tmp 18))])
  .skip))
  (.seq (.region none 0
    [.op (some 19) none (.mov (.tmp 0)),
     .op (some 4) none (.mov (.tmp 19))])
  .ret))))) }
/-- campanile/prio.of -/
def x88 : XFunc := { ntmps := 15, results := [(.tmp 4)], body :=
  (.seq (.region none 0
    [.op (some 4) none (.mov (.con (.str [])))])
  (.seq (.region none 0
    [.op (some 8) none (.mov (.tmp 0)),
     .op (some 9) none (.conv .u64 (.tmp 8)),
     .op (some 10) none (.mov (.tmp 1)),
     .call (some 11) none (.con (.fn 72 [] [])) [(.tmp 9), (.tmp 10)],
     .op (some 7) none (.mov (.tmp 11)),
     .op (some 12) none (.ext (.tmp 7) 0),
     .op (some 13) none (.ext (.tmp 7) 1),
     .op (some 5) none (.mov (.tmp 12)),
     .op (some 6) none (.mov (.tmp 13))])
  (.seq (.region none 0
    [.op (some 14) none (.mov (.tmp 5)),
     .op (some 4) none (.mov (.tmp 14))])
  .ret))) }
/-- strings.IndexByte -/
def x92 : XFunc := { ntmps := 8, results := [(.tmp 4)], body :=
  (.seq (.region none 0
    [.op (some 4) none (.mov (.con (.int .i64 0)))])
  (.seq (.region none 0
    [.op (some 5) none (.mov (.tmp 0)),
     .op (some 6) none (.mov (.tmp 1)),
     .call (some 7) none (.con (.fn 96 [] [])) [(.tmp 5), (.tmp 6)],
     .op (some 4) none (.mov (.tmp 7))])
  .ret)) }
/-- unicode/utf8.ValidRune -/
def x93 : XFunc := { ntmps := 17, results := [(.tmp 2)], body :=
  (.seq (.region none 0
    [.op (some 2) none (.mov (.con (.bool false)))])
  (.seq (.block 0 (.seq (.region none 0
    [.op (some 4) none (.mov (.tmp 0)),
     .op (some 5) none (.bin .leq (.con (.int .i32 0)) (.tmp 4)),
     .op (some 6) none (.mov (.tmp 5)),
     .op (some 7) (some (6, true)) (.mov (.tmp 0)),
     .op (some 8) (some (6, true)) (.bin .lss (.tmp 7) (.con (.int .i32 55296))),
     .op (some 9) none (.pick (.tmp 6) (.tmp 8) (.con (.bool false))),
     .op (some 3) none (.mov (.tmp 9))])
  (.cond (.tmp 3)
  (.seq (.region none 0
    [.op (some 2) none (.mov (.con (.bool true)))])
  .ret)
  (.seq (.region none 0
    [.op (some 11) none (.mov (.tmp 0)),
     .op (some 12) none (.bin .lss (.con (.int .i32 57343)) (.tmp 11)),
     .op (some 13) none (.mov (.tmp 12)),
     .op (some 14) (some (13, true)) (.mov (.tmp 0)),
     .op (some 15) (some (13, true)) (.bin .leq (.tmp 14) (.con (.int .i32 1114111))),
     .op (some 16) none (.pick (.tmp 13) (.tmp 15) (.con (.bool false))),
     .op (some 10) none (.mov (.tmp 16))])
  (.cond (.tmp 10)
  (.seq (.region none 0
    [.op (some 2) none (.mov (.con (.bool true)))])
  .ret)
  .skip)))))
  (.seq (.region none 0
    [.op (some 2) none (.mov (.con (.bool false)))])
  .ret))) }
/-- internal/bytealg.Cutover -/
def x94 : XFunc := { ntmps := 6, results := [(.tmp 2)], body :=
  (.seq (.region none 0
    [.op (some 2) none (.mov (.con (.int .i64 0)))])
  (.seq (.region none 0
    [.op (some 3) none (.mov (.tmp 0)),
     .op (some 4) none (.bin .add (.tmp 3) (.con (.int .i64 16))),
     .op (some 5) none (.bin .quo (.tmp 4) (.con (.int .i64 8))),
     .op (some 2) none (.mov (.tmp 5))])
  .ret)) }
/-- internal/stringslite.IndexByte -/
def x96 : XFunc := { ntmps := 8, results := [(.tmp 4)], body :=
  (.seq (.region none 0
    [.op (some 4) none (.mov (.con (.int .i64 0)))])
  (.seq (.region none 0
    [.op (some 5) none (.mov (.tmp 0)),
     .op (some 6) none (.mov (.tmp 1)),
     .call (some 7) none (.con (.fn 97 [] [])) [(.tmp 5), (.tmp 6)],
     .op (some 4) none (.mov (.tmp 7))])
  .ret)) }
/-- (campanile/box.queue).Len -/
def x114 : XFunc := { ntmps := 5, results := [(.tmp 2)], body :=
  (.seq (.region none 0
    [.op (some 2) none (.mov (.con (.int .i64 0)))])
  (.seq (.region none 0
    [.op (some 3) none (.mov (.tmp 0)),
     .op (some 4) none (.len false (.tmp 3)),
     .op (some 2) none (.mov (.tmp 4))])
  .ret)) }
/-- (campanile/box.queue).Less -/
def x115 : XFunc := { ntmps := 16, results := [(.tmp 6)], body :=
  (.seq (.region none 0
    [.op (some 6) none (.mov (.con (.bool false)))])
  (.seq (.region (some [(3, 7)]) 0
    [.op (some 7) none (.mov (.tmp 0)),
     .op (some 8) none (.mov (.tmp 1)),
     .op (some 9) none (.idx 7 (.tmp 7) (.tmp 8)),
     .op (some 10) none (.load true 7 (.tmp 9)),
     .op (some 11) none (.mov (.tmp 0)),
     .op (some 12) none (.mov (.tmp 2)),
     .op (some 13) none (.idx 7 (.tmp 11) (.tmp 12)),
     .op (some 14) none (.load true 7 (.tmp 13)),
     .call (some 15) none (.con (.fn 51 [] [])) [(.tmp 10), (.tmp 14)],
     .op (some 6) none (.mov (.tmp 15))])
  .ret)) }
/-- (campanile/box.queue).Swap -/
def x116 : XFunc := { ntmps := 20, results := [], body :=
  (.region (some [(7, 11)]) 0
    [.op (some 6) none (.mov (.tmp 0)),
     .op (some 7) none (.mov (.tmp 1)),
     .op (some 8) none (.mov (.tmp 0)),
     .op (some 9) none (.mov (.tmp 2)),
     .op (some 10) none (.mov (.tmp 0)),
     .op (some 11) none (.mov (.tmp 2)),
     .op (some 12) none (.idx 7 (.tmp 10) (.tmp 11)),
     .op (some 13) none (.load true 7 (.tmp 12)),
     .op (some 14) none (.mov (.tmp 0)),
     .op (some 15) none (.mov (.tmp 1)),
     .op (some 16) none (.idx 7 (.tmp 14) (.tmp 15)),
     .op (some 17) none (.load true 7 (.tmp 16)),
     .op (some 18) none (.idx 7 (.tmp 6) (.tmp 7)),
     .op none none (.store 7 (.tmp 18) (.tmp 13)),
     .op (some 19) none (.idx 7 (.tmp 8) (.tmp 9)),
     .op none none (.store 7 (.tmp 19) (.tmp 17))]) }
/-- (*campanile/box.queue).Pop -/
def x117 : XFunc := { ntmps := 25, results := [(.tmp 2)], body :=
  (.seq (.region none 0
    [.op (some 2) none (.mov (.con .nili))])
  (.seq (.region none 0
    [.op (some 5) none (.mov (.tmp 0)),
     .op (some 6) none (.nilc (.tmp 5)),
     .op (some 7) none (.load false 1 (.tmp 6)),
     .op (some 8) none (.len false (.tmp 7)),
     .op (some 9) none (.bin .sub (.tmp 8) (.con (.int .i64 1))),
     .op (some 3) none (.mov (.tmp 9))])
  (.seq (.region none 1
    [.op (some 10) none (.mov (.tmp 0)),
     .op (some 11) none (.nilc (.tmp 10)),
     .op (some 12) none (.load false 1 (.tmp 11)),
     .op (some 13) none (.mov (.tmp 3)),
     .op (some 14) none (.idx 7 (.tmp 12) (.tmp 13)),
     .op (some 15) none (.load true 7 (.tmp 14)),
     .op (some 4) none (.new 0 [(.int .i64 0), (.int .u32 0), (.bool false), (.bool false), (.int .i64 0), (.str []), (.int .i64 0)]),
     .op none none (.store 7 (.tmp 4) (.tmp 15))])
  (.seq (.region none 0
    [.op (some 16) none (.mov (.tmp 0)),
     .op (some 17) none (.mov (.tmp 0)),
     .op (some 18) none (.nilc (.tmp 17)),
     .op (some 19) none (.load false 1 (.tmp 18)),
     .op (some 20) none (.mov (.tmp 3)),
     .op (some 21) none (.slc 7 (.tmp 19) none (some (.tmp 20))),
     .op (some 22) none (.nilc (.tmp 16)),
     .op none none (.store 1 (.tmp 22) (.tmp 21))])
  (.seq (.region none 0
    [.op (some 23) none (.load true 7 (.tmp 4)),
     .op (some 24) none (.mki 60 (.tmp 23)),
     .op (some 2) none (.mov (.tmp 24))])
  .ret))))) }
/-- (*campanile/box.queue).Push -/
def x118 : XFunc := { ntmps := 13, results := [], body :=
  (.region (some [(3, 6)]) 2
    [.op (some 4) none (.mov (.tmp 0)),
     .op (some 5) none (.mov (.tmp 0)),
     .op (some 6) none (.nilc (.tmp 5)),
     .op (some 7) none (.load false 1 (.tmp 6)),
     .op (some 8) none (.mov (.tmp 1)),
     .op (some 9) none (.tas 60 (.tmp 8)),
     .op (some 10) none (.bsl 0 7 1 [(.int .i64 0), (.int .u32 0), (.bool false), (.bool false), (.int .i64 0), (.str []), (.int .i64 0)] [(0, 7, (.tmp 9))]),
     .op (some 11) none (.app 1 7 48 (.tmp 7) (.tmp 10)),
     .op (some 12) none (.nilc (.tmp 4)),
     .op none none (.store 1 (.tmp 12) (.tmp 11))]) }
/-- (*strings.Builder).Len -/
def x119 : XFunc := { ntmps := 8, results := [(.tmp 2)], body :=
  (.seq (.region none 0
    [.op (some 2) none (.mov (.con (.int .i64 0)))])
  (.seq (.region none 0
    [.op (some 3) none (.mov (.tmp 0)),
     .op (some 4) none (.nilc (.tmp 3)),
     .op (some 5) none (.fld 1 (.tmp 4)),
     .op (some 6) none (.load false 1 (.tmp 5)),
     .op (some 7) none (.len false (.tmp 6)),
     .op (some 2) none (.mov (.tmp 7))])
  .ret)) }
def irT : List (Option XFunc) := [none, none, some x2, some x3, none, some x5, some x6, some x7, some x8, some x9, some x10, some x11, some x12, some x13, some x14, some x15, some x16, some x17, some x18, some x19, some x20, some x21, some x22, some x23, some x24, some x25, some x26, some x27, some x28, some x29, some x30, some x31, some x32, some x33, some x34, some x35, some x36, some x37, some x38, some x39, some x40, some x41, some x42, some x43, some x44, some x45, some x46, some x47, some x48, some x49, some x50, some x51, some x52, some x53, some x54, some x55, some x56, some x57, some x58, some x59, some x60, some x61, some x62, some x63, some x64, some x65, some x66, some x67, some x68, some x69, some x70, some x71, some x72, some x73, some x74, some x75, none, some x77, some x78, some x79, some x80, some x81, some x82, some x83, some x84, some x85, some x86, none, some x88, none, none, none, some x92, some x93, some x94, none, some x96, none, none, none, none, none, none, none, none, none, none, none, none, none, none, none, none, none, some x114, some x115, some x116, some x117, some x118, some x119]
end Go.Proofs.YtcajggnllnibpaaDoor
