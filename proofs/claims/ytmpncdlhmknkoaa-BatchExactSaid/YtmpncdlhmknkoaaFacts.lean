/- The types and functions of this seat's program, as PA reads them. Printed by wip/facts.py. -/
import Derived.Test.YtmpncdlhmknkoaaPaB
import Derived.Test.YtmpncdlhmknkoaaProg
import Derived.KernelRfl
namespace Go.Proofs.Ytmpncdlhmknkoaa
open Go.PA

@[go_sem] theorem sz_2 : szOf Try.prog 2 = 1 := by kernel_rfl
@[go_sem] theorem kn_2 : knownT Try.prog 2 = true := by kernel_rfl
@[go_sem] theorem ag_2 : aggOf Try.prog 2 = false := by kernel_rfl
@[go_sem] theorem us_2 : (Try.prog.underlying 2).isSome = true := by kernel_rfl
@[go_sem] theorem un_2 : Try.prog.underlying 2 = some (.int .i64) := by kernel_rfl
@[go_sem] theorem ze_2 : zeros Try.prog 2 = some [.sc (.int .i64 0)] := by kernel_rfl
@[go_sem] theorem az_2 : azero1 Try.prog 2 = some (.sc (.int .i64 0)) := by kernel_rfl
@[go_sem] theorem by_2 : bytesOf Try.prog 2 = 8 := by kernel_rfl
@[go_sem] theorem sz_3 : szOf Try.prog 3 = 1 := by kernel_rfl
@[go_sem] theorem kn_3 : knownT Try.prog 3 = true := by kernel_rfl
@[go_sem] theorem ag_3 : aggOf Try.prog 3 = false := by kernel_rfl
@[go_sem] theorem us_3 : (Try.prog.underlying 3).isSome = true := by kernel_rfl
@[go_sem] theorem un_3 : Try.prog.underlying 3 = some (.int .i64) := by kernel_rfl
@[go_sem] theorem ze_3 : zeros Try.prog 3 = some [.sc (.int .i64 0)] := by kernel_rfl
@[go_sem] theorem az_3 : azero1 Try.prog 3 = some (.sc (.int .i64 0)) := by kernel_rfl
@[go_sem] theorem by_3 : bytesOf Try.prog 3 = 8 := by kernel_rfl
@[go_sem] theorem sz_4 : szOf Try.prog 4 = 1 := by kernel_rfl
@[go_sem] theorem kn_4 : knownT Try.prog 4 = true := by kernel_rfl
@[go_sem] theorem ag_4 : aggOf Try.prog 4 = false := by kernel_rfl
@[go_sem] theorem us_4 : (Try.prog.underlying 4).isSome = true := by kernel_rfl
@[go_sem] theorem un_4 : Try.prog.underlying 4 = some .bool := by kernel_rfl
@[go_sem] theorem ze_4 : zeros Try.prog 4 = some [.sc (.bool false)] := by kernel_rfl
@[go_sem] theorem az_4 : azero1 Try.prog 4 = some (.sc (.bool false)) := by kernel_rfl
@[go_sem] theorem by_4 : bytesOf Try.prog 4 = 1 := by kernel_rfl
@[go_sem] theorem sz_5 : szOf Try.prog 5 = 1 := by kernel_rfl
@[go_sem] theorem kn_5 : knownT Try.prog 5 = true := by kernel_rfl
@[go_sem] theorem ag_5 : aggOf Try.prog 5 = false := by kernel_rfl
@[go_sem] theorem us_5 : (Try.prog.underlying 5).isSome = true := by kernel_rfl
@[go_sem] theorem un_5 : Try.prog.underlying 5 = some (.int .u8) := by kernel_rfl
@[go_sem] theorem ze_5 : zeros Try.prog 5 = some [.sc (.int .u8 0)] := by kernel_rfl
@[go_sem] theorem az_5 : azero1 Try.prog 5 = some (.sc (.int .u8 0)) := by kernel_rfl
@[go_sem] theorem by_5 : bytesOf Try.prog 5 = 1 := by kernel_rfl
@[go_sem] theorem sz_9 : szOf Try.prog 9 = 1 := by kernel_rfl
@[go_sem] theorem kn_9 : knownT Try.prog 9 = true := by kernel_rfl
@[go_sem] theorem ag_9 : aggOf Try.prog 9 = false := by kernel_rfl
@[go_sem] theorem us_9 : (Try.prog.underlying 9).isSome = true := by kernel_rfl
@[go_sem] theorem un_9 : Try.prog.underlying 9 = some .string := by kernel_rfl
@[go_sem] theorem ze_9 : zeros Try.prog 9 = some [.sc (.string ByteArray.empty)] := by kernel_rfl
@[go_sem] theorem az_9 : azero1 Try.prog 9 = some (.sc (.string ByteArray.empty)) := by kernel_rfl
@[go_sem] theorem by_9 : bytesOf Try.prog 9 = 16 := by kernel_rfl
@[go_sem] theorem sz_12 : szOf Try.prog 12 = 1 := by kernel_rfl
@[go_sem] theorem kn_12 : knownT Try.prog 12 = true := by kernel_rfl
@[go_sem] theorem ag_12 : aggOf Try.prog 12 = false := by kernel_rfl
@[go_sem] theorem us_12 : (Try.prog.underlying 12).isSome = true := by kernel_rfl
@[go_sem] theorem un_12 : Try.prog.underlying 12 = some (.int .u64) := by kernel_rfl
@[go_sem] theorem ze_12 : zeros Try.prog 12 = some [.sc (.int .u64 0)] := by kernel_rfl
@[go_sem] theorem az_12 : azero1 Try.prog 12 = some (.sc (.int .u64 0)) := by kernel_rfl
@[go_sem] theorem by_12 : bytesOf Try.prog 12 = 8 := by kernel_rfl
@[go_sem] theorem sz_17 : szOf Try.prog 17 = 1 := by kernel_rfl
@[go_sem] theorem kn_17 : knownT Try.prog 17 = true := by kernel_rfl
@[go_sem] theorem ag_17 : aggOf Try.prog 17 = false := by kernel_rfl
@[go_sem] theorem us_17 : (Try.prog.underlying 17).isSome = true := by kernel_rfl
@[go_sem] theorem ze_17 : zeros Try.prog 17 = some [.sc (.pointer none)] := by kernel_rfl
@[go_sem] theorem by_17 : bytesOf Try.prog 17 = 8 := by kernel_rfl
@[go_sem] theorem sz_21 : szOf Try.prog 21 = 1 := by kernel_rfl
@[go_sem] theorem kn_21 : knownT Try.prog 21 = true := by kernel_rfl
@[go_sem] theorem ag_21 : aggOf Try.prog 21 = false := by kernel_rfl
@[go_sem] theorem us_21 : (Try.prog.underlying 21).isSome = true := by kernel_rfl
@[go_sem] theorem un_21 : Try.prog.underlying 21 = some (.int .i32) := by kernel_rfl
@[go_sem] theorem ze_21 : zeros Try.prog 21 = some [.sc (.int .i32 0)] := by kernel_rfl
@[go_sem] theorem az_21 : azero1 Try.prog 21 = some (.sc (.int .i32 0)) := by kernel_rfl
@[go_sem] theorem by_21 : bytesOf Try.prog 21 = 4 := by kernel_rfl
@[go_sem] theorem sz_22 : szOf Try.prog 22 = 1 := by kernel_rfl
@[go_sem] theorem kn_22 : knownT Try.prog 22 = true := by kernel_rfl
@[go_sem] theorem ag_22 : aggOf Try.prog 22 = false := by kernel_rfl
@[go_sem] theorem us_22 : (Try.prog.underlying 22).isSome = true := by kernel_rfl
@[go_sem] theorem el_22 : Go.PA.elemOf Try.prog 22 = some 3 := by kernel_rfl
@[go_sem] theorem un_22 : Try.prog.underlying 22 = some (.slice 3) := by kernel_rfl
@[go_sem] theorem ze_22 : zeros Try.prog 22 = some [.nil] := by kernel_rfl
@[go_sem] theorem az_22 : azero1 Try.prog 22 = some (.nil) := by kernel_rfl
@[go_sem] theorem by_22 : bytesOf Try.prog 22 = 24 := by kernel_rfl
@[go_sem] theorem sz_23 : szOf Try.prog 23 = 1 := by kernel_rfl
@[go_sem] theorem kn_23 : knownT Try.prog 23 = true := by kernel_rfl
@[go_sem] theorem ag_23 : aggOf Try.prog 23 = false := by kernel_rfl
@[go_sem] theorem us_23 : (Try.prog.underlying 23).isSome = true := by kernel_rfl
@[go_sem] theorem ze_23 : zeros Try.prog 23 = some [.sc (.pointer none)] := by kernel_rfl
@[go_sem] theorem by_23 : bytesOf Try.prog 23 = 8 := by kernel_rfl
@[go_sem] theorem sz_25 : szOf Try.prog 25 = 1 := by kernel_rfl
@[go_sem] theorem kn_25 : knownT Try.prog 25 = true := by kernel_rfl
@[go_sem] theorem ag_25 : aggOf Try.prog 25 = false := by kernel_rfl
@[go_sem] theorem us_25 : (Try.prog.underlying 25).isSome = true := by kernel_rfl
@[go_sem] theorem el_25 : Go.PA.elemOf Try.prog 25 = some 34 := by kernel_rfl
@[go_sem] theorem un_25 : Try.prog.underlying 25 = some (.slice 34) := by kernel_rfl
@[go_sem] theorem ze_25 : zeros Try.prog 25 = some [.nil] := by kernel_rfl
@[go_sem] theorem az_25 : azero1 Try.prog 25 = some (.nil) := by kernel_rfl
@[go_sem] theorem by_25 : bytesOf Try.prog 25 = 24 := by kernel_rfl
@[go_sem] theorem sz_26 : szOf Try.prog 26 = 1 := by kernel_rfl
@[go_sem] theorem kn_26 : knownT Try.prog 26 = true := by kernel_rfl
@[go_sem] theorem ag_26 : aggOf Try.prog 26 = false := by kernel_rfl
@[go_sem] theorem us_26 : (Try.prog.underlying 26).isSome = true := by kernel_rfl
@[go_sem] theorem el_26 : Go.PA.elemOf Try.prog 26 = some 45 := by kernel_rfl
@[go_sem] theorem un_26 : Try.prog.underlying 26 = some (.slice 45) := by kernel_rfl
@[go_sem] theorem ze_26 : zeros Try.prog 26 = some [.nil] := by kernel_rfl
@[go_sem] theorem az_26 : azero1 Try.prog 26 = some (.nil) := by kernel_rfl
@[go_sem] theorem by_26 : bytesOf Try.prog 26 = 24 := by kernel_rfl
@[go_sem] theorem sz_27 : szOf Try.prog 27 = 3 := by kernel_rfl
@[go_sem] theorem kn_27 : knownT Try.prog 27 = true := by kernel_rfl
@[go_sem] theorem ag_27 : aggOf Try.prog 27 = true := by kernel_rfl
@[go_sem] theorem us_27 : (Try.prog.underlying 27).isSome = true := by kernel_rfl
@[go_sem] theorem fd_27_0 : fieldOf Try.prog 27 0 = some (0, 25) := by kernel_rfl
@[go_sem] theorem fd_27_1 : fieldOf Try.prog 27 1 = some (1, 22) := by kernel_rfl
@[go_sem] theorem fd_27_2 : fieldOf Try.prog 27 2 = some (2, 26) := by kernel_rfl
@[go_sem] theorem el_27 : Go.PA.elemOf Try.prog 27 = none := by kernel_rfl
@[go_sem] theorem ar_27 : arrOf Try.prog 27 = none := by kernel_rfl
@[go_sem] theorem fk_27 : fieldsKnown Try.prog 27 = true := by kernel_rfl
@[go_sem] theorem ze_27 : zeros Try.prog 27 = some [.nil, .nil, .nil] := by kernel_rfl
@[go_sem] theorem by_27 : bytesOf Try.prog 27 = 72 := by kernel_rfl
@[go_sem] theorem sz_28 : szOf Try.prog 28 = 3 := by kernel_rfl
@[go_sem] theorem kn_28 : knownT Try.prog 28 = true := by kernel_rfl
@[go_sem] theorem ag_28 : aggOf Try.prog 28 = true := by kernel_rfl
@[go_sem] theorem us_28 : (Try.prog.underlying 28).isSome = true := by kernel_rfl
@[go_sem] theorem fd_28_0 : fieldOf Try.prog 28 0 = some (0, 25) := by kernel_rfl
@[go_sem] theorem fd_28_1 : fieldOf Try.prog 28 1 = some (1, 22) := by kernel_rfl
@[go_sem] theorem fd_28_2 : fieldOf Try.prog 28 2 = some (2, 26) := by kernel_rfl
@[go_sem] theorem el_28 : Go.PA.elemOf Try.prog 28 = none := by kernel_rfl
@[go_sem] theorem ar_28 : arrOf Try.prog 28 = none := by kernel_rfl
@[go_sem] theorem fk_28 : fieldsKnown Try.prog 28 = true := by kernel_rfl
@[go_sem] theorem ze_28 : zeros Try.prog 28 = some [.nil, .nil, .nil] := by kernel_rfl
@[go_sem] theorem by_28 : bytesOf Try.prog 28 = 72 := by kernel_rfl
@[go_sem] theorem sz_31 : szOf Try.prog 31 = 1 := by kernel_rfl
@[go_sem] theorem kn_31 : knownT Try.prog 31 = true := by kernel_rfl
@[go_sem] theorem ag_31 : aggOf Try.prog 31 = false := by kernel_rfl
@[go_sem] theorem us_31 : (Try.prog.underlying 31).isSome = true := by kernel_rfl
@[go_sem] theorem un_31 : Try.prog.underlying 31 = some (.int .i64) := by kernel_rfl
@[go_sem] theorem ze_31 : zeros Try.prog 31 = some [.sc (.int .i64 0)] := by kernel_rfl
@[go_sem] theorem az_31 : azero1 Try.prog 31 = some (.sc (.int .i64 0)) := by kernel_rfl
@[go_sem] theorem by_31 : bytesOf Try.prog 31 = 8 := by kernel_rfl
@[go_sem] theorem sz_33 : szOf Try.prog 33 = 5 := by kernel_rfl
@[go_sem] theorem kn_33 : knownT Try.prog 33 = true := by kernel_rfl
@[go_sem] theorem ag_33 : aggOf Try.prog 33 = true := by kernel_rfl
@[go_sem] theorem us_33 : (Try.prog.underlying 33).isSome = true := by kernel_rfl
@[go_sem] theorem fd_33_0 : fieldOf Try.prog 33 0 = some (0, 3) := by kernel_rfl
@[go_sem] theorem fd_33_1 : fieldOf Try.prog 33 1 = some (1, 3) := by kernel_rfl
@[go_sem] theorem fd_33_2 : fieldOf Try.prog 33 2 = some (2, 3) := by kernel_rfl
@[go_sem] theorem fd_33_3 : fieldOf Try.prog 33 3 = some (3, 3) := by kernel_rfl
@[go_sem] theorem fd_33_4 : fieldOf Try.prog 33 4 = some (4, 3) := by kernel_rfl
@[go_sem] theorem el_33 : Go.PA.elemOf Try.prog 33 = none := by kernel_rfl
@[go_sem] theorem ar_33 : arrOf Try.prog 33 = none := by kernel_rfl
@[go_sem] theorem fk_33 : fieldsKnown Try.prog 33 = true := by kernel_rfl
@[go_sem] theorem sg_33 : sigOf Try.prog 33 = some [.int, .int, .int, .int, .int] := by kernel_rfl
@[go_sem] theorem ze_33 : zeros Try.prog 33 = some [.sc (.int .i64 0), .sc (.int .i64 0), .sc (.int .i64 0), .sc (.int .i64 0), .sc (.int .i64 0)] := by kernel_rfl
@[go_sem] theorem by_33 : bytesOf Try.prog 33 = 40 := by kernel_rfl
@[go_sem] theorem sz_34 : szOf Try.prog 34 = 5 := by kernel_rfl
@[go_sem] theorem kn_34 : knownT Try.prog 34 = true := by kernel_rfl
@[go_sem] theorem ag_34 : aggOf Try.prog 34 = true := by kernel_rfl
@[go_sem] theorem us_34 : (Try.prog.underlying 34).isSome = true := by kernel_rfl
@[go_sem] theorem fd_34_0 : fieldOf Try.prog 34 0 = some (0, 3) := by kernel_rfl
@[go_sem] theorem fd_34_1 : fieldOf Try.prog 34 1 = some (1, 3) := by kernel_rfl
@[go_sem] theorem fd_34_2 : fieldOf Try.prog 34 2 = some (2, 3) := by kernel_rfl
@[go_sem] theorem fd_34_3 : fieldOf Try.prog 34 3 = some (3, 3) := by kernel_rfl
@[go_sem] theorem fd_34_4 : fieldOf Try.prog 34 4 = some (4, 3) := by kernel_rfl
@[go_sem] theorem el_34 : Go.PA.elemOf Try.prog 34 = none := by kernel_rfl
@[go_sem] theorem ar_34 : arrOf Try.prog 34 = none := by kernel_rfl
@[go_sem] theorem fk_34 : fieldsKnown Try.prog 34 = true := by kernel_rfl
@[go_sem] theorem sg_34 : sigOf Try.prog 34 = some [.int, .int, .int, .int, .int] := by kernel_rfl
@[go_sem] theorem ze_34 : zeros Try.prog 34 = some [.sc (.int .i64 0), .sc (.int .i64 0), .sc (.int .i64 0), .sc (.int .i64 0), .sc (.int .i64 0)] := by kernel_rfl
@[go_sem] theorem by_34 : bytesOf Try.prog 34 = 40 := by kernel_rfl
@[go_sem] theorem sz_44 : szOf Try.prog 44 = 3 := by kernel_rfl
@[go_sem] theorem kn_44 : knownT Try.prog 44 = true := by kernel_rfl
@[go_sem] theorem ag_44 : aggOf Try.prog 44 = true := by kernel_rfl
@[go_sem] theorem us_44 : (Try.prog.underlying 44).isSome = true := by kernel_rfl
@[go_sem] theorem fd_44_0 : fieldOf Try.prog 44 0 = some (0, 3) := by kernel_rfl
@[go_sem] theorem fd_44_1 : fieldOf Try.prog 44 1 = some (1, 3) := by kernel_rfl
@[go_sem] theorem fd_44_2 : fieldOf Try.prog 44 2 = some (2, 25) := by kernel_rfl
@[go_sem] theorem el_44 : Go.PA.elemOf Try.prog 44 = none := by kernel_rfl
@[go_sem] theorem ar_44 : arrOf Try.prog 44 = none := by kernel_rfl
@[go_sem] theorem fk_44 : fieldsKnown Try.prog 44 = true := by kernel_rfl
@[go_sem] theorem ze_44 : zeros Try.prog 44 = some [.sc (.int .i64 0), .sc (.int .i64 0), .nil] := by kernel_rfl
@[go_sem] theorem by_44 : bytesOf Try.prog 44 = 40 := by kernel_rfl
@[go_sem] theorem sz_45 : szOf Try.prog 45 = 3 := by kernel_rfl
@[go_sem] theorem kn_45 : knownT Try.prog 45 = true := by kernel_rfl
@[go_sem] theorem ag_45 : aggOf Try.prog 45 = true := by kernel_rfl
@[go_sem] theorem us_45 : (Try.prog.underlying 45).isSome = true := by kernel_rfl
@[go_sem] theorem fd_45_0 : fieldOf Try.prog 45 0 = some (0, 3) := by kernel_rfl
@[go_sem] theorem fd_45_1 : fieldOf Try.prog 45 1 = some (1, 3) := by kernel_rfl
@[go_sem] theorem fd_45_2 : fieldOf Try.prog 45 2 = some (2, 25) := by kernel_rfl
@[go_sem] theorem el_45 : Go.PA.elemOf Try.prog 45 = none := by kernel_rfl
@[go_sem] theorem ar_45 : arrOf Try.prog 45 = none := by kernel_rfl
@[go_sem] theorem fk_45 : fieldsKnown Try.prog 45 = true := by kernel_rfl
@[go_sem] theorem ze_45 : zeros Try.prog 45 = some [.sc (.int .i64 0), .sc (.int .i64 0), .nil] := by kernel_rfl
@[go_sem] theorem by_45 : bytesOf Try.prog 45 = 40 := by kernel_rfl
@[go_sem] theorem sz_58 : szOf Try.prog 58 = 9 := by kernel_rfl
@[go_sem] theorem kn_58 : knownT Try.prog 58 = true := by kernel_rfl
@[go_sem] theorem ag_58 : aggOf Try.prog 58 = true := by kernel_rfl
@[go_sem] theorem us_58 : (Try.prog.underlying 58).isSome = true := by kernel_rfl
@[go_sem] theorem el_58 : Go.PA.elemOf Try.prog 58 = none := by kernel_rfl
@[go_sem] theorem ar_58 : arrOf Try.prog 58 = some (3, 28) := by kernel_rfl
@[go_sem] theorem fk_58 : fieldsKnown Try.prog 58 = true := by kernel_rfl
@[go_sem] theorem fd_58_0 : fieldOf Try.prog 58 0 = none := by kernel_rfl
@[go_sem] theorem fd_58_1 : fieldOf Try.prog 58 1 = none := by kernel_rfl
@[go_sem] theorem fd_58_2 : fieldOf Try.prog 58 2 = none := by kernel_rfl
@[go_sem] theorem ze_58 : zeros Try.prog 58 = some [.nil, .nil, .nil, .nil, .nil, .nil, .nil, .nil, .nil] := by kernel_rfl
@[go_sem] theorem by_58 : bytesOf Try.prog 58 = 216 := by kernel_rfl
@[go_sem] theorem sz_59 : szOf Try.prog 59 = 15 := by kernel_rfl
@[go_sem] theorem kn_59 : knownT Try.prog 59 = true := by kernel_rfl
@[go_sem] theorem ag_59 : aggOf Try.prog 59 = true := by kernel_rfl
@[go_sem] theorem us_59 : (Try.prog.underlying 59).isSome = true := by kernel_rfl
@[go_sem] theorem el_59 : Go.PA.elemOf Try.prog 59 = none := by kernel_rfl
@[go_sem] theorem ar_59 : arrOf Try.prog 59 = some (3, 34) := by kernel_rfl
@[go_sem] theorem fk_59 : fieldsKnown Try.prog 59 = true := by kernel_rfl
@[go_sem] theorem fd_59_0 : fieldOf Try.prog 59 0 = none := by kernel_rfl
@[go_sem] theorem fd_59_1 : fieldOf Try.prog 59 1 = none := by kernel_rfl
@[go_sem] theorem fd_59_2 : fieldOf Try.prog 59 2 = none := by kernel_rfl
@[go_sem] theorem ze_59 : zeros Try.prog 59 = some [.sc (.int .i64 0), .sc (.int .i64 0), .sc (.int .i64 0), .sc (.int .i64 0), .sc (.int .i64 0), .sc (.int .i64 0), .sc (.int .i64 0), .sc (.int .i64 0), .sc (.int .i64 0), .sc (.int .i64 0), .sc (.int .i64 0), .sc (.int .i64 0), .sc (.int .i64 0), .sc (.int .i64 0), .sc (.int .i64 0)] := by kernel_rfl
@[go_sem] theorem by_59 : bytesOf Try.prog 59 = 120 := by kernel_rfl
@[go_sem] theorem sz_61 : szOf Try.prog 61 = 3 := by kernel_rfl
@[go_sem] theorem kn_61 : knownT Try.prog 61 = true := by kernel_rfl
@[go_sem] theorem ag_61 : aggOf Try.prog 61 = true := by kernel_rfl
@[go_sem] theorem us_61 : (Try.prog.underlying 61).isSome = true := by kernel_rfl
@[go_sem] theorem el_61 : Go.PA.elemOf Try.prog 61 = none := by kernel_rfl
@[go_sem] theorem ar_61 : arrOf Try.prog 61 = some (3, 3) := by kernel_rfl
@[go_sem] theorem fk_61 : fieldsKnown Try.prog 61 = true := by kernel_rfl
@[go_sem] theorem fd_61_0 : fieldOf Try.prog 61 0 = none := by kernel_rfl
@[go_sem] theorem fd_61_1 : fieldOf Try.prog 61 1 = none := by kernel_rfl
@[go_sem] theorem fd_61_2 : fieldOf Try.prog 61 2 = none := by kernel_rfl
@[go_sem] theorem ze_61 : zeros Try.prog 61 = some [.sc (.int .i64 0), .sc (.int .i64 0), .sc (.int .i64 0)] := by kernel_rfl
@[go_sem] theorem by_61 : bytesOf Try.prog 61 = 24 := by kernel_rfl
@[go_sem] theorem sz_62 : szOf Try.prog 62 = 3 := by kernel_rfl
@[go_sem] theorem kn_62 : knownT Try.prog 62 = true := by kernel_rfl
@[go_sem] theorem ag_62 : aggOf Try.prog 62 = true := by kernel_rfl
@[go_sem] theorem us_62 : (Try.prog.underlying 62).isSome = true := by kernel_rfl
@[go_sem] theorem el_62 : Go.PA.elemOf Try.prog 62 = none := by kernel_rfl
@[go_sem] theorem ar_62 : arrOf Try.prog 62 = some (3, 22) := by kernel_rfl
@[go_sem] theorem fk_62 : fieldsKnown Try.prog 62 = true := by kernel_rfl
@[go_sem] theorem fd_62_0 : fieldOf Try.prog 62 0 = none := by kernel_rfl
@[go_sem] theorem fd_62_1 : fieldOf Try.prog 62 1 = none := by kernel_rfl
@[go_sem] theorem fd_62_2 : fieldOf Try.prog 62 2 = none := by kernel_rfl
@[go_sem] theorem ze_62 : zeros Try.prog 62 = some [.nil, .nil, .nil] := by kernel_rfl
@[go_sem] theorem by_62 : bytesOf Try.prog 62 = 72 := by kernel_rfl
@[go_sem] theorem sz_65 : szOf Try.prog 65 = 2 := by kernel_rfl
@[go_sem] theorem kn_65 : knownT Try.prog 65 = true := by kernel_rfl
@[go_sem] theorem ag_65 : aggOf Try.prog 65 = true := by kernel_rfl
@[go_sem] theorem us_65 : (Try.prog.underlying 65).isSome = true := by kernel_rfl
@[go_sem] theorem fd_65_0 : fieldOf Try.prog 65 0 = some (0, 22) := by kernel_rfl
@[go_sem] theorem fd_65_1 : fieldOf Try.prog 65 1 = some (1, 3) := by kernel_rfl
@[go_sem] theorem el_65 : Go.PA.elemOf Try.prog 65 = none := by kernel_rfl
@[go_sem] theorem ar_65 : arrOf Try.prog 65 = none := by kernel_rfl
@[go_sem] theorem fk_65 : fieldsKnown Try.prog 65 = true := by kernel_rfl
@[go_sem] theorem ze_65 : zeros Try.prog 65 = some [.nil, .sc (.int .i64 0)] := by kernel_rfl
@[go_sem] theorem by_65 : bytesOf Try.prog 65 = 32 := by kernel_rfl
@[go_sem] theorem sz_66 : szOf Try.prog 66 = 2 := by kernel_rfl
@[go_sem] theorem kn_66 : knownT Try.prog 66 = true := by kernel_rfl
@[go_sem] theorem ag_66 : aggOf Try.prog 66 = true := by kernel_rfl
@[go_sem] theorem us_66 : (Try.prog.underlying 66).isSome = true := by kernel_rfl
@[go_sem] theorem fd_66_0 : fieldOf Try.prog 66 0 = some (0, 22) := by kernel_rfl
@[go_sem] theorem fd_66_1 : fieldOf Try.prog 66 1 = some (1, 3) := by kernel_rfl
@[go_sem] theorem el_66 : Go.PA.elemOf Try.prog 66 = none := by kernel_rfl
@[go_sem] theorem ar_66 : arrOf Try.prog 66 = none := by kernel_rfl
@[go_sem] theorem fk_66 : fieldsKnown Try.prog 66 = true := by kernel_rfl
@[go_sem] theorem ze_66 : zeros Try.prog 66 = some [.nil, .sc (.int .i64 0)] := by kernel_rfl
@[go_sem] theorem by_66 : bytesOf Try.prog 66 = 32 := by kernel_rfl
@[go_sem] theorem sz_85 : szOf Try.prog 85 = 1 := by kernel_rfl
@[go_sem] theorem kn_85 : knownT Try.prog 85 = true := by kernel_rfl
@[go_sem] theorem ag_85 : aggOf Try.prog 85 = false := by kernel_rfl
@[go_sem] theorem us_85 : (Try.prog.underlying 85).isSome = true := by kernel_rfl
@[go_sem] theorem mp_85 : mapOf Try.prog 85 = some (3, .int .i64, 4) := by kernel_rfl
@[go_sem] theorem mi_85 : IMap Try.prog 85 (.sc (.bool false)) := ⟨_, _, mp_85, by kernel_rfl⟩
@[go_sem] theorem im_85 : isMapT Try.prog 85 = true := by kernel_rfl
@[go_sem] theorem by_85 : bytesOf Try.prog 85 = 8 := by kernel_rfl
@[go_sem] theorem sz_86 : szOf Try.prog 86 = 1 := by kernel_rfl
@[go_sem] theorem kn_86 : knownT Try.prog 86 = true := by kernel_rfl
@[go_sem] theorem ag_86 : aggOf Try.prog 86 = false := by kernel_rfl
@[go_sem] theorem us_86 : (Try.prog.underlying 86).isSome = true := by kernel_rfl
@[go_sem] theorem un_86 : Try.prog.underlying 86 = some (.int .u64) := by kernel_rfl
@[go_sem] theorem ze_86 : zeros Try.prog 86 = some [.sc (.int .u64 0)] := by kernel_rfl
@[go_sem] theorem az_86 : azero1 Try.prog 86 = some (.sc (.int .u64 0)) := by kernel_rfl
@[go_sem] theorem by_86 : bytesOf Try.prog 86 = 8 := by kernel_rfl
@[go_sem] theorem sz_103 : szOf Try.prog 103 = 1 := by kernel_rfl
@[go_sem] theorem kn_103 : knownT Try.prog 103 = true := by kernel_rfl
@[go_sem] theorem ag_103 : aggOf Try.prog 103 = false := by kernel_rfl
@[go_sem] theorem us_103 : (Try.prog.underlying 103).isSome = true := by kernel_rfl
@[go_sem] theorem un_103 : Try.prog.underlying 103 = some (.int .u32) := by kernel_rfl
@[go_sem] theorem ze_103 : zeros Try.prog 103 = some [.sc (.int .u32 0)] := by kernel_rfl
@[go_sem] theorem az_103 : azero1 Try.prog 103 = some (.sc (.int .u32 0)) := by kernel_rfl
@[go_sem] theorem by_103 : bytesOf Try.prog 103 = 4 := by kernel_rfl
@[go_sem] theorem sz_107 : szOf Try.prog 107 = 1 := by kernel_rfl
@[go_sem] theorem kn_107 : knownT Try.prog 107 = true := by kernel_rfl
@[go_sem] theorem ag_107 : aggOf Try.prog 107 = false := by kernel_rfl
@[go_sem] theorem us_107 : (Try.prog.underlying 107).isSome = true := by kernel_rfl
@[go_sem] theorem ze_107 : zeros Try.prog 107 = some [.sc (.pointer none)] := by kernel_rfl
@[go_sem] theorem by_107 : bytesOf Try.prog 107 = 8 := by kernel_rfl
@[go_sem] theorem en_3 : enterable Try.prog 3 = true := by kernel_rfl -- treasury/treasurylaw25.BatchOnce
@[go_sem] theorem en_4 : enterable Try.prog 4 = true := by kernel_rfl -- treasury/treasurylaw25.BatchOrder
@[go_sem] theorem en_5 : enterable Try.prog 5 = true := by kernel_rfl -- treasury/treasurylaw25.BatchLater
@[go_sem] theorem en_6 : enterable Try.prog 6 = true := by kernel_rfl -- treasury/treasurylaw25.BatchBack
@[go_sem] theorem en_7 : enterable Try.prog 7 = true := by kernel_rfl -- treasury/treasurylaw25.BatchExact
@[go_sem] theorem en_8 : enterable Try.prog 8 = true := by kernel_rfl -- treasury/treasuryplay.New
@[go_sem] theorem en_9 : enterable Try.prog 9 = true := by kernel_rfl -- treasury/treasurylaw25.step
@[go_sem] theorem en_10 : enterable Try.prog 10 = true := by kernel_rfl -- treasury/batch.Check
@[go_sem] theorem en_11 : enterable Try.prog 11 = true := by kernel_rfl -- (*treasury/treasuryplay.Src).Payment
@[go_sem] theorem en_12 : enterable Try.prog 12 = true := by kernel_rfl -- treasury/batch.Add
@[go_sem] theorem en_13 : enterable Try.prog 13 = true := by kernel_rfl -- treasury/treasuryref25.Known
@[go_sem] theorem en_14 : enterable Try.prog 14 = true := by kernel_rfl -- treasury/treasurylaw25.sane
@[go_sem] theorem en_15 : enterable Try.prog 15 = true := by kernel_rfl -- treasury/treasurylaw25.queue
@[go_sem] theorem en_16 : enterable Try.prog 16 = true := by kernel_rfl -- treasury/treasuryplay.Business
@[go_sem] theorem en_17 : enterable Try.prog 17 = true := by kernel_rfl -- treasury/batch.Ready
@[go_sem] theorem en_18 : enterable Try.prog 18 = true := by kernel_rfl -- treasury/batch.Take
@[go_sem] theorem en_19 : enterable Try.prog 19 = true := by kernel_rfl -- treasury/treasuryref25.Sum
@[go_sem] theorem en_20 : enterable Try.prog 20 = true := by kernel_rfl -- treasury/batch.Sum
@[go_sem] theorem en_21 : enterable Try.prog 21 = true := by kernel_rfl -- treasury/treasuryref25.Before
@[go_sem] theorem en_22 : enterable Try.prog 22 = true := by kernel_rfl -- treasury/treasuryref25.Payments
@[go_sem] theorem en_23 : enterable Try.prog 23 = true := by kernel_rfl -- treasury/batch.Drop
@[go_sem] theorem en_24 : enterable Try.prog 24 = true := by kernel_rfl -- treasury/treasuryref25.Same
@[go_sem] theorem en_25 : enterable Try.prog 25 = true := by kernel_rfl -- treasury/treasurylaw25.small
@[go_sem] theorem en_26 : enterable Try.prog 26 = true := by kernel_rfl -- (*treasury/treasuryplay.Src).N
@[go_sem] theorem en_27 : enterable Try.prog 27 = true := by kernel_rfl -- (*treasury/treasuryplay.Src).Range
@[go_sem] theorem en_28 : enterable Try.prog 28 = true := by kernel_rfl -- (*treasury/treasuryplay.Src).Odd
@[go_sem] theorem en_29 : enterable Try.prog 29 = true := by kernel_rfl -- treasury/treasuryref25.Check
@[go_sem] theorem en_30 : enterable Try.prog 30 = true := by kernel_rfl -- treasury/treasuryref25.Add
@[go_sem] theorem en_31 : enterable Try.prog 31 = true := by kernel_rfl -- treasury/batch.Again
@[go_sem] theorem en_32 : enterable Try.prog 32 = true := by kernel_rfl -- treasury/treasuryref25.Again
@[go_sem] theorem en_33 : enterable Try.prog 33 = true := by kernel_rfl -- treasury/batch.Payment
@[go_sem] theorem en_34 : enterable Try.prog 34 = true := by kernel_rfl -- treasury/treasuryref25.Payment
@[go_sem] theorem en_35 : enterable Try.prog 35 = true := by kernel_rfl -- treasury/treasuryref25.Drop
@[go_sem] theorem en_36 : enterable Try.prog 36 = true := by kernel_rfl -- treasury/treasuryref25.Ready
@[go_sem] theorem en_37 : enterable Try.prog 37 = true := by kernel_rfl -- treasury/treasuryref25.Take
@[go_sem] theorem en_38 : enterable Try.prog 38 = true := by kernel_rfl -- treasury/treasuryref25.Batch
@[go_sem] theorem en_39 : enterable Try.prog 39 = true := by kernel_rfl -- treasury/batch.ordered
@[go_sem] theorem en_40 : enterable Try.prog 40 = true := by kernel_rfl -- treasury/batch.known
@[go_sem] theorem en_41 : enterable Try.prog 41 = true := by kernel_rfl -- treasury/batch.strange
@[go_sem] theorem en_42 : enterable Try.prog 42 = true := by kernel_rfl -- treasury/batch.twice
@[go_sem] theorem en_43 : enterable Try.prog 43 = true := by kernel_rfl -- treasury/batch.sent
@[go_sem] theorem en_44 : enterable Try.prog 44 = true := by kernel_rfl -- (*treasury/treasuryplay.Src).Pick
@[go_sem] theorem en_45 : enterable Try.prog 45 = true := by kernel_rfl -- slices.BinarySearch[[]int,int]
@[go_sem] theorem en_46 : enterable Try.prog 46 = true := by kernel_rfl -- treasury/batch.wait
@[go_sem] theorem en_47 : enterable Try.prog 47 = true := by kernel_rfl -- treasury/batch.Copy
@[go_sem] theorem en_48 : enterable Try.prog 48 = true := by kernel_rfl -- slices.Insert[[]int,int]
@[go_sem] theorem en_49 : enterable Try.prog 49 = true := by kernel_rfl -- slices.DeleteFunc[[]treasury/api.Payment,treasury/api.Payment]
@[go_sem] theorem en_50 : enterable Try.prog 50 = true := by kernel_rfl -- slices.Clone[[]treasury/api.Payment,treasury/api.Payment]
@[go_sem] theorem en_51 : enterable Try.prog 51 = true := by kernel_rfl -- treasury/batch.Ready$1
@[go_sem] theorem en_52 : enterable Try.prog 52 = true := by kernel_rfl -- treasury/calendar.Business
@[go_sem] theorem en_53 : enterable Try.prog 53 = true := by kernel_rfl -- treasury/batch.Take$1
@[go_sem] theorem en_54 : enterable Try.prog 54 = true := by kernel_rfl -- slices.Contains[[]int,int]
@[go_sem] theorem en_55 : enterable Try.prog 55 = true := by kernel_rfl -- treasury/batch.Take$2
@[go_sem] theorem en_56 : enterable Try.prog 56 = true := by kernel_rfl -- treasury/batch.waits
@[go_sem] theorem en_57 : enterable Try.prog 57 = true := by kernel_rfl -- slices.Delete[[]treasury/api.Payment,treasury/api.Payment]
@[go_sem] theorem en_58 : enterable Try.prog 58 = true := by kernel_rfl -- treasury/treasuryref25.Ints
@[go_sem] theorem en_59 : enterable Try.prog 59 = true := by kernel_rfl -- treasury/treasuryref25.ascending
@[go_sem] theorem en_60 : enterable Try.prog 60 = true := by kernel_rfl -- treasury/treasuryref02.Business
@[go_sem] theorem en_61 : enterable Try.prog 61 = true := by kernel_rfl -- treasury/treasuryref25.put
@[go_sem] theorem en_62 : enterable Try.prog 62 = true := by kernel_rfl -- treasury/treasuryref25.waits
@[go_sem] theorem en_63 : enterable Try.prog 63 = true := by kernel_rfl -- treasury/batch.among
@[go_sem] theorem en_64 : enterable Try.prog 64 = true := by kernel_rfl -- treasury/batch.compare
@[go_sem] theorem en_65 : enterable Try.prog 65 = true := by kernel_rfl -- slices.ContainsFunc[[]treasury/api.Payment,treasury/api.Payment]
@[go_sem] theorem en_66 : enterable Try.prog 66 = true := by kernel_rfl -- treasury/batch.strange$1
@[go_sem] theorem en_67 : enterable Try.prog 67 = true := by kernel_rfl -- cmp.Less[int]
@[go_sem] theorem en_68 : enterable Try.prog 68 = true := by kernel_rfl -- slices.isNaN[int]
@[go_sem] theorem en_69 : enterable Try.prog 69 = true := by kernel_rfl -- slices.BinarySearchFunc[[]treasury/api.Payment,treasury/api.Payment,treasury/api.Payment]
@[go_sem] theorem en_70 : enterable Try.prog 70 = true := by kernel_rfl -- slices.Insert[[]treasury/api.Payment,treasury/api.Payment]
@[go_sem] theorem en_71 : enterable Try.prog 71 = true := by kernel_rfl -- slices.Clone[[]int,int]
@[go_sem] theorem en_73 : enterable Try.prog 73 = true := by kernel_rfl -- slices.rotateRight[int]
@[go_sem] theorem en_74 : enterable Try.prog 74 = true := by kernel_rfl -- slices.IndexFunc[[]treasury/api.Payment,treasury/api.Payment]
@[go_sem] theorem en_75 : enterable Try.prog 75 = true := by kernel_rfl -- treasury/calendar.Valid
@[go_sem] theorem en_76 : enterable Try.prog 76 = true := by kernel_rfl -- slices.Index[[]int,int]
@[go_sem] theorem en_77 : enterable Try.prog 77 = true := by kernel_rfl -- treasury/batch.waits$1
@[go_sem] theorem en_78 : enterable Try.prog 78 = true := by kernel_rfl -- treasury/treasuryref02.Valid
@[go_sem] theorem en_79 : enterable Try.prog 79 = true := by kernel_rfl -- cmp.Or[int]
@[go_sem] theorem en_80 : enterable Try.prog 80 = true := by kernel_rfl -- cmp.Compare[int]
@[go_sem] theorem en_81 : enterable Try.prog 81 = true := by kernel_rfl -- cmp.isNaN[int]
@[go_sem] theorem en_83 : enterable Try.prog 83 = true := by kernel_rfl -- slices.rotateRight[treasury/api.Payment]
@[go_sem] theorem en_84 : enterable Try.prog 84 = true := by kernel_rfl -- slices.rotateLeft[int]
@[go_sem] theorem en_85 : enterable Try.prog 85 = true := by kernel_rfl -- slices.rotateLeft[treasury/api.Payment]
@[go_sem] theorem en_86 : enterable Try.prog 86 = true := by kernel_rfl -- slices.Reverse[[]int,int]
@[go_sem] theorem en_87 : enterable Try.prog 87 = true := by kernel_rfl -- slices.Reverse[[]treasury/api.Payment,treasury/api.Payment]
@[go_sem] theorem rs_3 : Try.f3.results.toList = [.tmp 2] := rfl
@[go_sem] theorem rs_4 : Try.f4.results.toList = [.tmp 4] := rfl
@[go_sem] theorem rs_5 : Try.f5.results.toList = [.tmp 6] := rfl
@[go_sem] theorem rs_6 : Try.f6.results.toList = [.tmp 2] := rfl
@[go_sem] theorem rs_7 : Try.f7.results.toList = [.tmp 12] := rfl
@[go_sem] theorem rs_8 : Try.f8.results.toList = [.tmp 2] := rfl
@[go_sem] theorem rs_9 : Try.f9.results.toList = [.cell 6 28, .tmp 7] := rfl
@[go_sem] theorem rs_10 : Try.f10.results.toList = [.tmp 2] := rfl
@[go_sem] theorem rs_11 : Try.f11.results.toList = [.cell 2 34] := rfl
@[go_sem] theorem rs_12 : Try.f12.results.toList = [.cell 4 28, .tmp 5] := rfl
@[go_sem] theorem rs_13 : Try.f13.results.toList = [.tmp 4] := rfl
@[go_sem] theorem rs_14 : Try.f14.results.toList = [.tmp 0] := rfl
@[go_sem] theorem rs_15 : Try.f15.results.toList = [.cell 2 28] := rfl
@[go_sem] theorem rs_16 : Try.f16.results.toList = [.tmp 2] := rfl
@[go_sem] theorem rs_17 : Try.f17.results.toList = [.tmp 4] := rfl
@[go_sem] theorem rs_18 : Try.f18.results.toList = [.cell 6 28, .cell 7 45, .tmp 8] := rfl
@[go_sem] theorem rs_19 : Try.f19.results.toList = [.tmp 2] := rfl
@[go_sem] theorem rs_20 : Try.f20.results.toList = [.tmp 2] := rfl
@[go_sem] theorem rs_21 : Try.f21.results.toList = [.tmp 4] := rfl
@[go_sem] theorem rs_22 : Try.f22.results.toList = [.tmp 4] := rfl
@[go_sem] theorem rs_23 : Try.f23.results.toList = [.cell 4 28, .tmp 5] := rfl
@[go_sem] theorem rs_24 : Try.f24.results.toList = [.tmp 4] := rfl
@[go_sem] theorem rs_25 : Try.f25.results.toList = [.tmp 2] := rfl
@[go_sem] theorem rs_26 : Try.f26.results.toList = [.tmp 4] := rfl
@[go_sem] theorem rs_27 : Try.f27.results.toList = [.tmp 6] := rfl
@[go_sem] theorem rs_28 : Try.f28.results.toList = [.tmp 2] := rfl
@[go_sem] theorem rs_29 : Try.f29.results.toList = [.tmp 2] := rfl
@[go_sem] theorem rs_30 : Try.f30.results.toList = [.cell 4 28, .tmp 5] := rfl
@[go_sem] theorem rs_31 : Try.f31.results.toList = [.cell 4 28, .tmp 5] := rfl
@[go_sem] theorem rs_32 : Try.f32.results.toList = [.cell 4 28, .tmp 5] := rfl
@[go_sem] theorem rs_33 : Try.f33.results.toList = [.tmp 2] := rfl
@[go_sem] theorem rs_34 : Try.f34.results.toList = [.tmp 2] := rfl
@[go_sem] theorem rs_35 : Try.f35.results.toList = [.cell 4 28, .tmp 5] := rfl
@[go_sem] theorem rs_36 : Try.f36.results.toList = [.tmp 4] := rfl
@[go_sem] theorem rs_37 : Try.f37.results.toList = [.cell 6 28, .cell 7 45, .tmp 8] := rfl
@[go_sem] theorem rs_38 : Try.f38.results.toList = [.tmp 4] := rfl
@[go_sem] theorem rs_39 : Try.f39.results.toList = [.tmp 2] := rfl
@[go_sem] theorem rs_40 : Try.f40.results.toList = [.tmp 2] := rfl
@[go_sem] theorem rs_41 : Try.f41.results.toList = [.tmp 4] := rfl
@[go_sem] theorem rs_42 : Try.f42.results.toList = [.tmp 2] := rfl
@[go_sem] theorem rs_43 : Try.f43.results.toList = [.tmp 2] := rfl
@[go_sem] theorem rs_44 : Try.f44.results.toList = [.tmp 4] := rfl
@[go_sem] theorem rs_45 : Try.f45.results.toList = [.tmp 4, .tmp 5] := rfl
@[go_sem] theorem rs_46 : Try.f46.results.toList = [.cell 4 28] := rfl
@[go_sem] theorem rs_47 : Try.f47.results.toList = [.cell 2 28] := rfl
@[go_sem] theorem rs_48 : Try.f48.results.toList = [.tmp 6] := rfl
@[go_sem] theorem rs_49 : Try.f49.results.toList = [.tmp 4] := rfl
@[go_sem] theorem rs_50 : Try.f50.results.toList = [.tmp 2] := rfl
@[go_sem] theorem rs_51 : Try.f51.results.toList = [.tmp 3] := rfl
@[go_sem] theorem rs_52 : Try.f52.results.toList = [.tmp 2] := rfl
@[go_sem] theorem rs_53 : Try.f53.results.toList = [.tmp 3] := rfl
@[go_sem] theorem rs_54 : Try.f54.results.toList = [.tmp 4] := rfl
@[go_sem] theorem rs_55 : Try.f55.results.toList = [.tmp 3] := rfl
@[go_sem] theorem rs_56 : Try.f56.results.toList = [.tmp 4] := rfl
@[go_sem] theorem rs_57 : Try.f57.results.toList = [.tmp 6] := rfl
@[go_sem] theorem rs_58 : Try.f58.results.toList = [.tmp 4] := rfl
@[go_sem] theorem rs_59 : Try.f59.results.toList = [.tmp 4] := rfl
@[go_sem] theorem rs_60 : Try.f60.results.toList = [.tmp 2] := rfl
@[go_sem] theorem rs_61 : Try.f61.results.toList = [.cell 4 28] := rfl
@[go_sem] theorem rs_62 : Try.f62.results.toList = [.tmp 4] := rfl
@[go_sem] theorem rs_63 : Try.f63.results.toList = [.tmp 6] := rfl
@[go_sem] theorem rs_64 : Try.f64.results.toList = [.tmp 4] := rfl
@[go_sem] theorem rs_65 : Try.f65.results.toList = [.tmp 4] := rfl
@[go_sem] theorem rs_66 : Try.f66.results.toList = [.tmp 3] := rfl
@[go_sem] theorem rs_67 : Try.f67.results.toList = [.tmp 4] := rfl
@[go_sem] theorem rs_68 : Try.f68.results.toList = [.tmp 2] := rfl
@[go_sem] theorem rs_69 : Try.f69.results.toList = [.tmp 6, .tmp 7] := rfl
@[go_sem] theorem rs_70 : Try.f70.results.toList = [.tmp 6] := rfl
@[go_sem] theorem rs_71 : Try.f71.results.toList = [.tmp 2] := rfl
@[go_sem] theorem rs_72 : Try.f72.results.toList = [] := rfl
@[go_sem] theorem rs_73 : Try.f73.results.toList = [] := rfl
@[go_sem] theorem rs_74 : Try.f74.results.toList = [.tmp 4] := rfl
@[go_sem] theorem rs_75 : Try.f75.results.toList = [.tmp 2] := rfl
@[go_sem] theorem rs_76 : Try.f76.results.toList = [.tmp 4] := rfl
@[go_sem] theorem rs_77 : Try.f77.results.toList = [.tmp 3] := rfl
@[go_sem] theorem rs_78 : Try.f78.results.toList = [.tmp 2] := rfl
@[go_sem] theorem rs_79 : Try.f79.results.toList = [.tmp 2] := rfl
@[go_sem] theorem rs_80 : Try.f80.results.toList = [.tmp 4] := rfl
@[go_sem] theorem rs_81 : Try.f81.results.toList = [.tmp 2] := rfl
@[go_sem] theorem rs_82 : Try.f82.results.toList = [] := rfl
@[go_sem] theorem rs_83 : Try.f83.results.toList = [] := rfl
@[go_sem] theorem rs_84 : Try.f84.results.toList = [] := rfl
@[go_sem] theorem rs_85 : Try.f85.results.toList = [] := rfl
@[go_sem] theorem rs_86 : Try.f86.results.toList = [] := rfl
@[go_sem] theorem rs_87 : Try.f87.results.toList = [] := rfl
@[go_sem] theorem rs_103 : Try.f103.results.toList = [] := rfl

end Go.Proofs.Ytmpncdlhmknkoaa
