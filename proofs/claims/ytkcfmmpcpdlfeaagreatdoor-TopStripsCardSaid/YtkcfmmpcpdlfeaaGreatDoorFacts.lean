/- The types and functions of this seat's program, as PA reads them. Printed by wip/facts.py. -/
import Derived.Test.YtkcfmmpcpdlfeaaGreatDoorPaB
import Derived.Test.YtkcfmmpcpdlfeaaGreatDoorProg
import Derived.KernelRfl
namespace Go.Proofs.YtkcfmmpcpdlfeaaGreatDoor
open Go.PA

@[go_sem] theorem sz_2 : szOf Tryz.prog 2 = 1 := by kernel_rfl
@[go_sem] theorem kn_2 : knownT Tryz.prog 2 = true := by kernel_rfl
@[go_sem] theorem ag_2 : aggOf Tryz.prog 2 = false := by kernel_rfl
@[go_sem] theorem us_2 : (Tryz.prog.underlying 2).isSome = true := by kernel_rfl
@[go_sem] theorem un_2 : Tryz.prog.underlying 2 = some (.int .i64) := by kernel_rfl
@[go_sem] theorem ze_2 : zeros Tryz.prog 2 = some [.sc (.int .i64 0)] := by kernel_rfl
@[go_sem] theorem az_2 : azero1 Tryz.prog 2 = some (.sc (.int .i64 0)) := by kernel_rfl
@[go_sem] theorem by_2 : bytesOf Tryz.prog 2 = 8 := by kernel_rfl
@[go_sem] theorem sz_3 : szOf Tryz.prog 3 = 1 := by kernel_rfl
@[go_sem] theorem kn_3 : knownT Tryz.prog 3 = true := by kernel_rfl
@[go_sem] theorem ag_3 : aggOf Tryz.prog 3 = false := by kernel_rfl
@[go_sem] theorem us_3 : (Tryz.prog.underlying 3).isSome = true := by kernel_rfl
@[go_sem] theorem un_3 : Tryz.prog.underlying 3 = some (.int .i64) := by kernel_rfl
@[go_sem] theorem ze_3 : zeros Tryz.prog 3 = some [.sc (.int .i64 0)] := by kernel_rfl
@[go_sem] theorem az_3 : azero1 Tryz.prog 3 = some (.sc (.int .i64 0)) := by kernel_rfl
@[go_sem] theorem by_3 : bytesOf Tryz.prog 3 = 8 := by kernel_rfl
@[go_sem] theorem sz_4 : szOf Tryz.prog 4 = 1 := by kernel_rfl
@[go_sem] theorem kn_4 : knownT Tryz.prog 4 = true := by kernel_rfl
@[go_sem] theorem ag_4 : aggOf Tryz.prog 4 = false := by kernel_rfl
@[go_sem] theorem us_4 : (Tryz.prog.underlying 4).isSome = true := by kernel_rfl
@[go_sem] theorem un_4 : Tryz.prog.underlying 4 = some .bool := by kernel_rfl
@[go_sem] theorem ze_4 : zeros Tryz.prog 4 = some [.sc (.bool false)] := by kernel_rfl
@[go_sem] theorem az_4 : azero1 Tryz.prog 4 = some (.sc (.bool false)) := by kernel_rfl
@[go_sem] theorem by_4 : bytesOf Tryz.prog 4 = 1 := by kernel_rfl
@[go_sem] theorem sz_5 : szOf Tryz.prog 5 = 1 := by kernel_rfl
@[go_sem] theorem kn_5 : knownT Tryz.prog 5 = true := by kernel_rfl
@[go_sem] theorem ag_5 : aggOf Tryz.prog 5 = false := by kernel_rfl
@[go_sem] theorem us_5 : (Tryz.prog.underlying 5).isSome = true := by kernel_rfl
@[go_sem] theorem un_5 : Tryz.prog.underlying 5 = some (.int .u8) := by kernel_rfl
@[go_sem] theorem ze_5 : zeros Tryz.prog 5 = some [.sc (.int .u8 0)] := by kernel_rfl
@[go_sem] theorem az_5 : azero1 Tryz.prog 5 = some (.sc (.int .u8 0)) := by kernel_rfl
@[go_sem] theorem by_5 : bytesOf Tryz.prog 5 = 1 := by kernel_rfl
@[go_sem] theorem sz_9 : szOf Tryz.prog 9 = 1 := by kernel_rfl
@[go_sem] theorem kn_9 : knownT Tryz.prog 9 = true := by kernel_rfl
@[go_sem] theorem ag_9 : aggOf Tryz.prog 9 = false := by kernel_rfl
@[go_sem] theorem us_9 : (Tryz.prog.underlying 9).isSome = true := by kernel_rfl
@[go_sem] theorem un_9 : Tryz.prog.underlying 9 = some .string := by kernel_rfl
@[go_sem] theorem ze_9 : zeros Tryz.prog 9 = some [.sc (.string ByteArray.empty)] := by kernel_rfl
@[go_sem] theorem az_9 : azero1 Tryz.prog 9 = some (.sc (.string ByteArray.empty)) := by kernel_rfl
@[go_sem] theorem by_9 : bytesOf Tryz.prog 9 = 16 := by kernel_rfl
@[go_sem] theorem sz_12 : szOf Tryz.prog 12 = 1 := by kernel_rfl
@[go_sem] theorem kn_12 : knownT Tryz.prog 12 = true := by kernel_rfl
@[go_sem] theorem ag_12 : aggOf Tryz.prog 12 = false := by kernel_rfl
@[go_sem] theorem us_12 : (Tryz.prog.underlying 12).isSome = true := by kernel_rfl
@[go_sem] theorem un_12 : Tryz.prog.underlying 12 = some (.int .u64) := by kernel_rfl
@[go_sem] theorem ze_12 : zeros Tryz.prog 12 = some [.sc (.int .u64 0)] := by kernel_rfl
@[go_sem] theorem az_12 : azero1 Tryz.prog 12 = some (.sc (.int .u64 0)) := by kernel_rfl
@[go_sem] theorem by_12 : bytesOf Tryz.prog 12 = 8 := by kernel_rfl
@[go_sem] theorem sz_17 : szOf Tryz.prog 17 = 1 := by kernel_rfl
@[go_sem] theorem kn_17 : knownT Tryz.prog 17 = true := by kernel_rfl
@[go_sem] theorem ag_17 : aggOf Tryz.prog 17 = false := by kernel_rfl
@[go_sem] theorem us_17 : (Tryz.prog.underlying 17).isSome = true := by kernel_rfl
@[go_sem] theorem ze_17 : zeros Tryz.prog 17 = some [.sc (.pointer none)] := by kernel_rfl
@[go_sem] theorem by_17 : bytesOf Tryz.prog 17 = 8 := by kernel_rfl
@[go_sem] theorem sz_21 : szOf Tryz.prog 21 = 1 := by kernel_rfl
@[go_sem] theorem kn_21 : knownT Tryz.prog 21 = true := by kernel_rfl
@[go_sem] theorem ag_21 : aggOf Tryz.prog 21 = false := by kernel_rfl
@[go_sem] theorem us_21 : (Tryz.prog.underlying 21).isSome = true := by kernel_rfl
@[go_sem] theorem un_21 : Tryz.prog.underlying 21 = some (.int .i32) := by kernel_rfl
@[go_sem] theorem ze_21 : zeros Tryz.prog 21 = some [.sc (.int .i32 0)] := by kernel_rfl
@[go_sem] theorem az_21 : azero1 Tryz.prog 21 = some (.sc (.int .i32 0)) := by kernel_rfl
@[go_sem] theorem by_21 : bytesOf Tryz.prog 21 = 4 := by kernel_rfl
@[go_sem] theorem sz_22 : szOf Tryz.prog 22 = 1 := by kernel_rfl
@[go_sem] theorem kn_22 : knownT Tryz.prog 22 = true := by kernel_rfl
@[go_sem] theorem ag_22 : aggOf Tryz.prog 22 = false := by kernel_rfl
@[go_sem] theorem us_22 : (Tryz.prog.underlying 22).isSome = true := by kernel_rfl
@[go_sem] theorem el_22 : Go.PA.elemOf Tryz.prog 22 = some 3 := by kernel_rfl
@[go_sem] theorem un_22 : Tryz.prog.underlying 22 = some (.slice 3) := by kernel_rfl
@[go_sem] theorem ze_22 : zeros Tryz.prog 22 = some [.nil] := by kernel_rfl
@[go_sem] theorem az_22 : azero1 Tryz.prog 22 = some (.nil) := by kernel_rfl
@[go_sem] theorem by_22 : bytesOf Tryz.prog 22 = 24 := by kernel_rfl
@[go_sem] theorem sz_23 : szOf Tryz.prog 23 = 1 := by kernel_rfl
@[go_sem] theorem kn_23 : knownT Tryz.prog 23 = true := by kernel_rfl
@[go_sem] theorem ag_23 : aggOf Tryz.prog 23 = false := by kernel_rfl
@[go_sem] theorem us_23 : (Tryz.prog.underlying 23).isSome = true := by kernel_rfl
@[go_sem] theorem ze_23 : zeros Tryz.prog 23 = some [.sc (.pointer none)] := by kernel_rfl
@[go_sem] theorem by_23 : bytesOf Tryz.prog 23 = 8 := by kernel_rfl
@[go_sem] theorem sz_27 : szOf Tryz.prog 27 = 7 := by kernel_rfl
@[go_sem] theorem kn_27 : knownT Tryz.prog 27 = true := by kernel_rfl
@[go_sem] theorem ag_27 : aggOf Tryz.prog 27 = true := by kernel_rfl
@[go_sem] theorem us_27 : (Tryz.prog.underlying 27).isSome = true := by kernel_rfl
@[go_sem] theorem fd_27_0 : fieldOf Tryz.prog 27 0 = some (0, 3) := by kernel_rfl
@[go_sem] theorem fd_27_1 : fieldOf Tryz.prog 27 1 = some (1, 3) := by kernel_rfl
@[go_sem] theorem fd_27_2 : fieldOf Tryz.prog 27 2 = some (2, 3) := by kernel_rfl
@[go_sem] theorem fd_27_3 : fieldOf Tryz.prog 27 3 = some (3, 3) := by kernel_rfl
@[go_sem] theorem fd_27_4 : fieldOf Tryz.prog 27 4 = some (4, 3) := by kernel_rfl
@[go_sem] theorem fd_27_5 : fieldOf Tryz.prog 27 5 = some (5, 3) := by kernel_rfl
@[go_sem] theorem fd_27_6 : fieldOf Tryz.prog 27 6 = some (6, 4) := by kernel_rfl
@[go_sem] theorem el_27 : Go.PA.elemOf Tryz.prog 27 = none := by kernel_rfl
@[go_sem] theorem ar_27 : arrOf Tryz.prog 27 = none := by kernel_rfl
@[go_sem] theorem fk_27 : fieldsKnown Tryz.prog 27 = true := by kernel_rfl
@[go_sem] theorem sg_27 : sigOf Tryz.prog 27 = some [.int, .int, .int, .int, .int, .int, .bool] := by kernel_rfl
@[go_sem] theorem ze_27 : zeros Tryz.prog 27 = some [.sc (.int .i64 0), .sc (.int .i64 0), .sc (.int .i64 0), .sc (.int .i64 0), .sc (.int .i64 0), .sc (.int .i64 0), .sc (.bool false)] := by kernel_rfl
@[go_sem] theorem by_27 : bytesOf Tryz.prog 27 = 56 := by kernel_rfl
@[go_sem] theorem sz_28 : szOf Tryz.prog 28 = 7 := by kernel_rfl
@[go_sem] theorem kn_28 : knownT Tryz.prog 28 = true := by kernel_rfl
@[go_sem] theorem ag_28 : aggOf Tryz.prog 28 = true := by kernel_rfl
@[go_sem] theorem us_28 : (Tryz.prog.underlying 28).isSome = true := by kernel_rfl
@[go_sem] theorem fd_28_0 : fieldOf Tryz.prog 28 0 = some (0, 3) := by kernel_rfl
@[go_sem] theorem fd_28_1 : fieldOf Tryz.prog 28 1 = some (1, 3) := by kernel_rfl
@[go_sem] theorem fd_28_2 : fieldOf Tryz.prog 28 2 = some (2, 3) := by kernel_rfl
@[go_sem] theorem fd_28_3 : fieldOf Tryz.prog 28 3 = some (3, 3) := by kernel_rfl
@[go_sem] theorem fd_28_4 : fieldOf Tryz.prog 28 4 = some (4, 3) := by kernel_rfl
@[go_sem] theorem fd_28_5 : fieldOf Tryz.prog 28 5 = some (5, 3) := by kernel_rfl
@[go_sem] theorem fd_28_6 : fieldOf Tryz.prog 28 6 = some (6, 4) := by kernel_rfl
@[go_sem] theorem el_28 : Go.PA.elemOf Tryz.prog 28 = none := by kernel_rfl
@[go_sem] theorem ar_28 : arrOf Tryz.prog 28 = none := by kernel_rfl
@[go_sem] theorem fk_28 : fieldsKnown Tryz.prog 28 = true := by kernel_rfl
@[go_sem] theorem sg_28 : sigOf Tryz.prog 28 = some [.int, .int, .int, .int, .int, .int, .bool] := by kernel_rfl
@[go_sem] theorem ze_28 : zeros Tryz.prog 28 = some [.sc (.int .i64 0), .sc (.int .i64 0), .sc (.int .i64 0), .sc (.int .i64 0), .sc (.int .i64 0), .sc (.int .i64 0), .sc (.bool false)] := by kernel_rfl
@[go_sem] theorem by_28 : bytesOf Tryz.prog 28 = 56 := by kernel_rfl
@[go_sem] theorem sz_29 : szOf Tryz.prog 29 = 1 := by kernel_rfl
@[go_sem] theorem kn_29 : knownT Tryz.prog 29 = true := by kernel_rfl
@[go_sem] theorem ag_29 : aggOf Tryz.prog 29 = false := by kernel_rfl
@[go_sem] theorem us_29 : (Tryz.prog.underlying 29).isSome = true := by kernel_rfl
@[go_sem] theorem el_29 : Go.PA.elemOf Tryz.prog 29 = some 28 := by kernel_rfl
@[go_sem] theorem un_29 : Tryz.prog.underlying 29 = some (.slice 28) := by kernel_rfl
@[go_sem] theorem ze_29 : zeros Tryz.prog 29 = some [.nil] := by kernel_rfl
@[go_sem] theorem az_29 : azero1 Tryz.prog 29 = some (.nil) := by kernel_rfl
@[go_sem] theorem by_29 : bytesOf Tryz.prog 29 = 24 := by kernel_rfl
@[go_sem] theorem sz_30 : szOf Tryz.prog 30 = 1 := by kernel_rfl
@[go_sem] theorem kn_30 : knownT Tryz.prog 30 = true := by kernel_rfl
@[go_sem] theorem ag_30 : aggOf Tryz.prog 30 = false := by kernel_rfl
@[go_sem] theorem us_30 : (Tryz.prog.underlying 30).isSome = true := by kernel_rfl
@[go_sem] theorem el_30 : Go.PA.elemOf Tryz.prog 30 = some 70 := by kernel_rfl
@[go_sem] theorem un_30 : Tryz.prog.underlying 30 = some (.slice 70) := by kernel_rfl
@[go_sem] theorem ze_30 : zeros Tryz.prog 30 = some [.nil] := by kernel_rfl
@[go_sem] theorem az_30 : azero1 Tryz.prog 30 = some (.nil) := by kernel_rfl
@[go_sem] theorem by_30 : bytesOf Tryz.prog 30 = 24 := by kernel_rfl
@[go_sem] theorem sz_31 : szOf Tryz.prog 31 = 1 := by kernel_rfl
@[go_sem] theorem kn_31 : knownT Tryz.prog 31 = true := by kernel_rfl
@[go_sem] theorem ag_31 : aggOf Tryz.prog 31 = false := by kernel_rfl
@[go_sem] theorem us_31 : (Tryz.prog.underlying 31).isSome = true := by kernel_rfl
@[go_sem] theorem el_31 : Go.PA.elemOf Tryz.prog 31 = some 67 := by kernel_rfl
@[go_sem] theorem un_31 : Tryz.prog.underlying 31 = some (.slice 67) := by kernel_rfl
@[go_sem] theorem ze_31 : zeros Tryz.prog 31 = some [.nil] := by kernel_rfl
@[go_sem] theorem az_31 : azero1 Tryz.prog 31 = some (.nil) := by kernel_rfl
@[go_sem] theorem by_31 : bytesOf Tryz.prog 31 = 24 := by kernel_rfl
@[go_sem] theorem sz_32 : szOf Tryz.prog 32 = 3 := by kernel_rfl
@[go_sem] theorem kn_32 : knownT Tryz.prog 32 = true := by kernel_rfl
@[go_sem] theorem ag_32 : aggOf Tryz.prog 32 = true := by kernel_rfl
@[go_sem] theorem us_32 : (Tryz.prog.underlying 32).isSome = true := by kernel_rfl
@[go_sem] theorem fd_32_0 : fieldOf Tryz.prog 32 0 = some (0, 29) := by kernel_rfl
@[go_sem] theorem fd_32_1 : fieldOf Tryz.prog 32 1 = some (1, 30) := by kernel_rfl
@[go_sem] theorem fd_32_2 : fieldOf Tryz.prog 32 2 = some (2, 31) := by kernel_rfl
@[go_sem] theorem el_32 : Go.PA.elemOf Tryz.prog 32 = none := by kernel_rfl
@[go_sem] theorem ar_32 : arrOf Tryz.prog 32 = none := by kernel_rfl
@[go_sem] theorem fk_32 : fieldsKnown Tryz.prog 32 = true := by kernel_rfl
@[go_sem] theorem ze_32 : zeros Tryz.prog 32 = some [.nil, .nil, .nil] := by kernel_rfl
@[go_sem] theorem by_32 : bytesOf Tryz.prog 32 = 72 := by kernel_rfl
@[go_sem] theorem sz_33 : szOf Tryz.prog 33 = 3 := by kernel_rfl
@[go_sem] theorem kn_33 : knownT Tryz.prog 33 = true := by kernel_rfl
@[go_sem] theorem ag_33 : aggOf Tryz.prog 33 = true := by kernel_rfl
@[go_sem] theorem us_33 : (Tryz.prog.underlying 33).isSome = true := by kernel_rfl
@[go_sem] theorem fd_33_0 : fieldOf Tryz.prog 33 0 = some (0, 29) := by kernel_rfl
@[go_sem] theorem fd_33_1 : fieldOf Tryz.prog 33 1 = some (1, 30) := by kernel_rfl
@[go_sem] theorem fd_33_2 : fieldOf Tryz.prog 33 2 = some (2, 31) := by kernel_rfl
@[go_sem] theorem el_33 : Go.PA.elemOf Tryz.prog 33 = none := by kernel_rfl
@[go_sem] theorem ar_33 : arrOf Tryz.prog 33 = none := by kernel_rfl
@[go_sem] theorem fk_33 : fieldsKnown Tryz.prog 33 = true := by kernel_rfl
@[go_sem] theorem ze_33 : zeros Tryz.prog 33 = some [.nil, .nil, .nil] := by kernel_rfl
@[go_sem] theorem by_33 : bytesOf Tryz.prog 33 = 72 := by kernel_rfl
@[go_sem] theorem sz_34 : szOf Tryz.prog 34 = 1 := by kernel_rfl
@[go_sem] theorem kn_34 : knownT Tryz.prog 34 = true := by kernel_rfl
@[go_sem] theorem ag_34 : aggOf Tryz.prog 34 = false := by kernel_rfl
@[go_sem] theorem us_34 : (Tryz.prog.underlying 34).isSome = true := by kernel_rfl
@[go_sem] theorem un_34 : Tryz.prog.underlying 34 = some (.int .i64) := by kernel_rfl
@[go_sem] theorem ze_34 : zeros Tryz.prog 34 = some [.sc (.int .i64 0)] := by kernel_rfl
@[go_sem] theorem az_34 : azero1 Tryz.prog 34 = some (.sc (.int .i64 0)) := by kernel_rfl
@[go_sem] theorem by_34 : bytesOf Tryz.prog 34 = 8 := by kernel_rfl
@[go_sem] theorem sz_38 : szOf Tryz.prog 38 = 1 := by kernel_rfl
@[go_sem] theorem kn_38 : knownT Tryz.prog 38 = true := by kernel_rfl
@[go_sem] theorem ag_38 : aggOf Tryz.prog 38 = false := by kernel_rfl
@[go_sem] theorem us_38 : (Tryz.prog.underlying 38).isSome = true := by kernel_rfl
@[go_sem] theorem el_38 : Go.PA.elemOf Tryz.prog 38 = some 79 := by kernel_rfl
@[go_sem] theorem un_38 : Tryz.prog.underlying 38 = some (.slice 79) := by kernel_rfl
@[go_sem] theorem ze_38 : zeros Tryz.prog 38 = some [.nil] := by kernel_rfl
@[go_sem] theorem az_38 : azero1 Tryz.prog 38 = some (.nil) := by kernel_rfl
@[go_sem] theorem by_38 : bytesOf Tryz.prog 38 = 24 := by kernel_rfl
@[go_sem] theorem sz_39 : szOf Tryz.prog 39 = 4 := by kernel_rfl
@[go_sem] theorem kn_39 : knownT Tryz.prog 39 = true := by kernel_rfl
@[go_sem] theorem ag_39 : aggOf Tryz.prog 39 = true := by kernel_rfl
@[go_sem] theorem us_39 : (Tryz.prog.underlying 39).isSome = true := by kernel_rfl
@[go_sem] theorem fd_39_0 : fieldOf Tryz.prog 39 0 = some (0, 33) := by kernel_rfl
@[go_sem] theorem fd_39_1 : fieldOf Tryz.prog 39 1 = some (3, 38) := by kernel_rfl
@[go_sem] theorem el_39 : Go.PA.elemOf Tryz.prog 39 = none := by kernel_rfl
@[go_sem] theorem ar_39 : arrOf Tryz.prog 39 = none := by kernel_rfl
@[go_sem] theorem fk_39 : fieldsKnown Tryz.prog 39 = true := by kernel_rfl
@[go_sem] theorem ze_39 : zeros Tryz.prog 39 = some [.nil, .nil, .nil, .nil] := by kernel_rfl
@[go_sem] theorem by_39 : bytesOf Tryz.prog 39 = 96 := by kernel_rfl
@[go_sem] theorem sz_40 : szOf Tryz.prog 40 = 4 := by kernel_rfl
@[go_sem] theorem kn_40 : knownT Tryz.prog 40 = true := by kernel_rfl
@[go_sem] theorem ag_40 : aggOf Tryz.prog 40 = true := by kernel_rfl
@[go_sem] theorem us_40 : (Tryz.prog.underlying 40).isSome = true := by kernel_rfl
@[go_sem] theorem fd_40_0 : fieldOf Tryz.prog 40 0 = some (0, 33) := by kernel_rfl
@[go_sem] theorem fd_40_1 : fieldOf Tryz.prog 40 1 = some (3, 38) := by kernel_rfl
@[go_sem] theorem el_40 : Go.PA.elemOf Tryz.prog 40 = none := by kernel_rfl
@[go_sem] theorem ar_40 : arrOf Tryz.prog 40 = none := by kernel_rfl
@[go_sem] theorem fk_40 : fieldsKnown Tryz.prog 40 = true := by kernel_rfl
@[go_sem] theorem ze_40 : zeros Tryz.prog 40 = some [.nil, .nil, .nil, .nil] := by kernel_rfl
@[go_sem] theorem by_40 : bytesOf Tryz.prog 40 = 96 := by kernel_rfl
@[go_sem] theorem sz_46 : szOf Tryz.prog 46 = 1 := by kernel_rfl
@[go_sem] theorem kn_46 : knownT Tryz.prog 46 = true := by kernel_rfl
@[go_sem] theorem ag_46 : aggOf Tryz.prog 46 = false := by kernel_rfl
@[go_sem] theorem us_46 : (Tryz.prog.underlying 46).isSome = true := by kernel_rfl
@[go_sem] theorem el_46 : Go.PA.elemOf Tryz.prog 46 = some 50 := by kernel_rfl
@[go_sem] theorem un_46 : Tryz.prog.underlying 46 = some (.slice 50) := by kernel_rfl
@[go_sem] theorem ze_46 : zeros Tryz.prog 46 = some [.nil] := by kernel_rfl
@[go_sem] theorem az_46 : azero1 Tryz.prog 46 = some (.nil) := by kernel_rfl
@[go_sem] theorem by_46 : bytesOf Tryz.prog 46 = 24 := by kernel_rfl
@[go_sem] theorem sz_49 : szOf Tryz.prog 49 = 5 := by kernel_rfl
@[go_sem] theorem kn_49 : knownT Tryz.prog 49 = true := by kernel_rfl
@[go_sem] theorem ag_49 : aggOf Tryz.prog 49 = true := by kernel_rfl
@[go_sem] theorem us_49 : (Tryz.prog.underlying 49).isSome = true := by kernel_rfl
@[go_sem] theorem fd_49_0 : fieldOf Tryz.prog 49 0 = some (0, 3) := by kernel_rfl
@[go_sem] theorem fd_49_1 : fieldOf Tryz.prog 49 1 = some (1, 3) := by kernel_rfl
@[go_sem] theorem fd_49_2 : fieldOf Tryz.prog 49 2 = some (2, 3) := by kernel_rfl
@[go_sem] theorem fd_49_3 : fieldOf Tryz.prog 49 3 = some (3, 3) := by kernel_rfl
@[go_sem] theorem fd_49_4 : fieldOf Tryz.prog 49 4 = some (4, 3) := by kernel_rfl
@[go_sem] theorem el_49 : Go.PA.elemOf Tryz.prog 49 = none := by kernel_rfl
@[go_sem] theorem ar_49 : arrOf Tryz.prog 49 = none := by kernel_rfl
@[go_sem] theorem fk_49 : fieldsKnown Tryz.prog 49 = true := by kernel_rfl
@[go_sem] theorem sg_49 : sigOf Tryz.prog 49 = some [.int, .int, .int, .int, .int] := by kernel_rfl
@[go_sem] theorem ze_49 : zeros Tryz.prog 49 = some [.sc (.int .i64 0), .sc (.int .i64 0), .sc (.int .i64 0), .sc (.int .i64 0), .sc (.int .i64 0)] := by kernel_rfl
@[go_sem] theorem by_49 : bytesOf Tryz.prog 49 = 40 := by kernel_rfl
@[go_sem] theorem sz_50 : szOf Tryz.prog 50 = 5 := by kernel_rfl
@[go_sem] theorem kn_50 : knownT Tryz.prog 50 = true := by kernel_rfl
@[go_sem] theorem ag_50 : aggOf Tryz.prog 50 = true := by kernel_rfl
@[go_sem] theorem us_50 : (Tryz.prog.underlying 50).isSome = true := by kernel_rfl
@[go_sem] theorem fd_50_0 : fieldOf Tryz.prog 50 0 = some (0, 3) := by kernel_rfl
@[go_sem] theorem fd_50_1 : fieldOf Tryz.prog 50 1 = some (1, 3) := by kernel_rfl
@[go_sem] theorem fd_50_2 : fieldOf Tryz.prog 50 2 = some (2, 3) := by kernel_rfl
@[go_sem] theorem fd_50_3 : fieldOf Tryz.prog 50 3 = some (3, 3) := by kernel_rfl
@[go_sem] theorem fd_50_4 : fieldOf Tryz.prog 50 4 = some (4, 3) := by kernel_rfl
@[go_sem] theorem el_50 : Go.PA.elemOf Tryz.prog 50 = none := by kernel_rfl
@[go_sem] theorem ar_50 : arrOf Tryz.prog 50 = none := by kernel_rfl
@[go_sem] theorem fk_50 : fieldsKnown Tryz.prog 50 = true := by kernel_rfl
@[go_sem] theorem sg_50 : sigOf Tryz.prog 50 = some [.int, .int, .int, .int, .int] := by kernel_rfl
@[go_sem] theorem ze_50 : zeros Tryz.prog 50 = some [.sc (.int .i64 0), .sc (.int .i64 0), .sc (.int .i64 0), .sc (.int .i64 0), .sc (.int .i64 0)] := by kernel_rfl
@[go_sem] theorem by_50 : bytesOf Tryz.prog 50 = 40 := by kernel_rfl
@[go_sem] theorem sz_56 : szOf Tryz.prog 56 = 2 := by kernel_rfl
@[go_sem] theorem kn_56 : knownT Tryz.prog 56 = true := by kernel_rfl
@[go_sem] theorem ag_56 : aggOf Tryz.prog 56 = true := by kernel_rfl
@[go_sem] theorem us_56 : (Tryz.prog.underlying 56).isSome = true := by kernel_rfl
@[go_sem] theorem fd_56_0 : fieldOf Tryz.prog 56 0 = some (0, 22) := by kernel_rfl
@[go_sem] theorem fd_56_1 : fieldOf Tryz.prog 56 1 = some (1, 3) := by kernel_rfl
@[go_sem] theorem el_56 : Go.PA.elemOf Tryz.prog 56 = none := by kernel_rfl
@[go_sem] theorem ar_56 : arrOf Tryz.prog 56 = none := by kernel_rfl
@[go_sem] theorem fk_56 : fieldsKnown Tryz.prog 56 = true := by kernel_rfl
@[go_sem] theorem ze_56 : zeros Tryz.prog 56 = some [.nil, .sc (.int .i64 0)] := by kernel_rfl
@[go_sem] theorem by_56 : bytesOf Tryz.prog 56 = 32 := by kernel_rfl
@[go_sem] theorem sz_57 : szOf Tryz.prog 57 = 2 := by kernel_rfl
@[go_sem] theorem kn_57 : knownT Tryz.prog 57 = true := by kernel_rfl
@[go_sem] theorem ag_57 : aggOf Tryz.prog 57 = true := by kernel_rfl
@[go_sem] theorem us_57 : (Tryz.prog.underlying 57).isSome = true := by kernel_rfl
@[go_sem] theorem fd_57_0 : fieldOf Tryz.prog 57 0 = some (0, 22) := by kernel_rfl
@[go_sem] theorem fd_57_1 : fieldOf Tryz.prog 57 1 = some (1, 3) := by kernel_rfl
@[go_sem] theorem el_57 : Go.PA.elemOf Tryz.prog 57 = none := by kernel_rfl
@[go_sem] theorem ar_57 : arrOf Tryz.prog 57 = none := by kernel_rfl
@[go_sem] theorem fk_57 : fieldsKnown Tryz.prog 57 = true := by kernel_rfl
@[go_sem] theorem ze_57 : zeros Tryz.prog 57 = some [.nil, .sc (.int .i64 0)] := by kernel_rfl
@[go_sem] theorem by_57 : bytesOf Tryz.prog 57 = 32 := by kernel_rfl
@[go_sem] theorem sz_66 : szOf Tryz.prog 66 = 7 := by kernel_rfl
@[go_sem] theorem kn_66 : knownT Tryz.prog 66 = true := by kernel_rfl
@[go_sem] theorem ag_66 : aggOf Tryz.prog 66 = true := by kernel_rfl
@[go_sem] theorem us_66 : (Tryz.prog.underlying 66).isSome = true := by kernel_rfl
@[go_sem] theorem fd_66_0 : fieldOf Tryz.prog 66 0 = some (0, 3) := by kernel_rfl
@[go_sem] theorem fd_66_1 : fieldOf Tryz.prog 66 1 = some (1, 3) := by kernel_rfl
@[go_sem] theorem fd_66_2 : fieldOf Tryz.prog 66 2 = some (2, 3) := by kernel_rfl
@[go_sem] theorem fd_66_3 : fieldOf Tryz.prog 66 3 = some (3, 3) := by kernel_rfl
@[go_sem] theorem fd_66_4 : fieldOf Tryz.prog 66 4 = some (4, 3) := by kernel_rfl
@[go_sem] theorem fd_66_5 : fieldOf Tryz.prog 66 5 = some (5, 3) := by kernel_rfl
@[go_sem] theorem fd_66_6 : fieldOf Tryz.prog 66 6 = some (6, 3) := by kernel_rfl
@[go_sem] theorem el_66 : Go.PA.elemOf Tryz.prog 66 = none := by kernel_rfl
@[go_sem] theorem ar_66 : arrOf Tryz.prog 66 = none := by kernel_rfl
@[go_sem] theorem fk_66 : fieldsKnown Tryz.prog 66 = true := by kernel_rfl
@[go_sem] theorem sg_66 : sigOf Tryz.prog 66 = some [.int, .int, .int, .int, .int, .int, .int] := by kernel_rfl
@[go_sem] theorem ze_66 : zeros Tryz.prog 66 = some [.sc (.int .i64 0), .sc (.int .i64 0), .sc (.int .i64 0), .sc (.int .i64 0), .sc (.int .i64 0), .sc (.int .i64 0), .sc (.int .i64 0)] := by kernel_rfl
@[go_sem] theorem by_66 : bytesOf Tryz.prog 66 = 56 := by kernel_rfl
@[go_sem] theorem sz_67 : szOf Tryz.prog 67 = 7 := by kernel_rfl
@[go_sem] theorem kn_67 : knownT Tryz.prog 67 = true := by kernel_rfl
@[go_sem] theorem ag_67 : aggOf Tryz.prog 67 = true := by kernel_rfl
@[go_sem] theorem us_67 : (Tryz.prog.underlying 67).isSome = true := by kernel_rfl
@[go_sem] theorem fd_67_0 : fieldOf Tryz.prog 67 0 = some (0, 3) := by kernel_rfl
@[go_sem] theorem fd_67_1 : fieldOf Tryz.prog 67 1 = some (1, 3) := by kernel_rfl
@[go_sem] theorem fd_67_2 : fieldOf Tryz.prog 67 2 = some (2, 3) := by kernel_rfl
@[go_sem] theorem fd_67_3 : fieldOf Tryz.prog 67 3 = some (3, 3) := by kernel_rfl
@[go_sem] theorem fd_67_4 : fieldOf Tryz.prog 67 4 = some (4, 3) := by kernel_rfl
@[go_sem] theorem fd_67_5 : fieldOf Tryz.prog 67 5 = some (5, 3) := by kernel_rfl
@[go_sem] theorem fd_67_6 : fieldOf Tryz.prog 67 6 = some (6, 3) := by kernel_rfl
@[go_sem] theorem el_67 : Go.PA.elemOf Tryz.prog 67 = none := by kernel_rfl
@[go_sem] theorem ar_67 : arrOf Tryz.prog 67 = none := by kernel_rfl
@[go_sem] theorem fk_67 : fieldsKnown Tryz.prog 67 = true := by kernel_rfl
@[go_sem] theorem sg_67 : sigOf Tryz.prog 67 = some [.int, .int, .int, .int, .int, .int, .int] := by kernel_rfl
@[go_sem] theorem ze_67 : zeros Tryz.prog 67 = some [.sc (.int .i64 0), .sc (.int .i64 0), .sc (.int .i64 0), .sc (.int .i64 0), .sc (.int .i64 0), .sc (.int .i64 0), .sc (.int .i64 0)] := by kernel_rfl
@[go_sem] theorem by_67 : bytesOf Tryz.prog 67 = 56 := by kernel_rfl
@[go_sem] theorem sz_69 : szOf Tryz.prog 69 = 3 := by kernel_rfl
@[go_sem] theorem kn_69 : knownT Tryz.prog 69 = true := by kernel_rfl
@[go_sem] theorem ag_69 : aggOf Tryz.prog 69 = true := by kernel_rfl
@[go_sem] theorem us_69 : (Tryz.prog.underlying 69).isSome = true := by kernel_rfl
@[go_sem] theorem fd_69_0 : fieldOf Tryz.prog 69 0 = some (0, 3) := by kernel_rfl
@[go_sem] theorem fd_69_1 : fieldOf Tryz.prog 69 1 = some (1, 3) := by kernel_rfl
@[go_sem] theorem fd_69_2 : fieldOf Tryz.prog 69 2 = some (2, 3) := by kernel_rfl
@[go_sem] theorem el_69 : Go.PA.elemOf Tryz.prog 69 = none := by kernel_rfl
@[go_sem] theorem ar_69 : arrOf Tryz.prog 69 = none := by kernel_rfl
@[go_sem] theorem fk_69 : fieldsKnown Tryz.prog 69 = true := by kernel_rfl
@[go_sem] theorem sg_69 : sigOf Tryz.prog 69 = some [.int, .int, .int] := by kernel_rfl
@[go_sem] theorem ze_69 : zeros Tryz.prog 69 = some [.sc (.int .i64 0), .sc (.int .i64 0), .sc (.int .i64 0)] := by kernel_rfl
@[go_sem] theorem by_69 : bytesOf Tryz.prog 69 = 24 := by kernel_rfl
@[go_sem] theorem sz_70 : szOf Tryz.prog 70 = 3 := by kernel_rfl
@[go_sem] theorem kn_70 : knownT Tryz.prog 70 = true := by kernel_rfl
@[go_sem] theorem ag_70 : aggOf Tryz.prog 70 = true := by kernel_rfl
@[go_sem] theorem us_70 : (Tryz.prog.underlying 70).isSome = true := by kernel_rfl
@[go_sem] theorem fd_70_0 : fieldOf Tryz.prog 70 0 = some (0, 3) := by kernel_rfl
@[go_sem] theorem fd_70_1 : fieldOf Tryz.prog 70 1 = some (1, 3) := by kernel_rfl
@[go_sem] theorem fd_70_2 : fieldOf Tryz.prog 70 2 = some (2, 3) := by kernel_rfl
@[go_sem] theorem el_70 : Go.PA.elemOf Tryz.prog 70 = none := by kernel_rfl
@[go_sem] theorem ar_70 : arrOf Tryz.prog 70 = none := by kernel_rfl
@[go_sem] theorem fk_70 : fieldsKnown Tryz.prog 70 = true := by kernel_rfl
@[go_sem] theorem sg_70 : sigOf Tryz.prog 70 = some [.int, .int, .int] := by kernel_rfl
@[go_sem] theorem ze_70 : zeros Tryz.prog 70 = some [.sc (.int .i64 0), .sc (.int .i64 0), .sc (.int .i64 0)] := by kernel_rfl
@[go_sem] theorem by_70 : bytesOf Tryz.prog 70 = 24 := by kernel_rfl
@[go_sem] theorem sz_78 : szOf Tryz.prog 78 = 5 := by kernel_rfl
@[go_sem] theorem kn_78 : knownT Tryz.prog 78 = true := by kernel_rfl
@[go_sem] theorem ag_78 : aggOf Tryz.prog 78 = true := by kernel_rfl
@[go_sem] theorem us_78 : (Tryz.prog.underlying 78).isSome = true := by kernel_rfl
@[go_sem] theorem fd_78_0 : fieldOf Tryz.prog 78 0 = some (0, 3) := by kernel_rfl
@[go_sem] theorem fd_78_1 : fieldOf Tryz.prog 78 1 = some (1, 3) := by kernel_rfl
@[go_sem] theorem fd_78_2 : fieldOf Tryz.prog 78 2 = some (2, 4) := by kernel_rfl
@[go_sem] theorem fd_78_3 : fieldOf Tryz.prog 78 3 = some (3, 3) := by kernel_rfl
@[go_sem] theorem fd_78_4 : fieldOf Tryz.prog 78 4 = some (4, 3) := by kernel_rfl
@[go_sem] theorem el_78 : Go.PA.elemOf Tryz.prog 78 = none := by kernel_rfl
@[go_sem] theorem ar_78 : arrOf Tryz.prog 78 = none := by kernel_rfl
@[go_sem] theorem fk_78 : fieldsKnown Tryz.prog 78 = true := by kernel_rfl
@[go_sem] theorem sg_78 : sigOf Tryz.prog 78 = some [.int, .int, .bool, .int, .int] := by kernel_rfl
@[go_sem] theorem ze_78 : zeros Tryz.prog 78 = some [.sc (.int .i64 0), .sc (.int .i64 0), .sc (.bool false), .sc (.int .i64 0), .sc (.int .i64 0)] := by kernel_rfl
@[go_sem] theorem by_78 : bytesOf Tryz.prog 78 = 40 := by kernel_rfl
@[go_sem] theorem sz_79 : szOf Tryz.prog 79 = 5 := by kernel_rfl
@[go_sem] theorem kn_79 : knownT Tryz.prog 79 = true := by kernel_rfl
@[go_sem] theorem ag_79 : aggOf Tryz.prog 79 = true := by kernel_rfl
@[go_sem] theorem us_79 : (Tryz.prog.underlying 79).isSome = true := by kernel_rfl
@[go_sem] theorem fd_79_0 : fieldOf Tryz.prog 79 0 = some (0, 3) := by kernel_rfl
@[go_sem] theorem fd_79_1 : fieldOf Tryz.prog 79 1 = some (1, 3) := by kernel_rfl
@[go_sem] theorem fd_79_2 : fieldOf Tryz.prog 79 2 = some (2, 4) := by kernel_rfl
@[go_sem] theorem fd_79_3 : fieldOf Tryz.prog 79 3 = some (3, 3) := by kernel_rfl
@[go_sem] theorem fd_79_4 : fieldOf Tryz.prog 79 4 = some (4, 3) := by kernel_rfl
@[go_sem] theorem el_79 : Go.PA.elemOf Tryz.prog 79 = none := by kernel_rfl
@[go_sem] theorem ar_79 : arrOf Tryz.prog 79 = none := by kernel_rfl
@[go_sem] theorem fk_79 : fieldsKnown Tryz.prog 79 = true := by kernel_rfl
@[go_sem] theorem sg_79 : sigOf Tryz.prog 79 = some [.int, .int, .bool, .int, .int] := by kernel_rfl
@[go_sem] theorem ze_79 : zeros Tryz.prog 79 = some [.sc (.int .i64 0), .sc (.int .i64 0), .sc (.bool false), .sc (.int .i64 0), .sc (.int .i64 0)] := by kernel_rfl
@[go_sem] theorem by_79 : bytesOf Tryz.prog 79 = 40 := by kernel_rfl
@[go_sem] theorem sz_92 : szOf Tryz.prog 92 = 1 := by kernel_rfl
@[go_sem] theorem kn_92 : knownT Tryz.prog 92 = true := by kernel_rfl
@[go_sem] theorem ag_92 : aggOf Tryz.prog 92 = false := by kernel_rfl
@[go_sem] theorem us_92 : (Tryz.prog.underlying 92).isSome = true := by kernel_rfl
@[go_sem] theorem ze_92 : zeros Tryz.prog 92 = some [.sc (.pointer none)] := by kernel_rfl
@[go_sem] theorem by_92 : bytesOf Tryz.prog 92 = 8 := by kernel_rfl
@[go_sem] theorem sz_93 : szOf Tryz.prog 93 = 4 := by kernel_rfl
@[go_sem] theorem kn_93 : knownT Tryz.prog 93 = true := by kernel_rfl
@[go_sem] theorem ag_93 : aggOf Tryz.prog 93 = true := by kernel_rfl
@[go_sem] theorem us_93 : (Tryz.prog.underlying 93).isSome = true := by kernel_rfl
@[go_sem] theorem fd_93_0 : fieldOf Tryz.prog 93 0 = some (0, 29) := by kernel_rfl
@[go_sem] theorem fd_93_1 : fieldOf Tryz.prog 93 1 = some (1, 30) := by kernel_rfl
@[go_sem] theorem fd_93_2 : fieldOf Tryz.prog 93 2 = some (2, 3) := by kernel_rfl
@[go_sem] theorem fd_93_3 : fieldOf Tryz.prog 93 3 = some (3, 3) := by kernel_rfl
@[go_sem] theorem el_93 : Go.PA.elemOf Tryz.prog 93 = none := by kernel_rfl
@[go_sem] theorem ar_93 : arrOf Tryz.prog 93 = none := by kernel_rfl
@[go_sem] theorem fk_93 : fieldsKnown Tryz.prog 93 = true := by kernel_rfl
@[go_sem] theorem ze_93 : zeros Tryz.prog 93 = some [.nil, .nil, .sc (.int .i64 0), .sc (.int .i64 0)] := by kernel_rfl
@[go_sem] theorem by_93 : bytesOf Tryz.prog 93 = 64 := by kernel_rfl
@[go_sem] theorem sz_94 : szOf Tryz.prog 94 = 4 := by kernel_rfl
@[go_sem] theorem kn_94 : knownT Tryz.prog 94 = true := by kernel_rfl
@[go_sem] theorem ag_94 : aggOf Tryz.prog 94 = true := by kernel_rfl
@[go_sem] theorem us_94 : (Tryz.prog.underlying 94).isSome = true := by kernel_rfl
@[go_sem] theorem fd_94_0 : fieldOf Tryz.prog 94 0 = some (0, 29) := by kernel_rfl
@[go_sem] theorem fd_94_1 : fieldOf Tryz.prog 94 1 = some (1, 30) := by kernel_rfl
@[go_sem] theorem fd_94_2 : fieldOf Tryz.prog 94 2 = some (2, 3) := by kernel_rfl
@[go_sem] theorem fd_94_3 : fieldOf Tryz.prog 94 3 = some (3, 3) := by kernel_rfl
@[go_sem] theorem el_94 : Go.PA.elemOf Tryz.prog 94 = none := by kernel_rfl
@[go_sem] theorem ar_94 : arrOf Tryz.prog 94 = none := by kernel_rfl
@[go_sem] theorem fk_94 : fieldsKnown Tryz.prog 94 = true := by kernel_rfl
@[go_sem] theorem ze_94 : zeros Tryz.prog 94 = some [.nil, .nil, .sc (.int .i64 0), .sc (.int .i64 0)] := by kernel_rfl
@[go_sem] theorem by_94 : bytesOf Tryz.prog 94 = 64 := by kernel_rfl
@[go_sem] theorem sz_101 : szOf Tryz.prog 101 = 1 := by kernel_rfl
@[go_sem] theorem kn_101 : knownT Tryz.prog 101 = true := by kernel_rfl
@[go_sem] theorem ag_101 : aggOf Tryz.prog 101 = false := by kernel_rfl
@[go_sem] theorem us_101 : (Tryz.prog.underlying 101).isSome = true := by kernel_rfl
@[go_sem] theorem el_101 : Go.PA.elemOf Tryz.prog 101 = some 172 := by kernel_rfl
@[go_sem] theorem un_101 : Tryz.prog.underlying 101 = some (.slice 172) := by kernel_rfl
@[go_sem] theorem ze_101 : zeros Tryz.prog 101 = some [.nil] := by kernel_rfl
@[go_sem] theorem az_101 : azero1 Tryz.prog 101 = some (.nil) := by kernel_rfl
@[go_sem] theorem by_101 : bytesOf Tryz.prog 101 = 24 := by kernel_rfl
@[go_sem] theorem sz_102 : szOf Tryz.prog 102 = 1 := by kernel_rfl
@[go_sem] theorem kn_102 : knownT Tryz.prog 102 = true := by kernel_rfl
@[go_sem] theorem ag_102 : aggOf Tryz.prog 102 = false := by kernel_rfl
@[go_sem] theorem us_102 : (Tryz.prog.underlying 102).isSome = true := by kernel_rfl
@[go_sem] theorem el_102 : Go.PA.elemOf Tryz.prog 102 = some 199 := by kernel_rfl
@[go_sem] theorem un_102 : Tryz.prog.underlying 102 = some (.slice 199) := by kernel_rfl
@[go_sem] theorem ze_102 : zeros Tryz.prog 102 = some [.nil] := by kernel_rfl
@[go_sem] theorem az_102 : azero1 Tryz.prog 102 = some (.nil) := by kernel_rfl
@[go_sem] theorem by_102 : bytesOf Tryz.prog 102 = 24 := by kernel_rfl
@[go_sem] theorem sz_103 : szOf Tryz.prog 103 = 3 := by kernel_rfl
@[go_sem] theorem kn_103 : knownT Tryz.prog 103 = true := by kernel_rfl
@[go_sem] theorem ag_103 : aggOf Tryz.prog 103 = true := by kernel_rfl
@[go_sem] theorem us_103 : (Tryz.prog.underlying 103).isSome = true := by kernel_rfl
@[go_sem] theorem fd_103_0 : fieldOf Tryz.prog 103 0 = some (0, 3) := by kernel_rfl
@[go_sem] theorem fd_103_1 : fieldOf Tryz.prog 103 1 = some (1, 101) := by kernel_rfl
@[go_sem] theorem fd_103_2 : fieldOf Tryz.prog 103 2 = some (2, 102) := by kernel_rfl
@[go_sem] theorem el_103 : Go.PA.elemOf Tryz.prog 103 = none := by kernel_rfl
@[go_sem] theorem ar_103 : arrOf Tryz.prog 103 = none := by kernel_rfl
@[go_sem] theorem fk_103 : fieldsKnown Tryz.prog 103 = true := by kernel_rfl
@[go_sem] theorem ze_103 : zeros Tryz.prog 103 = some [.sc (.int .i64 0), .nil, .nil] := by kernel_rfl
@[go_sem] theorem by_103 : bytesOf Tryz.prog 103 = 56 := by kernel_rfl
@[go_sem] theorem sz_104 : szOf Tryz.prog 104 = 3 := by kernel_rfl
@[go_sem] theorem kn_104 : knownT Tryz.prog 104 = true := by kernel_rfl
@[go_sem] theorem ag_104 : aggOf Tryz.prog 104 = true := by kernel_rfl
@[go_sem] theorem us_104 : (Tryz.prog.underlying 104).isSome = true := by kernel_rfl
@[go_sem] theorem fd_104_0 : fieldOf Tryz.prog 104 0 = some (0, 3) := by kernel_rfl
@[go_sem] theorem fd_104_1 : fieldOf Tryz.prog 104 1 = some (1, 101) := by kernel_rfl
@[go_sem] theorem fd_104_2 : fieldOf Tryz.prog 104 2 = some (2, 102) := by kernel_rfl
@[go_sem] theorem el_104 : Go.PA.elemOf Tryz.prog 104 = none := by kernel_rfl
@[go_sem] theorem ar_104 : arrOf Tryz.prog 104 = none := by kernel_rfl
@[go_sem] theorem fk_104 : fieldsKnown Tryz.prog 104 = true := by kernel_rfl
@[go_sem] theorem ze_104 : zeros Tryz.prog 104 = some [.sc (.int .i64 0), .nil, .nil] := by kernel_rfl
@[go_sem] theorem by_104 : bytesOf Tryz.prog 104 = 56 := by kernel_rfl
@[go_sem] theorem sz_105 : szOf Tryz.prog 105 = 1 := by kernel_rfl
@[go_sem] theorem kn_105 : knownT Tryz.prog 105 = true := by kernel_rfl
@[go_sem] theorem ag_105 : aggOf Tryz.prog 105 = false := by kernel_rfl
@[go_sem] theorem us_105 : (Tryz.prog.underlying 105).isSome = true := by kernel_rfl
@[go_sem] theorem el_105 : Go.PA.elemOf Tryz.prog 105 = some 202 := by kernel_rfl
@[go_sem] theorem un_105 : Tryz.prog.underlying 105 = some (.slice 202) := by kernel_rfl
@[go_sem] theorem ze_105 : zeros Tryz.prog 105 = some [.nil] := by kernel_rfl
@[go_sem] theorem az_105 : azero1 Tryz.prog 105 = some (.nil) := by kernel_rfl
@[go_sem] theorem by_105 : bytesOf Tryz.prog 105 = 24 := by kernel_rfl
@[go_sem] theorem sz_106 : szOf Tryz.prog 106 = 1 := by kernel_rfl
@[go_sem] theorem kn_106 : knownT Tryz.prog 106 = true := by kernel_rfl
@[go_sem] theorem ag_106 : aggOf Tryz.prog 106 = false := by kernel_rfl
@[go_sem] theorem us_106 : (Tryz.prog.underlying 106).isSome = true := by kernel_rfl
@[go_sem] theorem el_106 : Go.PA.elemOf Tryz.prog 106 = some 205 := by kernel_rfl
@[go_sem] theorem un_106 : Tryz.prog.underlying 106 = some (.slice 205) := by kernel_rfl
@[go_sem] theorem ze_106 : zeros Tryz.prog 106 = some [.nil] := by kernel_rfl
@[go_sem] theorem az_106 : azero1 Tryz.prog 106 = some (.nil) := by kernel_rfl
@[go_sem] theorem by_106 : bytesOf Tryz.prog 106 = 24 := by kernel_rfl
@[go_sem] theorem sz_107 : szOf Tryz.prog 107 = 3 := by kernel_rfl
@[go_sem] theorem kn_107 : knownT Tryz.prog 107 = true := by kernel_rfl
@[go_sem] theorem ag_107 : aggOf Tryz.prog 107 = true := by kernel_rfl
@[go_sem] theorem us_107 : (Tryz.prog.underlying 107).isSome = true := by kernel_rfl
@[go_sem] theorem fd_107_0 : fieldOf Tryz.prog 107 0 = some (0, 105) := by kernel_rfl
@[go_sem] theorem fd_107_1 : fieldOf Tryz.prog 107 1 = some (1, 22) := by kernel_rfl
@[go_sem] theorem fd_107_2 : fieldOf Tryz.prog 107 2 = some (2, 106) := by kernel_rfl
@[go_sem] theorem el_107 : Go.PA.elemOf Tryz.prog 107 = none := by kernel_rfl
@[go_sem] theorem ar_107 : arrOf Tryz.prog 107 = none := by kernel_rfl
@[go_sem] theorem fk_107 : fieldsKnown Tryz.prog 107 = true := by kernel_rfl
@[go_sem] theorem ze_107 : zeros Tryz.prog 107 = some [.nil, .nil, .nil] := by kernel_rfl
@[go_sem] theorem by_107 : bytesOf Tryz.prog 107 = 72 := by kernel_rfl
@[go_sem] theorem sz_108 : szOf Tryz.prog 108 = 3 := by kernel_rfl
@[go_sem] theorem kn_108 : knownT Tryz.prog 108 = true := by kernel_rfl
@[go_sem] theorem ag_108 : aggOf Tryz.prog 108 = true := by kernel_rfl
@[go_sem] theorem us_108 : (Tryz.prog.underlying 108).isSome = true := by kernel_rfl
@[go_sem] theorem fd_108_0 : fieldOf Tryz.prog 108 0 = some (0, 105) := by kernel_rfl
@[go_sem] theorem fd_108_1 : fieldOf Tryz.prog 108 1 = some (1, 22) := by kernel_rfl
@[go_sem] theorem fd_108_2 : fieldOf Tryz.prog 108 2 = some (2, 106) := by kernel_rfl
@[go_sem] theorem el_108 : Go.PA.elemOf Tryz.prog 108 = none := by kernel_rfl
@[go_sem] theorem ar_108 : arrOf Tryz.prog 108 = none := by kernel_rfl
@[go_sem] theorem fk_108 : fieldsKnown Tryz.prog 108 = true := by kernel_rfl
@[go_sem] theorem ze_108 : zeros Tryz.prog 108 = some [.nil, .nil, .nil] := by kernel_rfl
@[go_sem] theorem by_108 : bytesOf Tryz.prog 108 = 72 := by kernel_rfl
@[go_sem] theorem sz_109 : szOf Tryz.prog 109 = 1 := by kernel_rfl
@[go_sem] theorem kn_109 : knownT Tryz.prog 109 = true := by kernel_rfl
@[go_sem] theorem ag_109 : aggOf Tryz.prog 109 = false := by kernel_rfl
@[go_sem] theorem us_109 : (Tryz.prog.underlying 109).isSome = true := by kernel_rfl
@[go_sem] theorem el_109 : Go.PA.elemOf Tryz.prog 109 = some 208 := by kernel_rfl
@[go_sem] theorem un_109 : Tryz.prog.underlying 109 = some (.slice 208) := by kernel_rfl
@[go_sem] theorem ze_109 : zeros Tryz.prog 109 = some [.nil] := by kernel_rfl
@[go_sem] theorem az_109 : azero1 Tryz.prog 109 = some (.nil) := by kernel_rfl
@[go_sem] theorem by_109 : bytesOf Tryz.prog 109 = 24 := by kernel_rfl
@[go_sem] theorem sz_110 : szOf Tryz.prog 110 = 7 := by kernel_rfl
@[go_sem] theorem kn_110 : knownT Tryz.prog 110 = true := by kernel_rfl
@[go_sem] theorem ag_110 : aggOf Tryz.prog 110 = true := by kernel_rfl
@[go_sem] theorem us_110 : (Tryz.prog.underlying 110).isSome = true := by kernel_rfl
@[go_sem] theorem fd_110_0 : fieldOf Tryz.prog 110 0 = some (0, 104) := by kernel_rfl
@[go_sem] theorem fd_110_1 : fieldOf Tryz.prog 110 1 = some (3, 108) := by kernel_rfl
@[go_sem] theorem fd_110_2 : fieldOf Tryz.prog 110 2 = some (6, 109) := by kernel_rfl
@[go_sem] theorem el_110 : Go.PA.elemOf Tryz.prog 110 = none := by kernel_rfl
@[go_sem] theorem ar_110 : arrOf Tryz.prog 110 = none := by kernel_rfl
@[go_sem] theorem fk_110 : fieldsKnown Tryz.prog 110 = true := by kernel_rfl
@[go_sem] theorem ze_110 : zeros Tryz.prog 110 = some [.sc (.int .i64 0), .nil, .nil, .nil, .nil, .nil, .nil] := by kernel_rfl
@[go_sem] theorem by_110 : bytesOf Tryz.prog 110 = 152 := by kernel_rfl
@[go_sem] theorem sz_111 : szOf Tryz.prog 111 = 7 := by kernel_rfl
@[go_sem] theorem kn_111 : knownT Tryz.prog 111 = true := by kernel_rfl
@[go_sem] theorem ag_111 : aggOf Tryz.prog 111 = true := by kernel_rfl
@[go_sem] theorem us_111 : (Tryz.prog.underlying 111).isSome = true := by kernel_rfl
@[go_sem] theorem fd_111_0 : fieldOf Tryz.prog 111 0 = some (0, 104) := by kernel_rfl
@[go_sem] theorem fd_111_1 : fieldOf Tryz.prog 111 1 = some (3, 108) := by kernel_rfl
@[go_sem] theorem fd_111_2 : fieldOf Tryz.prog 111 2 = some (6, 109) := by kernel_rfl
@[go_sem] theorem el_111 : Go.PA.elemOf Tryz.prog 111 = none := by kernel_rfl
@[go_sem] theorem ar_111 : arrOf Tryz.prog 111 = none := by kernel_rfl
@[go_sem] theorem fk_111 : fieldsKnown Tryz.prog 111 = true := by kernel_rfl
@[go_sem] theorem ze_111 : zeros Tryz.prog 111 = some [.sc (.int .i64 0), .nil, .nil, .nil, .nil, .nil, .nil] := by kernel_rfl
@[go_sem] theorem by_111 : bytesOf Tryz.prog 111 = 152 := by kernel_rfl
@[go_sem] theorem sz_112 : szOf Tryz.prog 112 = 1 := by kernel_rfl
@[go_sem] theorem kn_112 : knownT Tryz.prog 112 = true := by kernel_rfl
@[go_sem] theorem ag_112 : aggOf Tryz.prog 112 = false := by kernel_rfl
@[go_sem] theorem us_112 : (Tryz.prog.underlying 112).isSome = true := by kernel_rfl
@[go_sem] theorem el_112 : Go.PA.elemOf Tryz.prog 112 = some 212 := by kernel_rfl
@[go_sem] theorem un_112 : Tryz.prog.underlying 112 = some (.slice 212) := by kernel_rfl
@[go_sem] theorem ze_112 : zeros Tryz.prog 112 = some [.nil] := by kernel_rfl
@[go_sem] theorem az_112 : azero1 Tryz.prog 112 = some (.nil) := by kernel_rfl
@[go_sem] theorem by_112 : bytesOf Tryz.prog 112 = 24 := by kernel_rfl
@[go_sem] theorem sz_113 : szOf Tryz.prog 113 = 1 := by kernel_rfl
@[go_sem] theorem kn_113 : knownT Tryz.prog 113 = true := by kernel_rfl
@[go_sem] theorem ag_113 : aggOf Tryz.prog 113 = false := by kernel_rfl
@[go_sem] theorem us_113 : (Tryz.prog.underlying 113).isSome = true := by kernel_rfl
@[go_sem] theorem el_113 : Go.PA.elemOf Tryz.prog 113 = some 215 := by kernel_rfl
@[go_sem] theorem un_113 : Tryz.prog.underlying 113 = some (.slice 215) := by kernel_rfl
@[go_sem] theorem ze_113 : zeros Tryz.prog 113 = some [.nil] := by kernel_rfl
@[go_sem] theorem az_113 : azero1 Tryz.prog 113 = some (.nil) := by kernel_rfl
@[go_sem] theorem by_113 : bytesOf Tryz.prog 113 = 24 := by kernel_rfl
@[go_sem] theorem sz_114 : szOf Tryz.prog 114 = 1 := by kernel_rfl
@[go_sem] theorem kn_114 : knownT Tryz.prog 114 = true := by kernel_rfl
@[go_sem] theorem ag_114 : aggOf Tryz.prog 114 = false := by kernel_rfl
@[go_sem] theorem us_114 : (Tryz.prog.underlying 114).isSome = true := by kernel_rfl
@[go_sem] theorem el_114 : Go.PA.elemOf Tryz.prog 114 = some 218 := by kernel_rfl
@[go_sem] theorem un_114 : Tryz.prog.underlying 114 = some (.slice 218) := by kernel_rfl
@[go_sem] theorem ze_114 : zeros Tryz.prog 114 = some [.nil] := by kernel_rfl
@[go_sem] theorem az_114 : azero1 Tryz.prog 114 = some (.nil) := by kernel_rfl
@[go_sem] theorem by_114 : bytesOf Tryz.prog 114 = 24 := by kernel_rfl
@[go_sem] theorem sz_115 : szOf Tryz.prog 115 = 4 := by kernel_rfl
@[go_sem] theorem kn_115 : knownT Tryz.prog 115 = true := by kernel_rfl
@[go_sem] theorem ag_115 : aggOf Tryz.prog 115 = true := by kernel_rfl
@[go_sem] theorem us_115 : (Tryz.prog.underlying 115).isSome = true := by kernel_rfl
@[go_sem] theorem fd_115_0 : fieldOf Tryz.prog 115 0 = some (0, 112) := by kernel_rfl
@[go_sem] theorem fd_115_1 : fieldOf Tryz.prog 115 1 = some (1, 113) := by kernel_rfl
@[go_sem] theorem fd_115_2 : fieldOf Tryz.prog 115 2 = some (2, 114) := by kernel_rfl
@[go_sem] theorem fd_115_3 : fieldOf Tryz.prog 115 3 = some (3, 22) := by kernel_rfl
@[go_sem] theorem el_115 : Go.PA.elemOf Tryz.prog 115 = none := by kernel_rfl
@[go_sem] theorem ar_115 : arrOf Tryz.prog 115 = none := by kernel_rfl
@[go_sem] theorem fk_115 : fieldsKnown Tryz.prog 115 = true := by kernel_rfl
@[go_sem] theorem ze_115 : zeros Tryz.prog 115 = some [.nil, .nil, .nil, .nil] := by kernel_rfl
@[go_sem] theorem by_115 : bytesOf Tryz.prog 115 = 96 := by kernel_rfl
@[go_sem] theorem sz_116 : szOf Tryz.prog 116 = 4 := by kernel_rfl
@[go_sem] theorem kn_116 : knownT Tryz.prog 116 = true := by kernel_rfl
@[go_sem] theorem ag_116 : aggOf Tryz.prog 116 = true := by kernel_rfl
@[go_sem] theorem us_116 : (Tryz.prog.underlying 116).isSome = true := by kernel_rfl
@[go_sem] theorem fd_116_0 : fieldOf Tryz.prog 116 0 = some (0, 112) := by kernel_rfl
@[go_sem] theorem fd_116_1 : fieldOf Tryz.prog 116 1 = some (1, 113) := by kernel_rfl
@[go_sem] theorem fd_116_2 : fieldOf Tryz.prog 116 2 = some (2, 114) := by kernel_rfl
@[go_sem] theorem fd_116_3 : fieldOf Tryz.prog 116 3 = some (3, 22) := by kernel_rfl
@[go_sem] theorem el_116 : Go.PA.elemOf Tryz.prog 116 = none := by kernel_rfl
@[go_sem] theorem ar_116 : arrOf Tryz.prog 116 = none := by kernel_rfl
@[go_sem] theorem fk_116 : fieldsKnown Tryz.prog 116 = true := by kernel_rfl
@[go_sem] theorem ze_116 : zeros Tryz.prog 116 = some [.nil, .nil, .nil, .nil] := by kernel_rfl
@[go_sem] theorem by_116 : bytesOf Tryz.prog 116 = 96 := by kernel_rfl
@[go_sem] theorem sz_117 : szOf Tryz.prog 117 = 1 := by kernel_rfl
@[go_sem] theorem kn_117 : knownT Tryz.prog 117 = true := by kernel_rfl
@[go_sem] theorem ag_117 : aggOf Tryz.prog 117 = false := by kernel_rfl
@[go_sem] theorem us_117 : (Tryz.prog.underlying 117).isSome = true := by kernel_rfl
@[go_sem] theorem el_117 : Go.PA.elemOf Tryz.prog 117 = some 221 := by kernel_rfl
@[go_sem] theorem un_117 : Tryz.prog.underlying 117 = some (.slice 221) := by kernel_rfl
@[go_sem] theorem ze_117 : zeros Tryz.prog 117 = some [.nil] := by kernel_rfl
@[go_sem] theorem az_117 : azero1 Tryz.prog 117 = some (.nil) := by kernel_rfl
@[go_sem] theorem by_117 : bytesOf Tryz.prog 117 = 24 := by kernel_rfl
@[go_sem] theorem sz_118 : szOf Tryz.prog 118 = 1 := by kernel_rfl
@[go_sem] theorem kn_118 : knownT Tryz.prog 118 = true := by kernel_rfl
@[go_sem] theorem ag_118 : aggOf Tryz.prog 118 = true := by kernel_rfl
@[go_sem] theorem us_118 : (Tryz.prog.underlying 118).isSome = true := by kernel_rfl
@[go_sem] theorem fd_118_0 : fieldOf Tryz.prog 118 0 = some (0, 117) := by kernel_rfl
@[go_sem] theorem el_118 : Go.PA.elemOf Tryz.prog 118 = none := by kernel_rfl
@[go_sem] theorem ar_118 : arrOf Tryz.prog 118 = none := by kernel_rfl
@[go_sem] theorem fk_118 : fieldsKnown Tryz.prog 118 = true := by kernel_rfl
@[go_sem] theorem ze_118 : zeros Tryz.prog 118 = some [.nil] := by kernel_rfl
@[go_sem] theorem by_118 : bytesOf Tryz.prog 118 = 24 := by kernel_rfl
@[go_sem] theorem sz_119 : szOf Tryz.prog 119 = 1 := by kernel_rfl
@[go_sem] theorem kn_119 : knownT Tryz.prog 119 = true := by kernel_rfl
@[go_sem] theorem ag_119 : aggOf Tryz.prog 119 = true := by kernel_rfl
@[go_sem] theorem us_119 : (Tryz.prog.underlying 119).isSome = true := by kernel_rfl
@[go_sem] theorem fd_119_0 : fieldOf Tryz.prog 119 0 = some (0, 117) := by kernel_rfl
@[go_sem] theorem el_119 : Go.PA.elemOf Tryz.prog 119 = none := by kernel_rfl
@[go_sem] theorem ar_119 : arrOf Tryz.prog 119 = none := by kernel_rfl
@[go_sem] theorem fk_119 : fieldsKnown Tryz.prog 119 = true := by kernel_rfl
@[go_sem] theorem ze_119 : zeros Tryz.prog 119 = some [.nil] := by kernel_rfl
@[go_sem] theorem by_119 : bytesOf Tryz.prog 119 = 24 := by kernel_rfl
@[go_sem] theorem sz_120 : szOf Tryz.prog 120 = 15 := by kernel_rfl
@[go_sem] theorem kn_120 : knownT Tryz.prog 120 = true := by kernel_rfl
@[go_sem] theorem ag_120 : aggOf Tryz.prog 120 = true := by kernel_rfl
@[go_sem] theorem us_120 : (Tryz.prog.underlying 120).isSome = true := by kernel_rfl
@[go_sem] theorem fd_120_0 : fieldOf Tryz.prog 120 0 = some (0, 111) := by kernel_rfl
@[go_sem] theorem fd_120_1 : fieldOf Tryz.prog 120 1 = some (7, 116) := by kernel_rfl
@[go_sem] theorem fd_120_2 : fieldOf Tryz.prog 120 2 = some (11, 33) := by kernel_rfl
@[go_sem] theorem fd_120_3 : fieldOf Tryz.prog 120 3 = some (14, 119) := by kernel_rfl
@[go_sem] theorem el_120 : Go.PA.elemOf Tryz.prog 120 = none := by kernel_rfl
@[go_sem] theorem ar_120 : arrOf Tryz.prog 120 = none := by kernel_rfl
@[go_sem] theorem fk_120 : fieldsKnown Tryz.prog 120 = true := by kernel_rfl
@[go_sem] theorem ze_120 : zeros Tryz.prog 120 = some [.sc (.int .i64 0), .nil, .nil, .nil, .nil, .nil, .nil, .nil, .nil, .nil, .nil, .nil, .nil, .nil, .nil] := by kernel_rfl
@[go_sem] theorem by_120 : bytesOf Tryz.prog 120 = 344 := by kernel_rfl
@[go_sem] theorem sz_121 : szOf Tryz.prog 121 = 15 := by kernel_rfl
@[go_sem] theorem kn_121 : knownT Tryz.prog 121 = true := by kernel_rfl
@[go_sem] theorem ag_121 : aggOf Tryz.prog 121 = true := by kernel_rfl
@[go_sem] theorem us_121 : (Tryz.prog.underlying 121).isSome = true := by kernel_rfl
@[go_sem] theorem fd_121_0 : fieldOf Tryz.prog 121 0 = some (0, 111) := by kernel_rfl
@[go_sem] theorem fd_121_1 : fieldOf Tryz.prog 121 1 = some (7, 116) := by kernel_rfl
@[go_sem] theorem fd_121_2 : fieldOf Tryz.prog 121 2 = some (11, 33) := by kernel_rfl
@[go_sem] theorem fd_121_3 : fieldOf Tryz.prog 121 3 = some (14, 119) := by kernel_rfl
@[go_sem] theorem el_121 : Go.PA.elemOf Tryz.prog 121 = none := by kernel_rfl
@[go_sem] theorem ar_121 : arrOf Tryz.prog 121 = none := by kernel_rfl
@[go_sem] theorem fk_121 : fieldsKnown Tryz.prog 121 = true := by kernel_rfl
@[go_sem] theorem ze_121 : zeros Tryz.prog 121 = some [.sc (.int .i64 0), .nil, .nil, .nil, .nil, .nil, .nil, .nil, .nil, .nil, .nil, .nil, .nil, .nil, .nil] := by kernel_rfl
@[go_sem] theorem by_121 : bytesOf Tryz.prog 121 = 344 := by kernel_rfl
@[go_sem] theorem sz_126 : szOf Tryz.prog 126 = 7 := by kernel_rfl
@[go_sem] theorem kn_126 : knownT Tryz.prog 126 = true := by kernel_rfl
@[go_sem] theorem ag_126 : aggOf Tryz.prog 126 = true := by kernel_rfl
@[go_sem] theorem us_126 : (Tryz.prog.underlying 126).isSome = true := by kernel_rfl
@[go_sem] theorem fd_126_0 : fieldOf Tryz.prog 126 0 = some (0, 3) := by kernel_rfl
@[go_sem] theorem fd_126_1 : fieldOf Tryz.prog 126 1 = some (1, 3) := by kernel_rfl
@[go_sem] theorem fd_126_2 : fieldOf Tryz.prog 126 2 = some (2, 3) := by kernel_rfl
@[go_sem] theorem fd_126_3 : fieldOf Tryz.prog 126 3 = some (3, 3) := by kernel_rfl
@[go_sem] theorem fd_126_4 : fieldOf Tryz.prog 126 4 = some (4, 3) := by kernel_rfl
@[go_sem] theorem fd_126_5 : fieldOf Tryz.prog 126 5 = some (5, 3) := by kernel_rfl
@[go_sem] theorem fd_126_6 : fieldOf Tryz.prog 126 6 = some (6, 3) := by kernel_rfl
@[go_sem] theorem el_126 : Go.PA.elemOf Tryz.prog 126 = none := by kernel_rfl
@[go_sem] theorem ar_126 : arrOf Tryz.prog 126 = none := by kernel_rfl
@[go_sem] theorem fk_126 : fieldsKnown Tryz.prog 126 = true := by kernel_rfl
@[go_sem] theorem sg_126 : sigOf Tryz.prog 126 = some [.int, .int, .int, .int, .int, .int, .int] := by kernel_rfl
@[go_sem] theorem ze_126 : zeros Tryz.prog 126 = some [.sc (.int .i64 0), .sc (.int .i64 0), .sc (.int .i64 0), .sc (.int .i64 0), .sc (.int .i64 0), .sc (.int .i64 0), .sc (.int .i64 0)] := by kernel_rfl
@[go_sem] theorem by_126 : bytesOf Tryz.prog 126 = 56 := by kernel_rfl
@[go_sem] theorem sz_127 : szOf Tryz.prog 127 = 7 := by kernel_rfl
@[go_sem] theorem kn_127 : knownT Tryz.prog 127 = true := by kernel_rfl
@[go_sem] theorem ag_127 : aggOf Tryz.prog 127 = true := by kernel_rfl
@[go_sem] theorem us_127 : (Tryz.prog.underlying 127).isSome = true := by kernel_rfl
@[go_sem] theorem fd_127_0 : fieldOf Tryz.prog 127 0 = some (0, 3) := by kernel_rfl
@[go_sem] theorem fd_127_1 : fieldOf Tryz.prog 127 1 = some (1, 3) := by kernel_rfl
@[go_sem] theorem fd_127_2 : fieldOf Tryz.prog 127 2 = some (2, 3) := by kernel_rfl
@[go_sem] theorem fd_127_3 : fieldOf Tryz.prog 127 3 = some (3, 3) := by kernel_rfl
@[go_sem] theorem fd_127_4 : fieldOf Tryz.prog 127 4 = some (4, 3) := by kernel_rfl
@[go_sem] theorem fd_127_5 : fieldOf Tryz.prog 127 5 = some (5, 3) := by kernel_rfl
@[go_sem] theorem fd_127_6 : fieldOf Tryz.prog 127 6 = some (6, 3) := by kernel_rfl
@[go_sem] theorem el_127 : Go.PA.elemOf Tryz.prog 127 = none := by kernel_rfl
@[go_sem] theorem ar_127 : arrOf Tryz.prog 127 = none := by kernel_rfl
@[go_sem] theorem fk_127 : fieldsKnown Tryz.prog 127 = true := by kernel_rfl
@[go_sem] theorem sg_127 : sigOf Tryz.prog 127 = some [.int, .int, .int, .int, .int, .int, .int] := by kernel_rfl
@[go_sem] theorem ze_127 : zeros Tryz.prog 127 = some [.sc (.int .i64 0), .sc (.int .i64 0), .sc (.int .i64 0), .sc (.int .i64 0), .sc (.int .i64 0), .sc (.int .i64 0), .sc (.int .i64 0)] := by kernel_rfl
@[go_sem] theorem by_127 : bytesOf Tryz.prog 127 = 56 := by kernel_rfl
@[go_sem] theorem sz_128 : szOf Tryz.prog 128 = 1 := by kernel_rfl
@[go_sem] theorem kn_128 : knownT Tryz.prog 128 = true := by kernel_rfl
@[go_sem] theorem ag_128 : aggOf Tryz.prog 128 = false := by kernel_rfl
@[go_sem] theorem us_128 : (Tryz.prog.underlying 128).isSome = true := by kernel_rfl
@[go_sem] theorem el_128 : Go.PA.elemOf Tryz.prog 128 = some 127 := by kernel_rfl
@[go_sem] theorem un_128 : Tryz.prog.underlying 128 = some (.slice 127) := by kernel_rfl
@[go_sem] theorem ze_128 : zeros Tryz.prog 128 = some [.nil] := by kernel_rfl
@[go_sem] theorem az_128 : azero1 Tryz.prog 128 = some (.nil) := by kernel_rfl
@[go_sem] theorem by_128 : bytesOf Tryz.prog 128 = 24 := by kernel_rfl
@[go_sem] theorem sz_136 : szOf Tryz.prog 136 = 1 := by kernel_rfl
@[go_sem] theorem kn_136 : knownT Tryz.prog 136 = true := by kernel_rfl
@[go_sem] theorem ag_136 : aggOf Tryz.prog 136 = false := by kernel_rfl
@[go_sem] theorem us_136 : (Tryz.prog.underlying 136).isSome = true := by kernel_rfl
@[go_sem] theorem un_136 : Tryz.prog.underlying 136 = some (.int .u64) := by kernel_rfl
@[go_sem] theorem ze_136 : zeros Tryz.prog 136 = some [.sc (.int .u64 0)] := by kernel_rfl
@[go_sem] theorem az_136 : azero1 Tryz.prog 136 = some (.sc (.int .u64 0)) := by kernel_rfl
@[go_sem] theorem by_136 : bytesOf Tryz.prog 136 = 8 := by kernel_rfl
@[go_sem] theorem sz_159 : szOf Tryz.prog 159 = 2 := by kernel_rfl
@[go_sem] theorem kn_159 : knownT Tryz.prog 159 = true := by kernel_rfl
@[go_sem] theorem ag_159 : aggOf Tryz.prog 159 = true := by kernel_rfl
@[go_sem] theorem us_159 : (Tryz.prog.underlying 159).isSome = true := by kernel_rfl
@[go_sem] theorem fd_159_0 : fieldOf Tryz.prog 159 0 = some (0, 3) := by kernel_rfl
@[go_sem] theorem fd_159_1 : fieldOf Tryz.prog 159 1 = some (1, 3) := by kernel_rfl
@[go_sem] theorem el_159 : Go.PA.elemOf Tryz.prog 159 = none := by kernel_rfl
@[go_sem] theorem ar_159 : arrOf Tryz.prog 159 = none := by kernel_rfl
@[go_sem] theorem fk_159 : fieldsKnown Tryz.prog 159 = true := by kernel_rfl
@[go_sem] theorem sg_159 : sigOf Tryz.prog 159 = some [.int, .int] := by kernel_rfl
@[go_sem] theorem ze_159 : zeros Tryz.prog 159 = some [.sc (.int .i64 0), .sc (.int .i64 0)] := by kernel_rfl
@[go_sem] theorem by_159 : bytesOf Tryz.prog 159 = 16 := by kernel_rfl
@[go_sem] theorem sz_160 : szOf Tryz.prog 160 = 2 := by kernel_rfl
@[go_sem] theorem kn_160 : knownT Tryz.prog 160 = true := by kernel_rfl
@[go_sem] theorem ag_160 : aggOf Tryz.prog 160 = true := by kernel_rfl
@[go_sem] theorem us_160 : (Tryz.prog.underlying 160).isSome = true := by kernel_rfl
@[go_sem] theorem fd_160_0 : fieldOf Tryz.prog 160 0 = some (0, 3) := by kernel_rfl
@[go_sem] theorem fd_160_1 : fieldOf Tryz.prog 160 1 = some (1, 3) := by kernel_rfl
@[go_sem] theorem el_160 : Go.PA.elemOf Tryz.prog 160 = none := by kernel_rfl
@[go_sem] theorem ar_160 : arrOf Tryz.prog 160 = none := by kernel_rfl
@[go_sem] theorem fk_160 : fieldsKnown Tryz.prog 160 = true := by kernel_rfl
@[go_sem] theorem sg_160 : sigOf Tryz.prog 160 = some [.int, .int] := by kernel_rfl
@[go_sem] theorem ze_160 : zeros Tryz.prog 160 = some [.sc (.int .i64 0), .sc (.int .i64 0)] := by kernel_rfl
@[go_sem] theorem by_160 : bytesOf Tryz.prog 160 = 16 := by kernel_rfl
@[go_sem] theorem sz_171 : szOf Tryz.prog 171 = 2 := by kernel_rfl
@[go_sem] theorem kn_171 : knownT Tryz.prog 171 = true := by kernel_rfl
@[go_sem] theorem ag_171 : aggOf Tryz.prog 171 = true := by kernel_rfl
@[go_sem] theorem us_171 : (Tryz.prog.underlying 171).isSome = true := by kernel_rfl
@[go_sem] theorem fd_171_0 : fieldOf Tryz.prog 171 0 = some (0, 3) := by kernel_rfl
@[go_sem] theorem fd_171_1 : fieldOf Tryz.prog 171 1 = some (1, 3) := by kernel_rfl
@[go_sem] theorem el_171 : Go.PA.elemOf Tryz.prog 171 = none := by kernel_rfl
@[go_sem] theorem ar_171 : arrOf Tryz.prog 171 = none := by kernel_rfl
@[go_sem] theorem fk_171 : fieldsKnown Tryz.prog 171 = true := by kernel_rfl
@[go_sem] theorem sg_171 : sigOf Tryz.prog 171 = some [.int, .int] := by kernel_rfl
@[go_sem] theorem ze_171 : zeros Tryz.prog 171 = some [.sc (.int .i64 0), .sc (.int .i64 0)] := by kernel_rfl
@[go_sem] theorem by_171 : bytesOf Tryz.prog 171 = 16 := by kernel_rfl
@[go_sem] theorem sz_172 : szOf Tryz.prog 172 = 2 := by kernel_rfl
@[go_sem] theorem kn_172 : knownT Tryz.prog 172 = true := by kernel_rfl
@[go_sem] theorem ag_172 : aggOf Tryz.prog 172 = true := by kernel_rfl
@[go_sem] theorem us_172 : (Tryz.prog.underlying 172).isSome = true := by kernel_rfl
@[go_sem] theorem fd_172_0 : fieldOf Tryz.prog 172 0 = some (0, 3) := by kernel_rfl
@[go_sem] theorem fd_172_1 : fieldOf Tryz.prog 172 1 = some (1, 3) := by kernel_rfl
@[go_sem] theorem el_172 : Go.PA.elemOf Tryz.prog 172 = none := by kernel_rfl
@[go_sem] theorem ar_172 : arrOf Tryz.prog 172 = none := by kernel_rfl
@[go_sem] theorem fk_172 : fieldsKnown Tryz.prog 172 = true := by kernel_rfl
@[go_sem] theorem sg_172 : sigOf Tryz.prog 172 = some [.int, .int] := by kernel_rfl
@[go_sem] theorem ze_172 : zeros Tryz.prog 172 = some [.sc (.int .i64 0), .sc (.int .i64 0)] := by kernel_rfl
@[go_sem] theorem by_172 : bytesOf Tryz.prog 172 = 16 := by kernel_rfl
@[go_sem] theorem sz_174 : szOf Tryz.prog 174 = 1 := by kernel_rfl
@[go_sem] theorem kn_174 : knownT Tryz.prog 174 = true := by kernel_rfl
@[go_sem] theorem ag_174 : aggOf Tryz.prog 174 = false := by kernel_rfl
@[go_sem] theorem us_174 : (Tryz.prog.underlying 174).isSome = true := by kernel_rfl
@[go_sem] theorem mp_174 : mapOf Tryz.prog 174 = some (3, .int .i64, 3) := by kernel_rfl
@[go_sem] theorem mi_174 : IMap Tryz.prog 174 (.sc (.int .i64 0)) := ⟨_, _, mp_174, by kernel_rfl⟩
@[go_sem] theorem im_174 : isMapT Tryz.prog 174 = true := by kernel_rfl
@[go_sem] theorem by_174 : bytesOf Tryz.prog 174 = 8 := by kernel_rfl
@[go_sem] theorem sz_178 : szOf Tryz.prog 178 = 1 := by kernel_rfl
@[go_sem] theorem kn_178 : knownT Tryz.prog 178 = true := by kernel_rfl
@[go_sem] theorem ag_178 : aggOf Tryz.prog 178 = false := by kernel_rfl
@[go_sem] theorem us_178 : (Tryz.prog.underlying 178).isSome = true := by kernel_rfl
@[go_sem] theorem el_178 : Go.PA.elemOf Tryz.prog 178 = some 240 := by kernel_rfl
@[go_sem] theorem un_178 : Tryz.prog.underlying 178 = some (.slice 240) := by kernel_rfl
@[go_sem] theorem ze_178 : zeros Tryz.prog 178 = some [.nil] := by kernel_rfl
@[go_sem] theorem az_178 : azero1 Tryz.prog 178 = some (.nil) := by kernel_rfl
@[go_sem] theorem by_178 : bytesOf Tryz.prog 178 = 24 := by kernel_rfl
@[go_sem] theorem sz_194 : szOf Tryz.prog 194 = 1 := by kernel_rfl
@[go_sem] theorem kn_194 : knownT Tryz.prog 194 = true := by kernel_rfl
@[go_sem] theorem ag_194 : aggOf Tryz.prog 194 = false := by kernel_rfl
@[go_sem] theorem us_194 : (Tryz.prog.underlying 194).isSome = true := by kernel_rfl
@[go_sem] theorem ze_194 : zeros Tryz.prog 194 = some [.sc (.pointer none)] := by kernel_rfl
@[go_sem] theorem by_194 : bytesOf Tryz.prog 194 = 8 := by kernel_rfl
@[go_sem] theorem sz_195 : szOf Tryz.prog 195 = 1 := by kernel_rfl
@[go_sem] theorem kn_195 : knownT Tryz.prog 195 = true := by kernel_rfl
@[go_sem] theorem ag_195 : aggOf Tryz.prog 195 = false := by kernel_rfl
@[go_sem] theorem us_195 : (Tryz.prog.underlying 195).isSome = true := by kernel_rfl
@[go_sem] theorem ze_195 : zeros Tryz.prog 195 = some [.sc (.pointer none)] := by kernel_rfl
@[go_sem] theorem by_195 : bytesOf Tryz.prog 195 = 8 := by kernel_rfl
@[go_sem] theorem sz_198 : szOf Tryz.prog 198 = 6 := by kernel_rfl
@[go_sem] theorem kn_198 : knownT Tryz.prog 198 = true := by kernel_rfl
@[go_sem] theorem ag_198 : aggOf Tryz.prog 198 = true := by kernel_rfl
@[go_sem] theorem us_198 : (Tryz.prog.underlying 198).isSome = true := by kernel_rfl
@[go_sem] theorem fd_198_0 : fieldOf Tryz.prog 198 0 = some (0, 3) := by kernel_rfl
@[go_sem] theorem fd_198_1 : fieldOf Tryz.prog 198 1 = some (1, 3) := by kernel_rfl
@[go_sem] theorem fd_198_2 : fieldOf Tryz.prog 198 2 = some (2, 3) := by kernel_rfl
@[go_sem] theorem fd_198_3 : fieldOf Tryz.prog 198 3 = some (3, 3) := by kernel_rfl
@[go_sem] theorem fd_198_4 : fieldOf Tryz.prog 198 4 = some (4, 3) := by kernel_rfl
@[go_sem] theorem fd_198_5 : fieldOf Tryz.prog 198 5 = some (5, 3) := by kernel_rfl
@[go_sem] theorem el_198 : Go.PA.elemOf Tryz.prog 198 = none := by kernel_rfl
@[go_sem] theorem ar_198 : arrOf Tryz.prog 198 = none := by kernel_rfl
@[go_sem] theorem fk_198 : fieldsKnown Tryz.prog 198 = true := by kernel_rfl
@[go_sem] theorem sg_198 : sigOf Tryz.prog 198 = some [.int, .int, .int, .int, .int, .int] := by kernel_rfl
@[go_sem] theorem ze_198 : zeros Tryz.prog 198 = some [.sc (.int .i64 0), .sc (.int .i64 0), .sc (.int .i64 0), .sc (.int .i64 0), .sc (.int .i64 0), .sc (.int .i64 0)] := by kernel_rfl
@[go_sem] theorem by_198 : bytesOf Tryz.prog 198 = 48 := by kernel_rfl
@[go_sem] theorem sz_199 : szOf Tryz.prog 199 = 6 := by kernel_rfl
@[go_sem] theorem kn_199 : knownT Tryz.prog 199 = true := by kernel_rfl
@[go_sem] theorem ag_199 : aggOf Tryz.prog 199 = true := by kernel_rfl
@[go_sem] theorem us_199 : (Tryz.prog.underlying 199).isSome = true := by kernel_rfl
@[go_sem] theorem fd_199_0 : fieldOf Tryz.prog 199 0 = some (0, 3) := by kernel_rfl
@[go_sem] theorem fd_199_1 : fieldOf Tryz.prog 199 1 = some (1, 3) := by kernel_rfl
@[go_sem] theorem fd_199_2 : fieldOf Tryz.prog 199 2 = some (2, 3) := by kernel_rfl
@[go_sem] theorem fd_199_3 : fieldOf Tryz.prog 199 3 = some (3, 3) := by kernel_rfl
@[go_sem] theorem fd_199_4 : fieldOf Tryz.prog 199 4 = some (4, 3) := by kernel_rfl
@[go_sem] theorem fd_199_5 : fieldOf Tryz.prog 199 5 = some (5, 3) := by kernel_rfl
@[go_sem] theorem el_199 : Go.PA.elemOf Tryz.prog 199 = none := by kernel_rfl
@[go_sem] theorem ar_199 : arrOf Tryz.prog 199 = none := by kernel_rfl
@[go_sem] theorem fk_199 : fieldsKnown Tryz.prog 199 = true := by kernel_rfl
@[go_sem] theorem sg_199 : sigOf Tryz.prog 199 = some [.int, .int, .int, .int, .int, .int] := by kernel_rfl
@[go_sem] theorem ze_199 : zeros Tryz.prog 199 = some [.sc (.int .i64 0), .sc (.int .i64 0), .sc (.int .i64 0), .sc (.int .i64 0), .sc (.int .i64 0), .sc (.int .i64 0)] := by kernel_rfl
@[go_sem] theorem by_199 : bytesOf Tryz.prog 199 = 48 := by kernel_rfl
@[go_sem] theorem sz_201 : szOf Tryz.prog 201 = 5 := by kernel_rfl
@[go_sem] theorem kn_201 : knownT Tryz.prog 201 = true := by kernel_rfl
@[go_sem] theorem ag_201 : aggOf Tryz.prog 201 = true := by kernel_rfl
@[go_sem] theorem us_201 : (Tryz.prog.underlying 201).isSome = true := by kernel_rfl
@[go_sem] theorem fd_201_0 : fieldOf Tryz.prog 201 0 = some (0, 3) := by kernel_rfl
@[go_sem] theorem fd_201_1 : fieldOf Tryz.prog 201 1 = some (1, 3) := by kernel_rfl
@[go_sem] theorem fd_201_2 : fieldOf Tryz.prog 201 2 = some (2, 3) := by kernel_rfl
@[go_sem] theorem fd_201_3 : fieldOf Tryz.prog 201 3 = some (3, 3) := by kernel_rfl
@[go_sem] theorem fd_201_4 : fieldOf Tryz.prog 201 4 = some (4, 3) := by kernel_rfl
@[go_sem] theorem el_201 : Go.PA.elemOf Tryz.prog 201 = none := by kernel_rfl
@[go_sem] theorem ar_201 : arrOf Tryz.prog 201 = none := by kernel_rfl
@[go_sem] theorem fk_201 : fieldsKnown Tryz.prog 201 = true := by kernel_rfl
@[go_sem] theorem sg_201 : sigOf Tryz.prog 201 = some [.int, .int, .int, .int, .int] := by kernel_rfl
@[go_sem] theorem ze_201 : zeros Tryz.prog 201 = some [.sc (.int .i64 0), .sc (.int .i64 0), .sc (.int .i64 0), .sc (.int .i64 0), .sc (.int .i64 0)] := by kernel_rfl
@[go_sem] theorem by_201 : bytesOf Tryz.prog 201 = 40 := by kernel_rfl
@[go_sem] theorem sz_202 : szOf Tryz.prog 202 = 5 := by kernel_rfl
@[go_sem] theorem kn_202 : knownT Tryz.prog 202 = true := by kernel_rfl
@[go_sem] theorem ag_202 : aggOf Tryz.prog 202 = true := by kernel_rfl
@[go_sem] theorem us_202 : (Tryz.prog.underlying 202).isSome = true := by kernel_rfl
@[go_sem] theorem fd_202_0 : fieldOf Tryz.prog 202 0 = some (0, 3) := by kernel_rfl
@[go_sem] theorem fd_202_1 : fieldOf Tryz.prog 202 1 = some (1, 3) := by kernel_rfl
@[go_sem] theorem fd_202_2 : fieldOf Tryz.prog 202 2 = some (2, 3) := by kernel_rfl
@[go_sem] theorem fd_202_3 : fieldOf Tryz.prog 202 3 = some (3, 3) := by kernel_rfl
@[go_sem] theorem fd_202_4 : fieldOf Tryz.prog 202 4 = some (4, 3) := by kernel_rfl
@[go_sem] theorem el_202 : Go.PA.elemOf Tryz.prog 202 = none := by kernel_rfl
@[go_sem] theorem ar_202 : arrOf Tryz.prog 202 = none := by kernel_rfl
@[go_sem] theorem fk_202 : fieldsKnown Tryz.prog 202 = true := by kernel_rfl
@[go_sem] theorem sg_202 : sigOf Tryz.prog 202 = some [.int, .int, .int, .int, .int] := by kernel_rfl
@[go_sem] theorem ze_202 : zeros Tryz.prog 202 = some [.sc (.int .i64 0), .sc (.int .i64 0), .sc (.int .i64 0), .sc (.int .i64 0), .sc (.int .i64 0)] := by kernel_rfl
@[go_sem] theorem by_202 : bytesOf Tryz.prog 202 = 40 := by kernel_rfl
@[go_sem] theorem sz_204 : szOf Tryz.prog 204 = 3 := by kernel_rfl
@[go_sem] theorem kn_204 : knownT Tryz.prog 204 = true := by kernel_rfl
@[go_sem] theorem ag_204 : aggOf Tryz.prog 204 = true := by kernel_rfl
@[go_sem] theorem us_204 : (Tryz.prog.underlying 204).isSome = true := by kernel_rfl
@[go_sem] theorem fd_204_0 : fieldOf Tryz.prog 204 0 = some (0, 3) := by kernel_rfl
@[go_sem] theorem fd_204_1 : fieldOf Tryz.prog 204 1 = some (1, 3) := by kernel_rfl
@[go_sem] theorem fd_204_2 : fieldOf Tryz.prog 204 2 = some (2, 105) := by kernel_rfl
@[go_sem] theorem el_204 : Go.PA.elemOf Tryz.prog 204 = none := by kernel_rfl
@[go_sem] theorem ar_204 : arrOf Tryz.prog 204 = none := by kernel_rfl
@[go_sem] theorem fk_204 : fieldsKnown Tryz.prog 204 = true := by kernel_rfl
@[go_sem] theorem ze_204 : zeros Tryz.prog 204 = some [.sc (.int .i64 0), .sc (.int .i64 0), .nil] := by kernel_rfl
@[go_sem] theorem by_204 : bytesOf Tryz.prog 204 = 40 := by kernel_rfl
@[go_sem] theorem sz_205 : szOf Tryz.prog 205 = 3 := by kernel_rfl
@[go_sem] theorem kn_205 : knownT Tryz.prog 205 = true := by kernel_rfl
@[go_sem] theorem ag_205 : aggOf Tryz.prog 205 = true := by kernel_rfl
@[go_sem] theorem us_205 : (Tryz.prog.underlying 205).isSome = true := by kernel_rfl
@[go_sem] theorem fd_205_0 : fieldOf Tryz.prog 205 0 = some (0, 3) := by kernel_rfl
@[go_sem] theorem fd_205_1 : fieldOf Tryz.prog 205 1 = some (1, 3) := by kernel_rfl
@[go_sem] theorem fd_205_2 : fieldOf Tryz.prog 205 2 = some (2, 105) := by kernel_rfl
@[go_sem] theorem el_205 : Go.PA.elemOf Tryz.prog 205 = none := by kernel_rfl
@[go_sem] theorem ar_205 : arrOf Tryz.prog 205 = none := by kernel_rfl
@[go_sem] theorem fk_205 : fieldsKnown Tryz.prog 205 = true := by kernel_rfl
@[go_sem] theorem ze_205 : zeros Tryz.prog 205 = some [.sc (.int .i64 0), .sc (.int .i64 0), .nil] := by kernel_rfl
@[go_sem] theorem by_205 : bytesOf Tryz.prog 205 = 40 := by kernel_rfl
@[go_sem] theorem sz_207 : szOf Tryz.prog 207 = 7 := by kernel_rfl
@[go_sem] theorem kn_207 : knownT Tryz.prog 207 = true := by kernel_rfl
@[go_sem] theorem ag_207 : aggOf Tryz.prog 207 = true := by kernel_rfl
@[go_sem] theorem us_207 : (Tryz.prog.underlying 207).isSome = true := by kernel_rfl
@[go_sem] theorem fd_207_0 : fieldOf Tryz.prog 207 0 = some (0, 202) := by kernel_rfl
@[go_sem] theorem fd_207_1 : fieldOf Tryz.prog 207 1 = some (5, 3) := by kernel_rfl
@[go_sem] theorem fd_207_2 : fieldOf Tryz.prog 207 2 = some (6, 3) := by kernel_rfl
@[go_sem] theorem el_207 : Go.PA.elemOf Tryz.prog 207 = none := by kernel_rfl
@[go_sem] theorem ar_207 : arrOf Tryz.prog 207 = none := by kernel_rfl
@[go_sem] theorem fk_207 : fieldsKnown Tryz.prog 207 = true := by kernel_rfl
@[go_sem] theorem sg_207 : sigOf Tryz.prog 207 = some [.int, .int, .int, .int, .int, .int, .int] := by kernel_rfl
@[go_sem] theorem ze_207 : zeros Tryz.prog 207 = some [.sc (.int .i64 0), .sc (.int .i64 0), .sc (.int .i64 0), .sc (.int .i64 0), .sc (.int .i64 0), .sc (.int .i64 0), .sc (.int .i64 0)] := by kernel_rfl
@[go_sem] theorem by_207 : bytesOf Tryz.prog 207 = 56 := by kernel_rfl
@[go_sem] theorem sz_208 : szOf Tryz.prog 208 = 7 := by kernel_rfl
@[go_sem] theorem kn_208 : knownT Tryz.prog 208 = true := by kernel_rfl
@[go_sem] theorem ag_208 : aggOf Tryz.prog 208 = true := by kernel_rfl
@[go_sem] theorem us_208 : (Tryz.prog.underlying 208).isSome = true := by kernel_rfl
@[go_sem] theorem fd_208_0 : fieldOf Tryz.prog 208 0 = some (0, 202) := by kernel_rfl
@[go_sem] theorem fd_208_1 : fieldOf Tryz.prog 208 1 = some (5, 3) := by kernel_rfl
@[go_sem] theorem fd_208_2 : fieldOf Tryz.prog 208 2 = some (6, 3) := by kernel_rfl
@[go_sem] theorem el_208 : Go.PA.elemOf Tryz.prog 208 = none := by kernel_rfl
@[go_sem] theorem ar_208 : arrOf Tryz.prog 208 = none := by kernel_rfl
@[go_sem] theorem fk_208 : fieldsKnown Tryz.prog 208 = true := by kernel_rfl
@[go_sem] theorem sg_208 : sigOf Tryz.prog 208 = some [.int, .int, .int, .int, .int, .int, .int] := by kernel_rfl
@[go_sem] theorem ze_208 : zeros Tryz.prog 208 = some [.sc (.int .i64 0), .sc (.int .i64 0), .sc (.int .i64 0), .sc (.int .i64 0), .sc (.int .i64 0), .sc (.int .i64 0), .sc (.int .i64 0)] := by kernel_rfl
@[go_sem] theorem by_208 : bytesOf Tryz.prog 208 = 56 := by kernel_rfl
@[go_sem] theorem sz_209 : szOf Tryz.prog 209 = 1 := by kernel_rfl
@[go_sem] theorem kn_209 : knownT Tryz.prog 209 = true := by kernel_rfl
@[go_sem] theorem ag_209 : aggOf Tryz.prog 209 = false := by kernel_rfl
@[go_sem] theorem us_209 : (Tryz.prog.underlying 209).isSome = true := by kernel_rfl
@[go_sem] theorem ze_209 : zeros Tryz.prog 209 = some [.sc (.pointer none)] := by kernel_rfl
@[go_sem] theorem by_209 : bytesOf Tryz.prog 209 = 8 := by kernel_rfl
@[go_sem] theorem sz_211 : szOf Tryz.prog 211 = 6 := by kernel_rfl
@[go_sem] theorem kn_211 : knownT Tryz.prog 211 = true := by kernel_rfl
@[go_sem] theorem ag_211 : aggOf Tryz.prog 211 = true := by kernel_rfl
@[go_sem] theorem us_211 : (Tryz.prog.underlying 211).isSome = true := by kernel_rfl
@[go_sem] theorem fd_211_0 : fieldOf Tryz.prog 211 0 = some (0, 3) := by kernel_rfl
@[go_sem] theorem fd_211_1 : fieldOf Tryz.prog 211 1 = some (1, 3) := by kernel_rfl
@[go_sem] theorem fd_211_2 : fieldOf Tryz.prog 211 2 = some (2, 3) := by kernel_rfl
@[go_sem] theorem fd_211_3 : fieldOf Tryz.prog 211 3 = some (3, 3) := by kernel_rfl
@[go_sem] theorem fd_211_4 : fieldOf Tryz.prog 211 4 = some (4, 3) := by kernel_rfl
@[go_sem] theorem fd_211_5 : fieldOf Tryz.prog 211 5 = some (5, 9) := by kernel_rfl
@[go_sem] theorem el_211 : Go.PA.elemOf Tryz.prog 211 = none := by kernel_rfl
@[go_sem] theorem ar_211 : arrOf Tryz.prog 211 = none := by kernel_rfl
@[go_sem] theorem fk_211 : fieldsKnown Tryz.prog 211 = true := by kernel_rfl
@[go_sem] theorem sg_211 : sigOf Tryz.prog 211 = some [.int, .int, .int, .int, .int, .str] := by kernel_rfl
@[go_sem] theorem ze_211 : zeros Tryz.prog 211 = some [.sc (.int .i64 0), .sc (.int .i64 0), .sc (.int .i64 0), .sc (.int .i64 0), .sc (.int .i64 0), .sc (.string ByteArray.empty)] := by kernel_rfl
@[go_sem] theorem by_211 : bytesOf Tryz.prog 211 = 56 := by kernel_rfl
@[go_sem] theorem sz_212 : szOf Tryz.prog 212 = 6 := by kernel_rfl
@[go_sem] theorem kn_212 : knownT Tryz.prog 212 = true := by kernel_rfl
@[go_sem] theorem ag_212 : aggOf Tryz.prog 212 = true := by kernel_rfl
@[go_sem] theorem us_212 : (Tryz.prog.underlying 212).isSome = true := by kernel_rfl
@[go_sem] theorem fd_212_0 : fieldOf Tryz.prog 212 0 = some (0, 3) := by kernel_rfl
@[go_sem] theorem fd_212_1 : fieldOf Tryz.prog 212 1 = some (1, 3) := by kernel_rfl
@[go_sem] theorem fd_212_2 : fieldOf Tryz.prog 212 2 = some (2, 3) := by kernel_rfl
@[go_sem] theorem fd_212_3 : fieldOf Tryz.prog 212 3 = some (3, 3) := by kernel_rfl
@[go_sem] theorem fd_212_4 : fieldOf Tryz.prog 212 4 = some (4, 3) := by kernel_rfl
@[go_sem] theorem fd_212_5 : fieldOf Tryz.prog 212 5 = some (5, 9) := by kernel_rfl
@[go_sem] theorem el_212 : Go.PA.elemOf Tryz.prog 212 = none := by kernel_rfl
@[go_sem] theorem ar_212 : arrOf Tryz.prog 212 = none := by kernel_rfl
@[go_sem] theorem fk_212 : fieldsKnown Tryz.prog 212 = true := by kernel_rfl
@[go_sem] theorem sg_212 : sigOf Tryz.prog 212 = some [.int, .int, .int, .int, .int, .str] := by kernel_rfl
@[go_sem] theorem ze_212 : zeros Tryz.prog 212 = some [.sc (.int .i64 0), .sc (.int .i64 0), .sc (.int .i64 0), .sc (.int .i64 0), .sc (.int .i64 0), .sc (.string ByteArray.empty)] := by kernel_rfl
@[go_sem] theorem by_212 : bytesOf Tryz.prog 212 = 56 := by kernel_rfl
@[go_sem] theorem sz_214 : szOf Tryz.prog 214 = 5 := by kernel_rfl
@[go_sem] theorem kn_214 : knownT Tryz.prog 214 = true := by kernel_rfl
@[go_sem] theorem ag_214 : aggOf Tryz.prog 214 = true := by kernel_rfl
@[go_sem] theorem us_214 : (Tryz.prog.underlying 214).isSome = true := by kernel_rfl
@[go_sem] theorem fd_214_0 : fieldOf Tryz.prog 214 0 = some (0, 3) := by kernel_rfl
@[go_sem] theorem fd_214_1 : fieldOf Tryz.prog 214 1 = some (1, 3) := by kernel_rfl
@[go_sem] theorem fd_214_2 : fieldOf Tryz.prog 214 2 = some (2, 3) := by kernel_rfl
@[go_sem] theorem fd_214_3 : fieldOf Tryz.prog 214 3 = some (3, 3) := by kernel_rfl
@[go_sem] theorem fd_214_4 : fieldOf Tryz.prog 214 4 = some (4, 3) := by kernel_rfl
@[go_sem] theorem el_214 : Go.PA.elemOf Tryz.prog 214 = none := by kernel_rfl
@[go_sem] theorem ar_214 : arrOf Tryz.prog 214 = none := by kernel_rfl
@[go_sem] theorem fk_214 : fieldsKnown Tryz.prog 214 = true := by kernel_rfl
@[go_sem] theorem sg_214 : sigOf Tryz.prog 214 = some [.int, .int, .int, .int, .int] := by kernel_rfl
@[go_sem] theorem ze_214 : zeros Tryz.prog 214 = some [.sc (.int .i64 0), .sc (.int .i64 0), .sc (.int .i64 0), .sc (.int .i64 0), .sc (.int .i64 0)] := by kernel_rfl
@[go_sem] theorem by_214 : bytesOf Tryz.prog 214 = 40 := by kernel_rfl
@[go_sem] theorem sz_215 : szOf Tryz.prog 215 = 5 := by kernel_rfl
@[go_sem] theorem kn_215 : knownT Tryz.prog 215 = true := by kernel_rfl
@[go_sem] theorem ag_215 : aggOf Tryz.prog 215 = true := by kernel_rfl
@[go_sem] theorem us_215 : (Tryz.prog.underlying 215).isSome = true := by kernel_rfl
@[go_sem] theorem fd_215_0 : fieldOf Tryz.prog 215 0 = some (0, 3) := by kernel_rfl
@[go_sem] theorem fd_215_1 : fieldOf Tryz.prog 215 1 = some (1, 3) := by kernel_rfl
@[go_sem] theorem fd_215_2 : fieldOf Tryz.prog 215 2 = some (2, 3) := by kernel_rfl
@[go_sem] theorem fd_215_3 : fieldOf Tryz.prog 215 3 = some (3, 3) := by kernel_rfl
@[go_sem] theorem fd_215_4 : fieldOf Tryz.prog 215 4 = some (4, 3) := by kernel_rfl
@[go_sem] theorem el_215 : Go.PA.elemOf Tryz.prog 215 = none := by kernel_rfl
@[go_sem] theorem ar_215 : arrOf Tryz.prog 215 = none := by kernel_rfl
@[go_sem] theorem fk_215 : fieldsKnown Tryz.prog 215 = true := by kernel_rfl
@[go_sem] theorem sg_215 : sigOf Tryz.prog 215 = some [.int, .int, .int, .int, .int] := by kernel_rfl
@[go_sem] theorem ze_215 : zeros Tryz.prog 215 = some [.sc (.int .i64 0), .sc (.int .i64 0), .sc (.int .i64 0), .sc (.int .i64 0), .sc (.int .i64 0)] := by kernel_rfl
@[go_sem] theorem by_215 : bytesOf Tryz.prog 215 = 40 := by kernel_rfl
@[go_sem] theorem sz_217 : szOf Tryz.prog 217 = 3 := by kernel_rfl
@[go_sem] theorem kn_217 : knownT Tryz.prog 217 = true := by kernel_rfl
@[go_sem] theorem ag_217 : aggOf Tryz.prog 217 = true := by kernel_rfl
@[go_sem] theorem us_217 : (Tryz.prog.underlying 217).isSome = true := by kernel_rfl
@[go_sem] theorem fd_217_0 : fieldOf Tryz.prog 217 0 = some (0, 3) := by kernel_rfl
@[go_sem] theorem fd_217_1 : fieldOf Tryz.prog 217 1 = some (1, 3) := by kernel_rfl
@[go_sem] theorem fd_217_2 : fieldOf Tryz.prog 217 2 = some (2, 3) := by kernel_rfl
@[go_sem] theorem el_217 : Go.PA.elemOf Tryz.prog 217 = none := by kernel_rfl
@[go_sem] theorem ar_217 : arrOf Tryz.prog 217 = none := by kernel_rfl
@[go_sem] theorem fk_217 : fieldsKnown Tryz.prog 217 = true := by kernel_rfl
@[go_sem] theorem sg_217 : sigOf Tryz.prog 217 = some [.int, .int, .int] := by kernel_rfl
@[go_sem] theorem ze_217 : zeros Tryz.prog 217 = some [.sc (.int .i64 0), .sc (.int .i64 0), .sc (.int .i64 0)] := by kernel_rfl
@[go_sem] theorem by_217 : bytesOf Tryz.prog 217 = 24 := by kernel_rfl
@[go_sem] theorem sz_218 : szOf Tryz.prog 218 = 3 := by kernel_rfl
@[go_sem] theorem kn_218 : knownT Tryz.prog 218 = true := by kernel_rfl
@[go_sem] theorem ag_218 : aggOf Tryz.prog 218 = true := by kernel_rfl
@[go_sem] theorem us_218 : (Tryz.prog.underlying 218).isSome = true := by kernel_rfl
@[go_sem] theorem fd_218_0 : fieldOf Tryz.prog 218 0 = some (0, 3) := by kernel_rfl
@[go_sem] theorem fd_218_1 : fieldOf Tryz.prog 218 1 = some (1, 3) := by kernel_rfl
@[go_sem] theorem fd_218_2 : fieldOf Tryz.prog 218 2 = some (2, 3) := by kernel_rfl
@[go_sem] theorem el_218 : Go.PA.elemOf Tryz.prog 218 = none := by kernel_rfl
@[go_sem] theorem ar_218 : arrOf Tryz.prog 218 = none := by kernel_rfl
@[go_sem] theorem fk_218 : fieldsKnown Tryz.prog 218 = true := by kernel_rfl
@[go_sem] theorem sg_218 : sigOf Tryz.prog 218 = some [.int, .int, .int] := by kernel_rfl
@[go_sem] theorem ze_218 : zeros Tryz.prog 218 = some [.sc (.int .i64 0), .sc (.int .i64 0), .sc (.int .i64 0)] := by kernel_rfl
@[go_sem] theorem by_218 : bytesOf Tryz.prog 218 = 24 := by kernel_rfl
@[go_sem] theorem sz_220 : szOf Tryz.prog 220 = 8 := by kernel_rfl
@[go_sem] theorem kn_220 : knownT Tryz.prog 220 = true := by kernel_rfl
@[go_sem] theorem ag_220 : aggOf Tryz.prog 220 = true := by kernel_rfl
@[go_sem] theorem us_220 : (Tryz.prog.underlying 220).isSome = true := by kernel_rfl
@[go_sem] theorem fd_220_0 : fieldOf Tryz.prog 220 0 = some (0, 3) := by kernel_rfl
@[go_sem] theorem fd_220_1 : fieldOf Tryz.prog 220 1 = some (1, 3) := by kernel_rfl
@[go_sem] theorem fd_220_2 : fieldOf Tryz.prog 220 2 = some (2, 3) := by kernel_rfl
@[go_sem] theorem fd_220_3 : fieldOf Tryz.prog 220 3 = some (3, 3) := by kernel_rfl
@[go_sem] theorem fd_220_4 : fieldOf Tryz.prog 220 4 = some (4, 3) := by kernel_rfl
@[go_sem] theorem fd_220_5 : fieldOf Tryz.prog 220 5 = some (5, 3) := by kernel_rfl
@[go_sem] theorem fd_220_6 : fieldOf Tryz.prog 220 6 = some (6, 3) := by kernel_rfl
@[go_sem] theorem fd_220_7 : fieldOf Tryz.prog 220 7 = some (7, 3) := by kernel_rfl
@[go_sem] theorem el_220 : Go.PA.elemOf Tryz.prog 220 = none := by kernel_rfl
@[go_sem] theorem ar_220 : arrOf Tryz.prog 220 = none := by kernel_rfl
@[go_sem] theorem fk_220 : fieldsKnown Tryz.prog 220 = true := by kernel_rfl
@[go_sem] theorem sg_220 : sigOf Tryz.prog 220 = some [.int, .int, .int, .int, .int, .int, .int, .int] := by kernel_rfl
@[go_sem] theorem ze_220 : zeros Tryz.prog 220 = some [.sc (.int .i64 0), .sc (.int .i64 0), .sc (.int .i64 0), .sc (.int .i64 0), .sc (.int .i64 0), .sc (.int .i64 0), .sc (.int .i64 0), .sc (.int .i64 0)] := by kernel_rfl
@[go_sem] theorem by_220 : bytesOf Tryz.prog 220 = 64 := by kernel_rfl
@[go_sem] theorem sz_221 : szOf Tryz.prog 221 = 8 := by kernel_rfl
@[go_sem] theorem kn_221 : knownT Tryz.prog 221 = true := by kernel_rfl
@[go_sem] theorem ag_221 : aggOf Tryz.prog 221 = true := by kernel_rfl
@[go_sem] theorem us_221 : (Tryz.prog.underlying 221).isSome = true := by kernel_rfl
@[go_sem] theorem fd_221_0 : fieldOf Tryz.prog 221 0 = some (0, 3) := by kernel_rfl
@[go_sem] theorem fd_221_1 : fieldOf Tryz.prog 221 1 = some (1, 3) := by kernel_rfl
@[go_sem] theorem fd_221_2 : fieldOf Tryz.prog 221 2 = some (2, 3) := by kernel_rfl
@[go_sem] theorem fd_221_3 : fieldOf Tryz.prog 221 3 = some (3, 3) := by kernel_rfl
@[go_sem] theorem fd_221_4 : fieldOf Tryz.prog 221 4 = some (4, 3) := by kernel_rfl
@[go_sem] theorem fd_221_5 : fieldOf Tryz.prog 221 5 = some (5, 3) := by kernel_rfl
@[go_sem] theorem fd_221_6 : fieldOf Tryz.prog 221 6 = some (6, 3) := by kernel_rfl
@[go_sem] theorem fd_221_7 : fieldOf Tryz.prog 221 7 = some (7, 3) := by kernel_rfl
@[go_sem] theorem el_221 : Go.PA.elemOf Tryz.prog 221 = none := by kernel_rfl
@[go_sem] theorem ar_221 : arrOf Tryz.prog 221 = none := by kernel_rfl
@[go_sem] theorem fk_221 : fieldsKnown Tryz.prog 221 = true := by kernel_rfl
@[go_sem] theorem sg_221 : sigOf Tryz.prog 221 = some [.int, .int, .int, .int, .int, .int, .int, .int] := by kernel_rfl
@[go_sem] theorem ze_221 : zeros Tryz.prog 221 = some [.sc (.int .i64 0), .sc (.int .i64 0), .sc (.int .i64 0), .sc (.int .i64 0), .sc (.int .i64 0), .sc (.int .i64 0), .sc (.int .i64 0), .sc (.int .i64 0)] := by kernel_rfl
@[go_sem] theorem by_221 : bytesOf Tryz.prog 221 = 64 := by kernel_rfl
@[go_sem] theorem sz_222 : szOf Tryz.prog 222 = 1 := by kernel_rfl
@[go_sem] theorem kn_222 : knownT Tryz.prog 222 = true := by kernel_rfl
@[go_sem] theorem ag_222 : aggOf Tryz.prog 222 = false := by kernel_rfl
@[go_sem] theorem us_222 : (Tryz.prog.underlying 222).isSome = true := by kernel_rfl
@[go_sem] theorem ze_222 : zeros Tryz.prog 222 = some [.sc (.pointer none)] := by kernel_rfl
@[go_sem] theorem by_222 : bytesOf Tryz.prog 222 = 8 := by kernel_rfl
@[go_sem] theorem sz_223 : szOf Tryz.prog 223 = 16 := by kernel_rfl
@[go_sem] theorem kn_223 : knownT Tryz.prog 223 = true := by kernel_rfl
@[go_sem] theorem ag_223 : aggOf Tryz.prog 223 = true := by kernel_rfl
@[go_sem] theorem us_223 : (Tryz.prog.underlying 223).isSome = true := by kernel_rfl
@[go_sem] theorem fd_223_0 : fieldOf Tryz.prog 223 0 = some (0, 121) := by kernel_rfl
@[go_sem] theorem fd_223_1 : fieldOf Tryz.prog 223 1 = some (15, 3) := by kernel_rfl
@[go_sem] theorem el_223 : Go.PA.elemOf Tryz.prog 223 = none := by kernel_rfl
@[go_sem] theorem ar_223 : arrOf Tryz.prog 223 = none := by kernel_rfl
@[go_sem] theorem fk_223 : fieldsKnown Tryz.prog 223 = true := by kernel_rfl
@[go_sem] theorem ze_223 : zeros Tryz.prog 223 = some [.sc (.int .i64 0), .nil, .nil, .nil, .nil, .nil, .nil, .nil, .nil, .nil, .nil, .nil, .nil, .nil, .nil, .sc (.int .i64 0)] := by kernel_rfl
@[go_sem] theorem by_223 : bytesOf Tryz.prog 223 = 352 := by kernel_rfl
@[go_sem] theorem sz_224 : szOf Tryz.prog 224 = 16 := by kernel_rfl
@[go_sem] theorem kn_224 : knownT Tryz.prog 224 = true := by kernel_rfl
@[go_sem] theorem ag_224 : aggOf Tryz.prog 224 = true := by kernel_rfl
@[go_sem] theorem us_224 : (Tryz.prog.underlying 224).isSome = true := by kernel_rfl
@[go_sem] theorem fd_224_0 : fieldOf Tryz.prog 224 0 = some (0, 121) := by kernel_rfl
@[go_sem] theorem fd_224_1 : fieldOf Tryz.prog 224 1 = some (15, 3) := by kernel_rfl
@[go_sem] theorem el_224 : Go.PA.elemOf Tryz.prog 224 = none := by kernel_rfl
@[go_sem] theorem ar_224 : arrOf Tryz.prog 224 = none := by kernel_rfl
@[go_sem] theorem fk_224 : fieldsKnown Tryz.prog 224 = true := by kernel_rfl
@[go_sem] theorem ze_224 : zeros Tryz.prog 224 = some [.sc (.int .i64 0), .nil, .nil, .nil, .nil, .nil, .nil, .nil, .nil, .nil, .nil, .nil, .nil, .nil, .nil, .sc (.int .i64 0)] := by kernel_rfl
@[go_sem] theorem by_224 : bytesOf Tryz.prog 224 = 352 := by kernel_rfl
@[go_sem] theorem sz_228 : szOf Tryz.prog 228 = 1 := by kernel_rfl
@[go_sem] theorem kn_228 : knownT Tryz.prog 228 = true := by kernel_rfl
@[go_sem] theorem ag_228 : aggOf Tryz.prog 228 = false := by kernel_rfl
@[go_sem] theorem us_228 : (Tryz.prog.underlying 228).isSome = true := by kernel_rfl
@[go_sem] theorem ze_228 : zeros Tryz.prog 228 = some [.sc (.pointer none)] := by kernel_rfl
@[go_sem] theorem by_228 : bytesOf Tryz.prog 228 = 8 := by kernel_rfl
@[go_sem] theorem sz_233 : szOf Tryz.prog 233 = 4 := by kernel_rfl
@[go_sem] theorem kn_233 : knownT Tryz.prog 233 = true := by kernel_rfl
@[go_sem] theorem ag_233 : aggOf Tryz.prog 233 = true := by kernel_rfl
@[go_sem] theorem us_233 : (Tryz.prog.underlying 233).isSome = true := by kernel_rfl
@[go_sem] theorem fd_233_0 : fieldOf Tryz.prog 233 0 = some (0, 3) := by kernel_rfl
@[go_sem] theorem fd_233_1 : fieldOf Tryz.prog 233 1 = some (1, 3) := by kernel_rfl
@[go_sem] theorem fd_233_2 : fieldOf Tryz.prog 233 2 = some (2, 3) := by kernel_rfl
@[go_sem] theorem fd_233_3 : fieldOf Tryz.prog 233 3 = some (3, 101) := by kernel_rfl
@[go_sem] theorem el_233 : Go.PA.elemOf Tryz.prog 233 = none := by kernel_rfl
@[go_sem] theorem ar_233 : arrOf Tryz.prog 233 = none := by kernel_rfl
@[go_sem] theorem fk_233 : fieldsKnown Tryz.prog 233 = true := by kernel_rfl
@[go_sem] theorem ze_233 : zeros Tryz.prog 233 = some [.sc (.int .i64 0), .sc (.int .i64 0), .sc (.int .i64 0), .nil] := by kernel_rfl
@[go_sem] theorem by_233 : bytesOf Tryz.prog 233 = 48 := by kernel_rfl
@[go_sem] theorem sz_234 : szOf Tryz.prog 234 = 4 := by kernel_rfl
@[go_sem] theorem kn_234 : knownT Tryz.prog 234 = true := by kernel_rfl
@[go_sem] theorem ag_234 : aggOf Tryz.prog 234 = true := by kernel_rfl
@[go_sem] theorem us_234 : (Tryz.prog.underlying 234).isSome = true := by kernel_rfl
@[go_sem] theorem fd_234_0 : fieldOf Tryz.prog 234 0 = some (0, 3) := by kernel_rfl
@[go_sem] theorem fd_234_1 : fieldOf Tryz.prog 234 1 = some (1, 3) := by kernel_rfl
@[go_sem] theorem fd_234_2 : fieldOf Tryz.prog 234 2 = some (2, 3) := by kernel_rfl
@[go_sem] theorem fd_234_3 : fieldOf Tryz.prog 234 3 = some (3, 101) := by kernel_rfl
@[go_sem] theorem el_234 : Go.PA.elemOf Tryz.prog 234 = none := by kernel_rfl
@[go_sem] theorem ar_234 : arrOf Tryz.prog 234 = none := by kernel_rfl
@[go_sem] theorem fk_234 : fieldsKnown Tryz.prog 234 = true := by kernel_rfl
@[go_sem] theorem ze_234 : zeros Tryz.prog 234 = some [.sc (.int .i64 0), .sc (.int .i64 0), .sc (.int .i64 0), .nil] := by kernel_rfl
@[go_sem] theorem by_234 : bytesOf Tryz.prog 234 = 48 := by kernel_rfl
@[go_sem] theorem sz_239 : szOf Tryz.prog 239 = 2 := by kernel_rfl
@[go_sem] theorem kn_239 : knownT Tryz.prog 239 = true := by kernel_rfl
@[go_sem] theorem ag_239 : aggOf Tryz.prog 239 = true := by kernel_rfl
@[go_sem] theorem us_239 : (Tryz.prog.underlying 239).isSome = true := by kernel_rfl
@[go_sem] theorem fd_239_0 : fieldOf Tryz.prog 239 0 = some (0, 3) := by kernel_rfl
@[go_sem] theorem fd_239_1 : fieldOf Tryz.prog 239 1 = some (1, 3) := by kernel_rfl
@[go_sem] theorem el_239 : Go.PA.elemOf Tryz.prog 239 = none := by kernel_rfl
@[go_sem] theorem ar_239 : arrOf Tryz.prog 239 = none := by kernel_rfl
@[go_sem] theorem fk_239 : fieldsKnown Tryz.prog 239 = true := by kernel_rfl
@[go_sem] theorem sg_239 : sigOf Tryz.prog 239 = some [.int, .int] := by kernel_rfl
@[go_sem] theorem ze_239 : zeros Tryz.prog 239 = some [.sc (.int .i64 0), .sc (.int .i64 0)] := by kernel_rfl
@[go_sem] theorem by_239 : bytesOf Tryz.prog 239 = 16 := by kernel_rfl
@[go_sem] theorem sz_240 : szOf Tryz.prog 240 = 2 := by kernel_rfl
@[go_sem] theorem kn_240 : knownT Tryz.prog 240 = true := by kernel_rfl
@[go_sem] theorem ag_240 : aggOf Tryz.prog 240 = true := by kernel_rfl
@[go_sem] theorem us_240 : (Tryz.prog.underlying 240).isSome = true := by kernel_rfl
@[go_sem] theorem fd_240_0 : fieldOf Tryz.prog 240 0 = some (0, 3) := by kernel_rfl
@[go_sem] theorem fd_240_1 : fieldOf Tryz.prog 240 1 = some (1, 3) := by kernel_rfl
@[go_sem] theorem el_240 : Go.PA.elemOf Tryz.prog 240 = none := by kernel_rfl
@[go_sem] theorem ar_240 : arrOf Tryz.prog 240 = none := by kernel_rfl
@[go_sem] theorem fk_240 : fieldsKnown Tryz.prog 240 = true := by kernel_rfl
@[go_sem] theorem sg_240 : sigOf Tryz.prog 240 = some [.int, .int] := by kernel_rfl
@[go_sem] theorem ze_240 : zeros Tryz.prog 240 = some [.sc (.int .i64 0), .sc (.int .i64 0)] := by kernel_rfl
@[go_sem] theorem by_240 : bytesOf Tryz.prog 240 = 16 := by kernel_rfl
@[go_sem] theorem sz_265 : szOf Tryz.prog 265 = 2 := by kernel_rfl
@[go_sem] theorem kn_265 : knownT Tryz.prog 265 = true := by kernel_rfl
@[go_sem] theorem ag_265 : aggOf Tryz.prog 265 = true := by kernel_rfl
@[go_sem] theorem us_265 : (Tryz.prog.underlying 265).isSome = true := by kernel_rfl
@[go_sem] theorem fd_265_0 : fieldOf Tryz.prog 265 0 = some (0, 3) := by kernel_rfl
@[go_sem] theorem fd_265_1 : fieldOf Tryz.prog 265 1 = some (1, 34) := by kernel_rfl
@[go_sem] theorem el_265 : Go.PA.elemOf Tryz.prog 265 = none := by kernel_rfl
@[go_sem] theorem ar_265 : arrOf Tryz.prog 265 = none := by kernel_rfl
@[go_sem] theorem fk_265 : fieldsKnown Tryz.prog 265 = true := by kernel_rfl
@[go_sem] theorem sg_265 : sigOf Tryz.prog 265 = some [.int, .int] := by kernel_rfl
@[go_sem] theorem ze_265 : zeros Tryz.prog 265 = some [.sc (.int .i64 0), .sc (.int .i64 0)] := by kernel_rfl
@[go_sem] theorem by_265 : bytesOf Tryz.prog 265 = 16 := by kernel_rfl
@[go_sem] theorem sz_268 : szOf Tryz.prog 268 = 1 := by kernel_rfl
@[go_sem] theorem kn_268 : knownT Tryz.prog 268 = true := by kernel_rfl
@[go_sem] theorem ag_268 : aggOf Tryz.prog 268 = false := by kernel_rfl
@[go_sem] theorem us_268 : (Tryz.prog.underlying 268).isSome = true := by kernel_rfl
@[go_sem] theorem el_268 : Go.PA.elemOf Tryz.prog 268 = some 265 := by kernel_rfl
@[go_sem] theorem un_268 : Tryz.prog.underlying 268 = some (.slice 265) := by kernel_rfl
@[go_sem] theorem ze_268 : zeros Tryz.prog 268 = some [.nil] := by kernel_rfl
@[go_sem] theorem az_268 : azero1 Tryz.prog 268 = some (.nil) := by kernel_rfl
@[go_sem] theorem by_268 : bytesOf Tryz.prog 268 = 24 := by kernel_rfl
@[go_sem] theorem sz_289 : szOf Tryz.prog 289 = 1 := by kernel_rfl
@[go_sem] theorem kn_289 : knownT Tryz.prog 289 = true := by kernel_rfl
@[go_sem] theorem ag_289 : aggOf Tryz.prog 289 = false := by kernel_rfl
@[go_sem] theorem us_289 : (Tryz.prog.underlying 289).isSome = true := by kernel_rfl
@[go_sem] theorem ze_289 : zeros Tryz.prog 289 = some [.sc (.pointer none)] := by kernel_rfl
@[go_sem] theorem by_289 : bytesOf Tryz.prog 289 = 8 := by kernel_rfl
@[go_sem] theorem sz_290 : szOf Tryz.prog 290 = 1 := by kernel_rfl
@[go_sem] theorem kn_290 : knownT Tryz.prog 290 = true := by kernel_rfl
@[go_sem] theorem ag_290 : aggOf Tryz.prog 290 = false := by kernel_rfl
@[go_sem] theorem us_290 : (Tryz.prog.underlying 290).isSome = true := by kernel_rfl
@[go_sem] theorem ze_290 : zeros Tryz.prog 290 = some [.sc (.pointer none)] := by kernel_rfl
@[go_sem] theorem by_290 : bytesOf Tryz.prog 290 = 8 := by kernel_rfl
@[go_sem] theorem sz_322 : szOf Tryz.prog 322 = 1 := by kernel_rfl
@[go_sem] theorem kn_322 : knownT Tryz.prog 322 = true := by kernel_rfl
@[go_sem] theorem ag_322 : aggOf Tryz.prog 322 = false := by kernel_rfl
@[go_sem] theorem us_322 : (Tryz.prog.underlying 322).isSome = true := by kernel_rfl
@[go_sem] theorem ze_322 : zeros Tryz.prog 322 = some [.sc (.pointer none)] := by kernel_rfl
@[go_sem] theorem by_322 : bytesOf Tryz.prog 322 = 8 := by kernel_rfl
@[go_sem] theorem sz_338 : szOf Tryz.prog 338 = 1 := by kernel_rfl
@[go_sem] theorem kn_338 : knownT Tryz.prog 338 = true := by kernel_rfl
@[go_sem] theorem ag_338 : aggOf Tryz.prog 338 = false := by kernel_rfl
@[go_sem] theorem us_338 : (Tryz.prog.underlying 338).isSome = true := by kernel_rfl
@[go_sem] theorem mp_338 : mapOf Tryz.prog 338 = some (3, .int .i64, 4) := by kernel_rfl
@[go_sem] theorem mi_338 : IMap Tryz.prog 338 (.sc (.bool false)) := ⟨_, _, mp_338, by kernel_rfl⟩
@[go_sem] theorem im_338 : isMapT Tryz.prog 338 = true := by kernel_rfl
@[go_sem] theorem by_338 : bytesOf Tryz.prog 338 = 8 := by kernel_rfl
@[go_sem] theorem sz_340 : szOf Tryz.prog 340 = 3 := by kernel_rfl
@[go_sem] theorem kn_340 : knownT Tryz.prog 340 = true := by kernel_rfl
@[go_sem] theorem ag_340 : aggOf Tryz.prog 340 = true := by kernel_rfl
@[go_sem] theorem us_340 : (Tryz.prog.underlying 340).isSome = true := by kernel_rfl
@[go_sem] theorem fd_340_0 : fieldOf Tryz.prog 340 0 = some (0, 3) := by kernel_rfl
@[go_sem] theorem fd_340_1 : fieldOf Tryz.prog 340 1 = some (1, 3) := by kernel_rfl
@[go_sem] theorem fd_340_2 : fieldOf Tryz.prog 340 2 = some (2, 3) := by kernel_rfl
@[go_sem] theorem el_340 : Go.PA.elemOf Tryz.prog 340 = none := by kernel_rfl
@[go_sem] theorem ar_340 : arrOf Tryz.prog 340 = none := by kernel_rfl
@[go_sem] theorem fk_340 : fieldsKnown Tryz.prog 340 = true := by kernel_rfl
@[go_sem] theorem sg_340 : sigOf Tryz.prog 340 = some [.int, .int, .int] := by kernel_rfl
@[go_sem] theorem ze_340 : zeros Tryz.prog 340 = some [.sc (.int .i64 0), .sc (.int .i64 0), .sc (.int .i64 0)] := by kernel_rfl
@[go_sem] theorem by_340 : bytesOf Tryz.prog 340 = 24 := by kernel_rfl
@[go_sem] theorem sz_341 : szOf Tryz.prog 341 = 3 := by kernel_rfl
@[go_sem] theorem kn_341 : knownT Tryz.prog 341 = true := by kernel_rfl
@[go_sem] theorem ag_341 : aggOf Tryz.prog 341 = true := by kernel_rfl
@[go_sem] theorem us_341 : (Tryz.prog.underlying 341).isSome = true := by kernel_rfl
@[go_sem] theorem fd_341_0 : fieldOf Tryz.prog 341 0 = some (0, 3) := by kernel_rfl
@[go_sem] theorem fd_341_1 : fieldOf Tryz.prog 341 1 = some (1, 3) := by kernel_rfl
@[go_sem] theorem fd_341_2 : fieldOf Tryz.prog 341 2 = some (2, 3) := by kernel_rfl
@[go_sem] theorem el_341 : Go.PA.elemOf Tryz.prog 341 = none := by kernel_rfl
@[go_sem] theorem ar_341 : arrOf Tryz.prog 341 = none := by kernel_rfl
@[go_sem] theorem fk_341 : fieldsKnown Tryz.prog 341 = true := by kernel_rfl
@[go_sem] theorem sg_341 : sigOf Tryz.prog 341 = some [.int, .int, .int] := by kernel_rfl
@[go_sem] theorem ze_341 : zeros Tryz.prog 341 = some [.sc (.int .i64 0), .sc (.int .i64 0), .sc (.int .i64 0)] := by kernel_rfl
@[go_sem] theorem by_341 : bytesOf Tryz.prog 341 = 24 := by kernel_rfl
@[go_sem] theorem sz_368 : szOf Tryz.prog 368 = 1 := by kernel_rfl
@[go_sem] theorem kn_368 : knownT Tryz.prog 368 = true := by kernel_rfl
@[go_sem] theorem ag_368 : aggOf Tryz.prog 368 = false := by kernel_rfl
@[go_sem] theorem us_368 : (Tryz.prog.underlying 368).isSome = true := by kernel_rfl
@[go_sem] theorem el_368 : Go.PA.elemOf Tryz.prog 368 = some 5 := by kernel_rfl
@[go_sem] theorem un_368 : Tryz.prog.underlying 368 = some (.slice 5) := by kernel_rfl
@[go_sem] theorem ze_368 : zeros Tryz.prog 368 = some [.nil] := by kernel_rfl
@[go_sem] theorem az_368 : azero1 Tryz.prog 368 = some (.nil) := by kernel_rfl
@[go_sem] theorem by_368 : bytesOf Tryz.prog 368 = 24 := by kernel_rfl
@[go_sem] theorem sz_371 : szOf Tryz.prog 371 = 1 := by kernel_rfl
@[go_sem] theorem kn_371 : knownT Tryz.prog 371 = true := by kernel_rfl
@[go_sem] theorem ag_371 : aggOf Tryz.prog 371 = false := by kernel_rfl
@[go_sem] theorem us_371 : (Tryz.prog.underlying 371).isSome = true := by kernel_rfl
@[go_sem] theorem ze_371 : zeros Tryz.prog 371 = some [.sc (.pointer none)] := by kernel_rfl
@[go_sem] theorem by_371 : bytesOf Tryz.prog 371 = 8 := by kernel_rfl
@[go_sem] theorem sz_375 : szOf Tryz.prog 375 = 1 := by kernel_rfl
@[go_sem] theorem kn_375 : knownT Tryz.prog 375 = true := by kernel_rfl
@[go_sem] theorem ag_375 : aggOf Tryz.prog 375 = false := by kernel_rfl
@[go_sem] theorem us_375 : (Tryz.prog.underlying 375).isSome = true := by kernel_rfl
@[go_sem] theorem un_375 : Tryz.prog.underlying 375 = some (.int .u64) := by kernel_rfl
@[go_sem] theorem ze_375 : zeros Tryz.prog 375 = some [.sc (.int .u64 0)] := by kernel_rfl
@[go_sem] theorem az_375 : azero1 Tryz.prog 375 = some (.sc (.int .u64 0)) := by kernel_rfl
@[go_sem] theorem by_375 : bytesOf Tryz.prog 375 = 8 := by kernel_rfl
@[go_sem] theorem sz_379 : szOf Tryz.prog 379 = 3 := by kernel_rfl
@[go_sem] theorem kn_379 : knownT Tryz.prog 379 = true := by kernel_rfl
@[go_sem] theorem ag_379 : aggOf Tryz.prog 379 = true := by kernel_rfl
@[go_sem] theorem us_379 : (Tryz.prog.underlying 379).isSome = true := by kernel_rfl
@[go_sem] theorem fd_379_0 : fieldOf Tryz.prog 379 0 = some (0, 9) := by kernel_rfl
@[go_sem] theorem fd_379_1 : fieldOf Tryz.prog 379 1 = some (1, 9) := by kernel_rfl
@[go_sem] theorem fd_379_2 : fieldOf Tryz.prog 379 2 = some (2, 353) := by kernel_rfl
@[go_sem] theorem el_379 : Go.PA.elemOf Tryz.prog 379 = none := by kernel_rfl
@[go_sem] theorem ar_379 : arrOf Tryz.prog 379 = none := by kernel_rfl
@[go_sem] theorem fk_379 : fieldsKnown Tryz.prog 379 = true := by kernel_rfl
@[go_sem] theorem by_379 : bytesOf Tryz.prog 379 = 48 := by kernel_rfl
@[go_sem] theorem sz_380 : szOf Tryz.prog 380 = 3 := by kernel_rfl
@[go_sem] theorem kn_380 : knownT Tryz.prog 380 = true := by kernel_rfl
@[go_sem] theorem ag_380 : aggOf Tryz.prog 380 = true := by kernel_rfl
@[go_sem] theorem us_380 : (Tryz.prog.underlying 380).isSome = true := by kernel_rfl
@[go_sem] theorem fd_380_0 : fieldOf Tryz.prog 380 0 = some (0, 9) := by kernel_rfl
@[go_sem] theorem fd_380_1 : fieldOf Tryz.prog 380 1 = some (1, 9) := by kernel_rfl
@[go_sem] theorem fd_380_2 : fieldOf Tryz.prog 380 2 = some (2, 353) := by kernel_rfl
@[go_sem] theorem el_380 : Go.PA.elemOf Tryz.prog 380 = none := by kernel_rfl
@[go_sem] theorem ar_380 : arrOf Tryz.prog 380 = none := by kernel_rfl
@[go_sem] theorem fk_380 : fieldsKnown Tryz.prog 380 = true := by kernel_rfl
@[go_sem] theorem by_380 : bytesOf Tryz.prog 380 = 48 := by kernel_rfl
@[go_sem] theorem sz_382 : szOf Tryz.prog 382 = 24 := by kernel_rfl
@[go_sem] theorem kn_382 : knownT Tryz.prog 382 = true := by kernel_rfl
@[go_sem] theorem ag_382 : aggOf Tryz.prog 382 = true := by kernel_rfl
@[go_sem] theorem us_382 : (Tryz.prog.underlying 382).isSome = true := by kernel_rfl
@[go_sem] theorem el_382 : Go.PA.elemOf Tryz.prog 382 = none := by kernel_rfl
@[go_sem] theorem ar_382 : arrOf Tryz.prog 382 = some (24, 5) := by kernel_rfl
@[go_sem] theorem fk_382 : fieldsKnown Tryz.prog 382 = true := by kernel_rfl
@[go_sem] theorem fd_382_0 : fieldOf Tryz.prog 382 0 = none := by kernel_rfl
@[go_sem] theorem fd_382_1 : fieldOf Tryz.prog 382 1 = none := by kernel_rfl
@[go_sem] theorem fd_382_2 : fieldOf Tryz.prog 382 2 = none := by kernel_rfl
@[go_sem] theorem fd_382_3 : fieldOf Tryz.prog 382 3 = none := by kernel_rfl
@[go_sem] theorem fd_382_4 : fieldOf Tryz.prog 382 4 = none := by kernel_rfl
@[go_sem] theorem fd_382_5 : fieldOf Tryz.prog 382 5 = none := by kernel_rfl
@[go_sem] theorem fd_382_6 : fieldOf Tryz.prog 382 6 = none := by kernel_rfl
@[go_sem] theorem fd_382_7 : fieldOf Tryz.prog 382 7 = none := by kernel_rfl
@[go_sem] theorem ze_382 : zeros Tryz.prog 382 = some [.sc (.int .u8 0), .sc (.int .u8 0), .sc (.int .u8 0), .sc (.int .u8 0), .sc (.int .u8 0), .sc (.int .u8 0), .sc (.int .u8 0), .sc (.int .u8 0), .sc (.int .u8 0), .sc (.int .u8 0), .sc (.int .u8 0), .sc (.int .u8 0), .sc (.int .u8 0), .sc (.int .u8 0), .sc (.int .u8 0), .sc (.int .u8 0), .sc (.int .u8 0), .sc (.int .u8 0), .sc (.int .u8 0), .sc (.int .u8 0), .sc (.int .u8 0), .sc (.int .u8 0), .sc (.int .u8 0), .sc (.int .u8 0)] := by kernel_rfl
@[go_sem] theorem by_382 : bytesOf Tryz.prog 382 = 24 := by kernel_rfl
@[go_sem] theorem sz_387 : szOf Tryz.prog 387 = 256 := by kernel_rfl
@[go_sem] theorem kn_387 : knownT Tryz.prog 387 = true := by kernel_rfl
@[go_sem] theorem ag_387 : aggOf Tryz.prog 387 = true := by kernel_rfl
@[go_sem] theorem us_387 : (Tryz.prog.underlying 387).isSome = true := by kernel_rfl
@[go_sem] theorem el_387 : Go.PA.elemOf Tryz.prog 387 = none := by kernel_rfl
@[go_sem] theorem ar_387 : arrOf Tryz.prog 387 = some (256, 5) := by kernel_rfl
@[go_sem] theorem fk_387 : fieldsKnown Tryz.prog 387 = true := by kernel_rfl
@[go_sem] theorem fd_387_0 : fieldOf Tryz.prog 387 0 = none := by kernel_rfl
@[go_sem] theorem fd_387_1 : fieldOf Tryz.prog 387 1 = none := by kernel_rfl
@[go_sem] theorem fd_387_2 : fieldOf Tryz.prog 387 2 = none := by kernel_rfl
@[go_sem] theorem fd_387_3 : fieldOf Tryz.prog 387 3 = none := by kernel_rfl
@[go_sem] theorem fd_387_4 : fieldOf Tryz.prog 387 4 = none := by kernel_rfl
@[go_sem] theorem fd_387_5 : fieldOf Tryz.prog 387 5 = none := by kernel_rfl
@[go_sem] theorem fd_387_6 : fieldOf Tryz.prog 387 6 = none := by kernel_rfl
@[go_sem] theorem fd_387_7 : fieldOf Tryz.prog 387 7 = none := by kernel_rfl
theorem ze_387 : zeros Tryz.prog 387 = some (List.replicate 256 (.sc (.int .u8 0))) := by kernel_rfl
@[go_sem] theorem by_387 : bytesOf Tryz.prog 387 = 256 := by kernel_rfl
@[go_sem] theorem sz_388 : szOf Tryz.prog 388 = 2 := by kernel_rfl
@[go_sem] theorem kn_388 : knownT Tryz.prog 388 = true := by kernel_rfl
@[go_sem] theorem ag_388 : aggOf Tryz.prog 388 = true := by kernel_rfl
@[go_sem] theorem us_388 : (Tryz.prog.underlying 388).isSome = true := by kernel_rfl
@[go_sem] theorem fd_388_0 : fieldOf Tryz.prog 388 0 = some (0, 5) := by kernel_rfl
@[go_sem] theorem fd_388_1 : fieldOf Tryz.prog 388 1 = some (1, 5) := by kernel_rfl
@[go_sem] theorem el_388 : Go.PA.elemOf Tryz.prog 388 = none := by kernel_rfl
@[go_sem] theorem ar_388 : arrOf Tryz.prog 388 = none := by kernel_rfl
@[go_sem] theorem fk_388 : fieldsKnown Tryz.prog 388 = true := by kernel_rfl
@[go_sem] theorem sg_388 : sigOf Tryz.prog 388 = some [.int, .int] := by kernel_rfl
@[go_sem] theorem ze_388 : zeros Tryz.prog 388 = some [.sc (.int .u8 0), .sc (.int .u8 0)] := by kernel_rfl
@[go_sem] theorem by_388 : bytesOf Tryz.prog 388 = 2 := by kernel_rfl
@[go_sem] theorem sz_389 : szOf Tryz.prog 389 = 2 := by kernel_rfl
@[go_sem] theorem kn_389 : knownT Tryz.prog 389 = true := by kernel_rfl
@[go_sem] theorem ag_389 : aggOf Tryz.prog 389 = true := by kernel_rfl
@[go_sem] theorem us_389 : (Tryz.prog.underlying 389).isSome = true := by kernel_rfl
@[go_sem] theorem fd_389_0 : fieldOf Tryz.prog 389 0 = some (0, 5) := by kernel_rfl
@[go_sem] theorem fd_389_1 : fieldOf Tryz.prog 389 1 = some (1, 5) := by kernel_rfl
@[go_sem] theorem el_389 : Go.PA.elemOf Tryz.prog 389 = none := by kernel_rfl
@[go_sem] theorem ar_389 : arrOf Tryz.prog 389 = none := by kernel_rfl
@[go_sem] theorem fk_389 : fieldsKnown Tryz.prog 389 = true := by kernel_rfl
@[go_sem] theorem sg_389 : sigOf Tryz.prog 389 = some [.int, .int] := by kernel_rfl
@[go_sem] theorem ze_389 : zeros Tryz.prog 389 = some [.sc (.int .u8 0), .sc (.int .u8 0)] := by kernel_rfl
@[go_sem] theorem by_389 : bytesOf Tryz.prog 389 = 2 := by kernel_rfl
@[go_sem] theorem sz_390 : szOf Tryz.prog 390 = 32 := by kernel_rfl
@[go_sem] theorem kn_390 : knownT Tryz.prog 390 = true := by kernel_rfl
@[go_sem] theorem ag_390 : aggOf Tryz.prog 390 = true := by kernel_rfl
@[go_sem] theorem us_390 : (Tryz.prog.underlying 390).isSome = true := by kernel_rfl
@[go_sem] theorem el_390 : Go.PA.elemOf Tryz.prog 390 = none := by kernel_rfl
@[go_sem] theorem ar_390 : arrOf Tryz.prog 390 = some (16, 389) := by kernel_rfl
@[go_sem] theorem fk_390 : fieldsKnown Tryz.prog 390 = true := by kernel_rfl
@[go_sem] theorem fd_390_0 : fieldOf Tryz.prog 390 0 = none := by kernel_rfl
@[go_sem] theorem fd_390_1 : fieldOf Tryz.prog 390 1 = none := by kernel_rfl
@[go_sem] theorem fd_390_2 : fieldOf Tryz.prog 390 2 = none := by kernel_rfl
@[go_sem] theorem fd_390_3 : fieldOf Tryz.prog 390 3 = none := by kernel_rfl
@[go_sem] theorem fd_390_4 : fieldOf Tryz.prog 390 4 = none := by kernel_rfl
@[go_sem] theorem fd_390_5 : fieldOf Tryz.prog 390 5 = none := by kernel_rfl
@[go_sem] theorem fd_390_6 : fieldOf Tryz.prog 390 6 = none := by kernel_rfl
@[go_sem] theorem fd_390_7 : fieldOf Tryz.prog 390 7 = none := by kernel_rfl
@[go_sem] theorem ze_390 : zeros Tryz.prog 390 = some [.sc (.int .u8 0), .sc (.int .u8 0), .sc (.int .u8 0), .sc (.int .u8 0), .sc (.int .u8 0), .sc (.int .u8 0), .sc (.int .u8 0), .sc (.int .u8 0), .sc (.int .u8 0), .sc (.int .u8 0), .sc (.int .u8 0), .sc (.int .u8 0), .sc (.int .u8 0), .sc (.int .u8 0), .sc (.int .u8 0), .sc (.int .u8 0), .sc (.int .u8 0), .sc (.int .u8 0), .sc (.int .u8 0), .sc (.int .u8 0), .sc (.int .u8 0), .sc (.int .u8 0), .sc (.int .u8 0), .sc (.int .u8 0), .sc (.int .u8 0), .sc (.int .u8 0), .sc (.int .u8 0), .sc (.int .u8 0), .sc (.int .u8 0), .sc (.int .u8 0), .sc (.int .u8 0), .sc (.int .u8 0)] := by kernel_rfl
@[go_sem] theorem by_390 : bytesOf Tryz.prog 390 = 32 := by kernel_rfl
@[go_sem] theorem sz_393 : szOf Tryz.prog 393 = 1 := by kernel_rfl
@[go_sem] theorem kn_393 : knownT Tryz.prog 393 = true := by kernel_rfl
@[go_sem] theorem ag_393 : aggOf Tryz.prog 393 = false := by kernel_rfl
@[go_sem] theorem us_393 : (Tryz.prog.underlying 393).isSome = true := by kernel_rfl
@[go_sem] theorem ze_393 : zeros Tryz.prog 393 = some [.sc (.pointer none)] := by kernel_rfl
@[go_sem] theorem by_393 : bytesOf Tryz.prog 393 = 8 := by kernel_rfl
@[go_sem] theorem sz_394 : szOf Tryz.prog 394 = 1 := by kernel_rfl
@[go_sem] theorem kn_394 : knownT Tryz.prog 394 = true := by kernel_rfl
@[go_sem] theorem ag_394 : aggOf Tryz.prog 394 = false := by kernel_rfl
@[go_sem] theorem us_394 : (Tryz.prog.underlying 394).isSome = true := by kernel_rfl
@[go_sem] theorem ze_394 : zeros Tryz.prog 394 = some [.sc (.pointer none)] := by kernel_rfl
@[go_sem] theorem by_394 : bytesOf Tryz.prog 394 = 8 := by kernel_rfl
@[go_sem] theorem sz_395 : szOf Tryz.prog 395 = 1 := by kernel_rfl
@[go_sem] theorem kn_395 : knownT Tryz.prog 395 = true := by kernel_rfl
@[go_sem] theorem ag_395 : aggOf Tryz.prog 395 = true := by kernel_rfl
@[go_sem] theorem us_395 : (Tryz.prog.underlying 395).isSome = true := by kernel_rfl
@[go_sem] theorem fd_395_0 : fieldOf Tryz.prog 395 0 = some (0, 9) := by kernel_rfl
@[go_sem] theorem el_395 : Go.PA.elemOf Tryz.prog 395 = none := by kernel_rfl
@[go_sem] theorem ar_395 : arrOf Tryz.prog 395 = none := by kernel_rfl
@[go_sem] theorem fk_395 : fieldsKnown Tryz.prog 395 = true := by kernel_rfl
@[go_sem] theorem sg_395 : sigOf Tryz.prog 395 = some [.str] := by kernel_rfl
@[go_sem] theorem ze_395 : zeros Tryz.prog 395 = some [.sc (.string ByteArray.empty)] := by kernel_rfl
@[go_sem] theorem by_395 : bytesOf Tryz.prog 395 = 16 := by kernel_rfl
@[go_sem] theorem sz_396 : szOf Tryz.prog 396 = 1 := by kernel_rfl
@[go_sem] theorem kn_396 : knownT Tryz.prog 396 = true := by kernel_rfl
@[go_sem] theorem ag_396 : aggOf Tryz.prog 396 = true := by kernel_rfl
@[go_sem] theorem us_396 : (Tryz.prog.underlying 396).isSome = true := by kernel_rfl
@[go_sem] theorem fd_396_0 : fieldOf Tryz.prog 396 0 = some (0, 9) := by kernel_rfl
@[go_sem] theorem el_396 : Go.PA.elemOf Tryz.prog 396 = none := by kernel_rfl
@[go_sem] theorem ar_396 : arrOf Tryz.prog 396 = none := by kernel_rfl
@[go_sem] theorem fk_396 : fieldsKnown Tryz.prog 396 = true := by kernel_rfl
@[go_sem] theorem sg_396 : sigOf Tryz.prog 396 = some [.str] := by kernel_rfl
@[go_sem] theorem ze_396 : zeros Tryz.prog 396 = some [.sc (.string ByteArray.empty)] := by kernel_rfl
@[go_sem] theorem by_396 : bytesOf Tryz.prog 396 = 16 := by kernel_rfl
@[go_sem] theorem sz_398 : szOf Tryz.prog 398 = 20 := by kernel_rfl
@[go_sem] theorem kn_398 : knownT Tryz.prog 398 = true := by kernel_rfl
@[go_sem] theorem ag_398 : aggOf Tryz.prog 398 = true := by kernel_rfl
@[go_sem] theorem us_398 : (Tryz.prog.underlying 398).isSome = true := by kernel_rfl
@[go_sem] theorem el_398 : Go.PA.elemOf Tryz.prog 398 = none := by kernel_rfl
@[go_sem] theorem ar_398 : arrOf Tryz.prog 398 = some (20, 375) := by kernel_rfl
@[go_sem] theorem fk_398 : fieldsKnown Tryz.prog 398 = true := by kernel_rfl
@[go_sem] theorem fd_398_0 : fieldOf Tryz.prog 398 0 = none := by kernel_rfl
@[go_sem] theorem fd_398_1 : fieldOf Tryz.prog 398 1 = none := by kernel_rfl
@[go_sem] theorem fd_398_2 : fieldOf Tryz.prog 398 2 = none := by kernel_rfl
@[go_sem] theorem fd_398_3 : fieldOf Tryz.prog 398 3 = none := by kernel_rfl
@[go_sem] theorem fd_398_4 : fieldOf Tryz.prog 398 4 = none := by kernel_rfl
@[go_sem] theorem fd_398_5 : fieldOf Tryz.prog 398 5 = none := by kernel_rfl
@[go_sem] theorem fd_398_6 : fieldOf Tryz.prog 398 6 = none := by kernel_rfl
@[go_sem] theorem fd_398_7 : fieldOf Tryz.prog 398 7 = none := by kernel_rfl
@[go_sem] theorem ze_398 : zeros Tryz.prog 398 = some [.sc (.int .u64 0), .sc (.int .u64 0), .sc (.int .u64 0), .sc (.int .u64 0), .sc (.int .u64 0), .sc (.int .u64 0), .sc (.int .u64 0), .sc (.int .u64 0), .sc (.int .u64 0), .sc (.int .u64 0), .sc (.int .u64 0), .sc (.int .u64 0), .sc (.int .u64 0), .sc (.int .u64 0), .sc (.int .u64 0), .sc (.int .u64 0), .sc (.int .u64 0), .sc (.int .u64 0), .sc (.int .u64 0), .sc (.int .u64 0)] := by kernel_rfl
@[go_sem] theorem by_398 : bytesOf Tryz.prog 398 = 160 := by kernel_rfl
@[go_sem] theorem sz_399 : szOf Tryz.prog 399 = 1 := by kernel_rfl
@[go_sem] theorem kn_399 : knownT Tryz.prog 399 = true := by kernel_rfl
@[go_sem] theorem ag_399 : aggOf Tryz.prog 399 = false := by kernel_rfl
@[go_sem] theorem us_399 : (Tryz.prog.underlying 399).isSome = true := by kernel_rfl
@[go_sem] theorem un_399 : Tryz.prog.underlying 399 = some (.int .u32) := by kernel_rfl
@[go_sem] theorem ze_399 : zeros Tryz.prog 399 = some [.sc (.int .u32 0)] := by kernel_rfl
@[go_sem] theorem az_399 : azero1 Tryz.prog 399 = some (.sc (.int .u32 0)) := by kernel_rfl
@[go_sem] theorem by_399 : bytesOf Tryz.prog 399 = 4 := by kernel_rfl
@[go_sem] theorem sz_400 : szOf Tryz.prog 400 = 65 := by kernel_rfl
@[go_sem] theorem kn_400 : knownT Tryz.prog 400 = true := by kernel_rfl
@[go_sem] theorem ag_400 : aggOf Tryz.prog 400 = true := by kernel_rfl
@[go_sem] theorem us_400 : (Tryz.prog.underlying 400).isSome = true := by kernel_rfl
@[go_sem] theorem el_400 : Go.PA.elemOf Tryz.prog 400 = none := by kernel_rfl
@[go_sem] theorem ar_400 : arrOf Tryz.prog 400 = some (65, 5) := by kernel_rfl
@[go_sem] theorem fk_400 : fieldsKnown Tryz.prog 400 = true := by kernel_rfl
@[go_sem] theorem fd_400_0 : fieldOf Tryz.prog 400 0 = none := by kernel_rfl
@[go_sem] theorem fd_400_1 : fieldOf Tryz.prog 400 1 = none := by kernel_rfl
@[go_sem] theorem fd_400_2 : fieldOf Tryz.prog 400 2 = none := by kernel_rfl
@[go_sem] theorem fd_400_3 : fieldOf Tryz.prog 400 3 = none := by kernel_rfl
@[go_sem] theorem fd_400_4 : fieldOf Tryz.prog 400 4 = none := by kernel_rfl
@[go_sem] theorem fd_400_5 : fieldOf Tryz.prog 400 5 = none := by kernel_rfl
@[go_sem] theorem fd_400_6 : fieldOf Tryz.prog 400 6 = none := by kernel_rfl
@[go_sem] theorem fd_400_7 : fieldOf Tryz.prog 400 7 = none := by kernel_rfl
theorem ze_400 : zeros Tryz.prog 400 = some (List.replicate 65 (.sc (.int .u8 0))) := by kernel_rfl
@[go_sem] theorem by_400 : bytesOf Tryz.prog 400 = 65 := by kernel_rfl
@[go_sem] theorem sz_405 : szOf Tryz.prog 405 = 32 := by kernel_rfl
@[go_sem] theorem kn_405 : knownT Tryz.prog 405 = true := by kernel_rfl
@[go_sem] theorem ag_405 : aggOf Tryz.prog 405 = true := by kernel_rfl
@[go_sem] theorem us_405 : (Tryz.prog.underlying 405).isSome = true := by kernel_rfl
@[go_sem] theorem el_405 : Go.PA.elemOf Tryz.prog 405 = none := by kernel_rfl
@[go_sem] theorem ar_405 : arrOf Tryz.prog 405 = some (32, 5) := by kernel_rfl
@[go_sem] theorem fk_405 : fieldsKnown Tryz.prog 405 = true := by kernel_rfl
@[go_sem] theorem fd_405_0 : fieldOf Tryz.prog 405 0 = none := by kernel_rfl
@[go_sem] theorem fd_405_1 : fieldOf Tryz.prog 405 1 = none := by kernel_rfl
@[go_sem] theorem fd_405_2 : fieldOf Tryz.prog 405 2 = none := by kernel_rfl
@[go_sem] theorem fd_405_3 : fieldOf Tryz.prog 405 3 = none := by kernel_rfl
@[go_sem] theorem fd_405_4 : fieldOf Tryz.prog 405 4 = none := by kernel_rfl
@[go_sem] theorem fd_405_5 : fieldOf Tryz.prog 405 5 = none := by kernel_rfl
@[go_sem] theorem fd_405_6 : fieldOf Tryz.prog 405 6 = none := by kernel_rfl
@[go_sem] theorem fd_405_7 : fieldOf Tryz.prog 405 7 = none := by kernel_rfl
@[go_sem] theorem ze_405 : zeros Tryz.prog 405 = some [.sc (.int .u8 0), .sc (.int .u8 0), .sc (.int .u8 0), .sc (.int .u8 0), .sc (.int .u8 0), .sc (.int .u8 0), .sc (.int .u8 0), .sc (.int .u8 0), .sc (.int .u8 0), .sc (.int .u8 0), .sc (.int .u8 0), .sc (.int .u8 0), .sc (.int .u8 0), .sc (.int .u8 0), .sc (.int .u8 0), .sc (.int .u8 0), .sc (.int .u8 0), .sc (.int .u8 0), .sc (.int .u8 0), .sc (.int .u8 0), .sc (.int .u8 0), .sc (.int .u8 0), .sc (.int .u8 0), .sc (.int .u8 0), .sc (.int .u8 0), .sc (.int .u8 0), .sc (.int .u8 0), .sc (.int .u8 0), .sc (.int .u8 0), .sc (.int .u8 0), .sc (.int .u8 0), .sc (.int .u8 0)] := by kernel_rfl
@[go_sem] theorem by_405 : bytesOf Tryz.prog 405 = 32 := by kernel_rfl
@[go_sem] theorem sz_406 : szOf Tryz.prog 406 = 64 := by kernel_rfl
@[go_sem] theorem kn_406 : knownT Tryz.prog 406 = true := by kernel_rfl
@[go_sem] theorem ag_406 : aggOf Tryz.prog 406 = true := by kernel_rfl
@[go_sem] theorem us_406 : (Tryz.prog.underlying 406).isSome = true := by kernel_rfl
@[go_sem] theorem el_406 : Go.PA.elemOf Tryz.prog 406 = none := by kernel_rfl
@[go_sem] theorem ar_406 : arrOf Tryz.prog 406 = some (64, 5) := by kernel_rfl
@[go_sem] theorem fk_406 : fieldsKnown Tryz.prog 406 = true := by kernel_rfl
@[go_sem] theorem fd_406_0 : fieldOf Tryz.prog 406 0 = none := by kernel_rfl
@[go_sem] theorem fd_406_1 : fieldOf Tryz.prog 406 1 = none := by kernel_rfl
@[go_sem] theorem fd_406_2 : fieldOf Tryz.prog 406 2 = none := by kernel_rfl
@[go_sem] theorem fd_406_3 : fieldOf Tryz.prog 406 3 = none := by kernel_rfl
@[go_sem] theorem fd_406_4 : fieldOf Tryz.prog 406 4 = none := by kernel_rfl
@[go_sem] theorem fd_406_5 : fieldOf Tryz.prog 406 5 = none := by kernel_rfl
@[go_sem] theorem fd_406_6 : fieldOf Tryz.prog 406 6 = none := by kernel_rfl
@[go_sem] theorem fd_406_7 : fieldOf Tryz.prog 406 7 = none := by kernel_rfl
theorem ze_406 : zeros Tryz.prog 406 = some (List.replicate 64 (.sc (.int .u8 0))) := by kernel_rfl
@[go_sem] theorem by_406 : bytesOf Tryz.prog 406 = 64 := by kernel_rfl
@[go_sem] theorem en_3 : enterable Tryz.prog 3 = true := by kernel_rfl -- treasury/treasurytop.TopStrips
@[go_sem] theorem en_4 : enterable Tryz.prog 4 = true := by kernel_rfl -- treasury/treasuryplay.New
@[go_sem] theorem en_5 : enterable Tryz.prog 5 = true := by kernel_rfl -- (*treasury/treasuryplay.Src).Range
@[go_sem] theorem en_6 : enterable Tryz.prog 6 = true := by kernel_rfl -- (*treasury/treasuryplay.Src).Pick
@[go_sem] theorem en_7 : enterable Tryz.prog 7 = true := by kernel_rfl -- treasury/register.Add
@[go_sem] theorem en_8 : enterable Tryz.prog 8 = true := by kernel_rfl -- treasury/register.Issue
@[go_sem] theorem en_9 : enterable Tryz.prog 9 = true := by kernel_rfl -- treasury/strip.New
@[go_sem] theorem en_10 : enterable Tryz.prog 10 = true := by kernel_rfl -- (*treasury/treasuryplay.Src).N
@[go_sem] theorem en_11 : enterable Tryz.prog 11 = true := by kernel_rfl -- treasury/strip.Split
@[go_sem] theorem en_12 : enterable Tryz.prog 12 = true := by kernel_rfl -- treasury/coupon.Days
@[go_sem] theorem en_13 : enterable Tryz.prog 13 = true := by kernel_rfl -- treasury/strip.Pending
@[go_sem] theorem en_14 : enterable Tryz.prog 14 = true := by kernel_rfl -- treasury/strip.Pay
@[go_sem] theorem en_15 : enterable Tryz.prog 15 = true := by kernel_rfl -- treasury/register.Held
@[go_sem] theorem en_16 : enterable Tryz.prog 16 = true := by kernel_rfl -- treasury/strip.Check
@[go_sem] theorem en_17 : enterable Tryz.prog 17 = true := by kernel_rfl -- treasury/treasurytop.awake45
@[go_sem] theorem en_18 : enterable Tryz.prog 18 = true := by kernel_rfl -- treasury/register.Check
@[go_sem] theorem en_19 : enterable Tryz.prog 19 = true := by kernel_rfl -- slices.BinarySearchFunc[[]treasury/api.Security,treasury/api.Security,int]
@[go_sem] theorem en_20 : enterable Tryz.prog 20 = true := by kernel_rfl -- treasury/register.Add$1
@[go_sem] theorem en_21 : enterable Tryz.prog 21 = true := by kernel_rfl -- cmp.Compare[int]
@[go_sem] theorem en_22 : enterable Tryz.prog 22 = true := by kernel_rfl -- treasury/register.Security
@[go_sem] theorem en_23 : enterable Tryz.prog 23 = true := by kernel_rfl -- treasury/register.Copy
@[go_sem] theorem en_24 : enterable Tryz.prog 24 = true := by kernel_rfl -- slices.Insert[[]treasury/api.Security,treasury/api.Security]
@[go_sem] theorem en_25 : enterable Tryz.prog 25 = true := by kernel_rfl -- treasury/register.move
@[go_sem] theorem en_26 : enterable Tryz.prog 26 = true := by kernel_rfl -- slices.ContainsFunc[[]treasury/api.Holding,treasury/api.Holding]
@[go_sem] theorem en_27 : enterable Tryz.prog 27 = true := by kernel_rfl -- treasury/strip.New$1
@[go_sem] theorem en_28 : enterable Tryz.prog 28 = true := by kernel_rfl -- treasury/strip.security
@[go_sem] theorem en_29 : enterable Tryz.prog 29 = true := by kernel_rfl -- treasury/register.Transfer
@[go_sem] theorem en_30 : enterable Tryz.prog 30 = true := by kernel_rfl -- treasury/strip.parts
@[go_sem] theorem en_31 : enterable Tryz.prog 31 = true := by kernel_rfl -- slices.Clone[[]treasury/api.Strip,treasury/api.Strip]
@[go_sem] theorem en_32 : enterable Tryz.prog 32 = true := by kernel_rfl -- treasury/strip.add
@[go_sem] theorem en_33 : enterable Tryz.prog 33 = true := by kernel_rfl -- treasury/coupon.Pending
@[go_sem] theorem en_34 : enterable Tryz.prog 34 = true := by kernel_rfl -- slices.DeleteFunc[[]treasury/api.Due,treasury/api.Due]
@[go_sem] theorem en_35 : enterable Tryz.prog 35 = true := by kernel_rfl -- treasury/strip.Pending$1
@[go_sem] theorem en_36 : enterable Tryz.prog 36 = true := by kernel_rfl -- treasury/register.Find
@[go_sem] theorem en_37 : enterable Tryz.prog 37 = true := by kernel_rfl -- treasury/coupon.Coupon
@[go_sem] theorem en_38 : enterable Tryz.prog 38 = true := by kernel_rfl -- slices.SortStableFunc[[]treasury/api.Due,treasury/api.Due]
@[go_sem] theorem en_39 : enterable Tryz.prog 39 = true := by kernel_rfl -- treasury/strip.due
@[go_sem] theorem en_40 : enterable Tryz.prog 40 = true := by kernel_rfl -- slices.DeleteFunc[[]treasury/api.Strip,treasury/api.Strip]
@[go_sem] theorem en_41 : enterable Tryz.prog 41 = true := by kernel_rfl -- treasury/strip.Pay$1
@[go_sem] theorem en_42 : enterable Tryz.prog 42 = true := by kernel_rfl -- treasury/register.Redeem
@[go_sem] theorem en_43 : enterable Tryz.prog 43 = true := by kernel_rfl -- (*treasury/register.clerk).held
@[go_sem] theorem en_44 : enterable Tryz.prog 44 = true := by kernel_rfl -- treasury/strip.possible
@[go_sem] theorem en_45 : enterable Tryz.prog 45 = true := by kernel_rfl -- treasury/strip.holder
@[go_sem] theorem en_46 : enterable Tryz.prog 46 = true := by kernel_rfl -- treasury/strip.unit
@[go_sem] theorem en_47 : enterable Tryz.prog 47 = true := by kernel_rfl -- treasury/strip.compare
@[go_sem] theorem en_48 : enterable Tryz.prog 48 = true := by kernel_rfl -- slices.ContainsFunc[[]treasury/api.Security,treasury/api.Security]
@[go_sem] theorem en_49 : enterable Tryz.prog 49 = true := by kernel_rfl -- treasury/strip.Check$1
@[go_sem] theorem en_50 : enterable Tryz.prog 50 = true := by kernel_rfl -- treasury/strip.covered
@[go_sem] theorem en_51 : enterable Tryz.prog 51 = true := by kernel_rfl -- treasury/court.Start
@[go_sem] theorem en_52 : enterable Tryz.prog 52 = true := by kernel_rfl -- treasury/court.Run
@[go_sem] theorem en_53 : enterable Tryz.prog 53 = true := by kernel_rfl -- treasury/account.Total
@[go_sem] theorem en_54 : enterable Tryz.prog 54 = true := by kernel_rfl -- treasury/ledger.Of
@[go_sem] theorem en_55 : enterable Tryz.prog 55 = true := by kernel_rfl -- treasury/court.Clean
@[go_sem] theorem en_56 : enterable Tryz.prog 56 = true := by kernel_rfl -- treasury/register.replay
@[go_sem] theorem en_57 : enterable Tryz.prog 57 = true := by kernel_rfl -- treasury/register.all
@[go_sem] theorem en_58 : enterable Tryz.prog 58 = true := by kernel_rfl -- slices.Equal[[]treasury/api.Holding,treasury/api.Holding]
@[go_sem] theorem en_59 : enterable Tryz.prog 59 = true := by kernel_rfl -- cmp.isNaN[int]
@[go_sem] theorem en_60 : enterable Tryz.prog 60 = true := by kernel_rfl -- treasury/register.among
@[go_sem] theorem en_61 : enterable Tryz.prog 61 = true := by kernel_rfl -- slices.Clone[[]treasury/api.Security,treasury/api.Security]
@[go_sem] theorem en_62 : enterable Tryz.prog 62 = true := by kernel_rfl -- slices.Clone[[]treasury/api.Holding,treasury/api.Holding]
@[go_sem] theorem en_63 : enterable Tryz.prog 63 = true := by kernel_rfl -- slices.Clone[[]treasury/api.Move,treasury/api.Move]
@[go_sem] theorem en_65 : enterable Tryz.prog 65 = true := by kernel_rfl -- slices.rotateRight[treasury/api.Security]
@[go_sem] theorem en_66 : enterable Tryz.prog 66 = true := by kernel_rfl -- (*treasury/register.clerk).do
@[go_sem] theorem en_67 : enterable Tryz.prog 67 = true := by kernel_rfl -- slices.IndexFunc[[]treasury/api.Holding,treasury/api.Holding]
@[go_sem] theorem en_68 : enterable Tryz.prog 68 = true := by kernel_rfl -- treasury/strip.Parts
@[go_sem] theorem en_69 : enterable Tryz.prog 69 = true := by kernel_rfl -- treasury/strip.days
@[go_sem] theorem en_70 : enterable Tryz.prog 70 = true := by kernel_rfl -- slices.Equal[[]int,int]
@[go_sem] theorem en_71 : enterable Tryz.prog 71 = true := by kernel_rfl -- slices.BinarySearchFunc[[]treasury/api.Strip,treasury/api.Strip,treasury/api.Strip]
@[go_sem] theorem en_72 : enterable Tryz.prog 72 = true := by kernel_rfl -- slices.Insert[[]treasury/api.Strip,treasury/api.Strip]
@[go_sem] theorem en_73 : enterable Tryz.prog 73 = true := by kernel_rfl -- slices.Delete[[]treasury/api.Strip,treasury/api.Strip]
@[go_sem] theorem en_74 : enterable Tryz.prog 74 = true := by kernel_rfl -- treasury/coupon.among
@[go_sem] theorem en_75 : enterable Tryz.prog 75 = true := by kernel_rfl -- treasury/register.At
@[go_sem] theorem en_76 : enterable Tryz.prog 76 = true := by kernel_rfl -- treasury/coupon.plain
@[go_sem] theorem en_77 : enterable Tryz.prog 77 = true := by kernel_rfl -- slices.IndexFunc[[]treasury/api.Due,treasury/api.Due]
@[go_sem] theorem en_78 : enterable Tryz.prog 78 = true := by kernel_rfl -- treasury/register.find
@[go_sem] theorem en_79 : enterable Tryz.prog 79 = true := by kernel_rfl -- treasury/coupon.check
@[go_sem] theorem en_80 : enterable Tryz.prog 80 = true := by kernel_rfl -- treasury/coupon.nearest
@[go_sem] theorem en_81 : enterable Tryz.prog 81 = true := by kernel_rfl -- slices.stableCmpFunc[treasury/api.Due]
@[go_sem] theorem en_82 : enterable Tryz.prog 82 = true := by kernel_rfl -- cmp.Or[int]
@[go_sem] theorem en_83 : enterable Tryz.prog 83 = true := by kernel_rfl -- slices.IndexFunc[[]treasury/api.Strip,treasury/api.Strip]
@[go_sem] theorem en_84 : enterable Tryz.prog 84 = true := by kernel_rfl -- (*treasury/register.clerk).place
@[go_sem] theorem en_85 : enterable Tryz.prog 85 = true := by kernel_rfl -- slices.Contains[[]int,int]
@[go_sem] theorem en_86 : enterable Tryz.prog 86 = true := by kernel_rfl -- treasury/strip.kind
@[go_sem] theorem en_87 : enterable Tryz.prog 87 = true := by kernel_rfl -- slices.IndexFunc[[]treasury/api.Security,treasury/api.Security]
@[go_sem] theorem en_88 : enterable Tryz.prog 88 = true := by kernel_rfl -- treasury/strip.sum
@[go_sem] theorem en_89 : enterable Tryz.prog 89 = true := by kernel_rfl -- treasury/strip.covered$1
@[go_sem] theorem en_90 : enterable Tryz.prog 90 = true := by kernel_rfl -- slices.ContainsFunc[[]int,int]
@[go_sem] theorem en_91 : enterable Tryz.prog 91 = true := by kernel_rfl -- treasury/account.Open
@[go_sem] theorem en_92 : enterable Tryz.prog 92 = true := by kernel_rfl -- treasury/court.copied
@[go_sem] theorem en_93 : enterable Tryz.prog 93 = true := by kernel_rfl -- treasury/court.Do
@[go_sem] theorem en_94 : enterable Tryz.prog 94 = true := by kernel_rfl -- treasury/account.Check
@[go_sem] theorem en_95 : enterable Tryz.prog 95 = true := by kernel_rfl -- treasury/ledger.Check
@[go_sem] theorem en_96 : enterable Tryz.prog 96 = true := by kernel_rfl -- treasury/ledger.Books
@[go_sem] theorem en_97 : enterable Tryz.prog 97 = true := by kernel_rfl -- treasury/ledger.of
@[go_sem] theorem en_98 : enterable Tryz.prog 98 = true := by kernel_rfl -- treasury/court.Audit
@[go_sem] theorem en_99 : enterable Tryz.prog 99 = true := by kernel_rfl -- slices.rotateLeft[treasury/api.Security]
@[go_sem] theorem en_100 : enterable Tryz.prog 100 = true := by kernel_rfl -- treasury/money.Valid
@[go_sem] theorem en_101 : enterable Tryz.prog 101 = true := by kernel_rfl -- treasury/register.strange
@[go_sem] theorem en_102 : enterable Tryz.prog 102 = true := by kernel_rfl -- (*treasury/register.clerk).outstanding
@[go_sem] theorem en_103 : enterable Tryz.prog 103 = true := by kernel_rfl -- (*treasury/register.clerk).add
@[go_sem] theorem en_104 : enterable Tryz.prog 104 = true := by kernel_rfl -- slices.DeleteFunc[[]int,int]
@[go_sem] theorem en_105 : enterable Tryz.prog 105 = true := by kernel_rfl -- treasury/strip.days$1
@[go_sem] theorem en_107 : enterable Tryz.prog 107 = true := by kernel_rfl -- slices.rotateRight[treasury/api.Strip]
@[go_sem] theorem en_108 : enterable Tryz.prog 108 = true := by kernel_rfl -- treasury/register.At$1
@[go_sem] theorem en_109 : enterable Tryz.prog 109 = true := by kernel_rfl -- treasury/coupon.Of
@[go_sem] theorem en_110 : enterable Tryz.prog 110 = true := by kernel_rfl -- treasury/coupon.plain$1
@[go_sem] theorem en_111 : enterable Tryz.prog 111 = true := by kernel_rfl -- treasury/coupon.plain$2
@[go_sem] theorem en_112 : enterable Tryz.prog 112 = true := by kernel_rfl -- treasury/register.find$1
@[go_sem] theorem en_113 : enterable Tryz.prog 113 = true := by kernel_rfl -- slices.insertionSortCmpFunc[treasury/api.Due]
@[go_sem] theorem en_114 : enterable Tryz.prog 114 = true := by kernel_rfl -- slices.symMergeCmpFunc[treasury/api.Due]
@[go_sem] theorem en_115 : enterable Tryz.prog 115 = true := by kernel_rfl -- slices.BinarySearchFunc[[]treasury/api.Holding,treasury/api.Holding,treasury/register.key]
@[go_sem] theorem en_116 : enterable Tryz.prog 116 = true := by kernel_rfl -- (*treasury/register.clerk).place$1
@[go_sem] theorem en_117 : enterable Tryz.prog 117 = true := by kernel_rfl -- treasury/register.of
@[go_sem] theorem en_118 : enterable Tryz.prog 118 = true := by kernel_rfl -- (treasury/register.key).compare
@[go_sem] theorem en_119 : enterable Tryz.prog 119 = true := by kernel_rfl -- slices.Index[[]int,int]
@[go_sem] theorem en_120 : enterable Tryz.prog 120 = true := by kernel_rfl -- slices.IndexFunc[[]int,int]
@[go_sem] theorem en_121 : enterable Tryz.prog 121 = true := by kernel_rfl -- treasury/account.numbered
@[go_sem] theorem en_122 : enterable Tryz.prog 122 = true := by kernel_rfl -- slices.Clone[[]treasury/api.Sub,treasury/api.Sub]
@[go_sem] theorem en_123 : enterable Tryz.prog 123 = true := by kernel_rfl -- slices.Clone[[]treasury/api.Entry,treasury/api.Entry]
@[go_sem] theorem en_124 : enterable Tryz.prog 124 = true := by kernel_rfl -- slices.Clone[[]treasury/api.Payment,treasury/api.Payment]
@[go_sem] theorem en_125 : enterable Tryz.prog 125 = true := by kernel_rfl -- slices.Clone[[]int,int]
@[go_sem] theorem en_126 : enterable Tryz.prog 126 = true := by kernel_rfl -- slices.Clone[[]treasury/api.Item,treasury/api.Item]
@[go_sem] theorem en_127 : enterable Tryz.prog 127 = true := by kernel_rfl -- slices.Clone[[]treasury/api.Claim,treasury/api.Claim]
@[go_sem] theorem en_128 : enterable Tryz.prog 128 = true := by kernel_rfl -- slices.Clone[[]treasury/api.Income,treasury/api.Income]
@[go_sem] theorem en_129 : enterable Tryz.prog 129 = true := by kernel_rfl -- slices.Clone[[]treasury/api.Match,treasury/api.Match]
@[go_sem] theorem en_130 : enterable Tryz.prog 130 = true := by kernel_rfl -- slices.Clone[[]treasury/api.Posting,treasury/api.Posting]
@[go_sem] theorem en_131 : enterable Tryz.prog 131 = true := by kernel_rfl -- (*treasury/court.clerk).do
@[go_sem] theorem en_132 : enterable Tryz.prog 132 = true := by kernel_rfl -- (*treasury/court.clerk).book
@[go_sem] theorem en_133 : enterable Tryz.prog 133 = true := by kernel_rfl -- treasury/account.numbers
@[go_sem] theorem en_134 : enterable Tryz.prog 134 = true := by kernel_rfl -- treasury/account.replay
@[go_sem] theorem en_135 : enterable Tryz.prog 135 = true := by kernel_rfl -- treasury/account.all
@[go_sem] theorem en_136 : enterable Tryz.prog 136 = true := by kernel_rfl -- slices.Equal[[]treasury/api.Sub,treasury/api.Sub]
@[go_sem] theorem en_137 : enterable Tryz.prog 137 = true := by kernel_rfl -- slices.ContainsFunc[[]treasury/api.Posting,treasury/api.Posting]
@[go_sem] theorem en_138 : enterable Tryz.prog 138 = true := by kernel_rfl -- treasury/ledger.Check$1
@[go_sem] theorem en_139 : enterable Tryz.prog 139 = true := by kernel_rfl -- treasury/ledger.Posting
@[go_sem] theorem en_140 : enterable Tryz.prog 140 = true := by kernel_rfl -- treasury/ledger.of$1
@[go_sem] theorem en_141 : enterable Tryz.prog 141 = true := by kernel_rfl -- treasury/ledger.among
@[go_sem] theorem en_142 : enterable Tryz.prog 142 = true := by kernel_rfl -- treasury/court.checks
@[go_sem] theorem en_143 : enterable Tryz.prog 143 = true := by kernel_rfl -- treasury/court.differ[treasury/api.Income,treasury/api.Entry]
@[go_sem] theorem en_144 : enterable Tryz.prog 144 = true := by kernel_rfl -- treasury/court.only
@[go_sem] theorem en_145 : enterable Tryz.prog 145 = true := by kernel_rfl -- treasury/court.income
@[go_sem] theorem en_146 : enterable Tryz.prog 146 = true := by kernel_rfl -- treasury/court.Audit$1
@[go_sem] theorem en_147 : enterable Tryz.prog 147 = true := by kernel_rfl -- slices.DeleteFunc[[]treasury/api.Move,treasury/api.Move]
@[go_sem] theorem en_148 : enterable Tryz.prog 148 = true := by kernel_rfl -- treasury/court.Audit$2
@[go_sem] theorem en_149 : enterable Tryz.prog 149 = true := by kernel_rfl -- treasury/court.Audit$3
@[go_sem] theorem en_150 : enterable Tryz.prog 150 = true := by kernel_rfl -- treasury/court.differ[treasury/api.Move,treasury/api.Entry]
@[go_sem] theorem en_151 : enterable Tryz.prog 151 = true := by kernel_rfl -- treasury/court.security
@[go_sem] theorem en_152 : enterable Tryz.prog 152 = true := by kernel_rfl -- treasury/court.differ[treasury/api.Posting,treasury/api.Posting]
@[go_sem] theorem en_153 : enterable Tryz.prog 153 = true := by kernel_rfl -- treasury/court.postings
@[go_sem] theorem en_154 : enterable Tryz.prog 154 = true := by kernel_rfl -- treasury/court.Audit$4
@[go_sem] theorem en_155 : enterable Tryz.prog 155 = true := by kernel_rfl -- slices.Reverse[[]treasury/api.Security,treasury/api.Security]
@[go_sem] theorem en_156 : enterable Tryz.prog 156 = true := by kernel_rfl -- treasury/register.holder
@[go_sem] theorem en_157 : enterable Tryz.prog 157 = true := by kernel_rfl -- slices.Insert[[]treasury/api.Holding,treasury/api.Holding]
@[go_sem] theorem en_158 : enterable Tryz.prog 158 = true := by kernel_rfl -- slices.Delete[[]treasury/api.Holding,treasury/api.Holding]
@[go_sem] theorem en_159 : enterable Tryz.prog 159 = true := by kernel_rfl -- slices.rotateLeft[treasury/api.Strip]
@[go_sem] theorem en_160 : enterable Tryz.prog 160 = true := by kernel_rfl -- treasury/coupon.Of$1
@[go_sem] theorem en_161 : enterable Tryz.prog 161 = true := by kernel_rfl -- slices.rotateCmpFunc[treasury/api.Due]
@[go_sem] theorem en_162 : enterable Tryz.prog 162 = true := by kernel_rfl -- treasury/account.among
@[go_sem] theorem en_163 : enterable Tryz.prog 163 = true := by kernel_rfl -- (*treasury/court.clerk).receive
@[go_sem] theorem en_164 : enterable Tryz.prog 164 = true := by kernel_rfl -- (*treasury/court.clerk).desk
@[go_sem] theorem en_165 : enterable Tryz.prog 165 = true := by kernel_rfl -- treasury/recall.Order
@[go_sem] theorem en_166 : enterable Tryz.prog 166 = true := by kernel_rfl -- treasury/recall.Send
@[go_sem] theorem en_167 : enterable Tryz.prog 167 = true := by kernel_rfl -- treasury/recall.Settle
@[go_sem] theorem en_168 : enterable Tryz.prog 168 = true := by kernel_rfl -- treasury/recall.Return
@[go_sem] theorem en_169 : enterable Tryz.prog 169 = true := by kernel_rfl -- treasury/recall.Recall
@[go_sem] theorem en_170 : enterable Tryz.prog 170 = true := by kernel_rfl -- (*treasury/court.clerk).debt
@[go_sem] theorem en_171 : enterable Tryz.prog 171 = true := by kernel_rfl -- (*treasury/court.clerk).move
@[go_sem] theorem en_172 : enterable Tryz.prog 172 = true := by kernel_rfl -- treasury/ledger.Post
@[go_sem] theorem en_173 : enterable Tryz.prog 173 = true := by kernel_rfl -- treasury/account.fresh
@[go_sem] theorem en_174 : enterable Tryz.prog 174 = true := by kernel_rfl -- (*treasury/account.teller).post
@[go_sem] theorem en_175 : enterable Tryz.prog 175 = true := by kernel_rfl -- slices.IndexFunc[[]treasury/api.Posting,treasury/api.Posting]
@[go_sem] theorem en_176 : enterable Tryz.prog 176 = true := by kernel_rfl -- treasury/ledger.entity
@[go_sem] theorem en_177 : enterable Tryz.prog 177 = true := by kernel_rfl -- treasury/ledger.Class
@[go_sem] theorem en_178 : enterable Tryz.prog 178 = true := by kernel_rfl -- treasury/recall.Check
@[go_sem] theorem en_179 : enterable Tryz.prog 179 = true := by kernel_rfl -- treasury/receipt.Check
@[go_sem] theorem en_180 : enterable Tryz.prog 180 = true := by kernel_rfl -- slices.DeleteFunc[[]treasury/api.Entry,treasury/api.Entry]
@[go_sem] theorem en_181 : enterable Tryz.prog 181 = true := by kernel_rfl -- treasury/court.only$1
@[go_sem] theorem en_182 : enterable Tryz.prog 182 = true := by kernel_rfl -- slices.IndexFunc[[]treasury/api.Move,treasury/api.Move]
@[go_sem] theorem en_183 : enterable Tryz.prog 183 = true := by kernel_rfl -- treasury/court.outside
@[go_sem] theorem en_184 : enterable Tryz.prog 184 = true := by kernel_rfl -- treasury/court.posting
@[go_sem] theorem en_186 : enterable Tryz.prog 186 = true := by kernel_rfl -- slices.rotateRight[treasury/api.Holding]
@[go_sem] theorem en_187 : enterable Tryz.prog 187 = true := by kernel_rfl -- slices.Reverse[[]treasury/api.Strip,treasury/api.Strip]
@[go_sem] theorem en_188 : enterable Tryz.prog 188 = true := by kernel_rfl -- slices.swapRangeCmpFunc[treasury/api.Due]
@[go_sem] theorem en_189 : enterable Tryz.prog 189 = true := by kernel_rfl -- treasury/receipt.Take
@[go_sem] theorem en_190 : enterable Tryz.prog 190 = true := by kernel_rfl -- treasury/batch.Add
@[go_sem] theorem en_191 : enterable Tryz.prog 191 = true := by kernel_rfl -- treasury/account.Balance
@[go_sem] theorem en_192 : enterable Tryz.prog 192 = true := by kernel_rfl -- slices.ContainsFunc[[]treasury/api.Entry,treasury/api.Entry]
@[go_sem] theorem en_193 : enterable Tryz.prog 193 = true := by kernel_rfl -- treasury/recall.Order$1
@[go_sem] theorem en_194 : enterable Tryz.prog 194 = true := by kernel_rfl -- treasury/recall.copied
@[go_sem] theorem en_195 : enterable Tryz.prog 195 = true := by kernel_rfl -- treasury/recall.place
@[go_sem] theorem en_196 : enterable Tryz.prog 196 = true := by kernel_rfl -- slices.Insert[[]treasury/api.Item,treasury/api.Item]
@[go_sem] theorem en_197 : enterable Tryz.prog 197 = true := by kernel_rfl -- treasury/recall.lastDay
@[go_sem] theorem en_198 : enterable Tryz.prog 198 = true := by kernel_rfl -- treasury/calendar.Business
@[go_sem] theorem en_199 : enterable Tryz.prog 199 = true := by kernel_rfl -- treasury/batch.Ready
@[go_sem] theorem en_200 : enterable Tryz.prog 200 = true := by kernel_rfl -- treasury/account.Post
@[go_sem] theorem en_201 : enterable Tryz.prog 201 = true := by kernel_rfl -- treasury/account.Next
@[go_sem] theorem en_202 : enterable Tryz.prog 202 = true := by kernel_rfl -- treasury/batch.Take
@[go_sem] theorem en_203 : enterable Tryz.prog 203 = true := by kernel_rfl -- treasury/recall.change
@[go_sem] theorem en_204 : enterable Tryz.prog 204 = true := by kernel_rfl -- treasury/recall.Settle$1
@[go_sem] theorem en_205 : enterable Tryz.prog 205 = true := by kernel_rfl -- treasury/recall.Return$1
@[go_sem] theorem en_206 : enterable Tryz.prog 206 = true := by kernel_rfl -- treasury/recall.Recall$1
@[go_sem] theorem en_207 : enterable Tryz.prog 207 = true := by kernel_rfl -- treasury/batch.Drop
@[go_sem] theorem en_208 : enterable Tryz.prog 208 = true := by kernel_rfl -- treasury/ledger.Last
@[go_sem] theorem en_209 : enterable Tryz.prog 209 = true := by kernel_rfl -- treasury/account.positive
@[go_sem] theorem en_210 : enterable Tryz.prog 210 = true := by kernel_rfl -- (*treasury/account.teller).known
@[go_sem] theorem en_211 : enterable Tryz.prog 211 = true := by kernel_rfl -- (*treasury/account.teller).add
@[go_sem] theorem en_212 : enterable Tryz.prog 212 = true := by kernel_rfl -- treasury/batch.Check
@[go_sem] theorem en_213 : enterable Tryz.prog 213 = true := by kernel_rfl -- treasury/recall.right
@[go_sem] theorem en_214 : enterable Tryz.prog 214 = true := by kernel_rfl -- treasury/receipt.claims
@[go_sem] theorem en_215 : enterable Tryz.prog 215 = true := by kernel_rfl -- treasury/receipt.incomes
@[go_sem] theorem en_216 : enterable Tryz.prog 216 = true := by kernel_rfl -- treasury/receipt.matched
@[go_sem] theorem en_217 : enterable Tryz.prog 217 = true := by kernel_rfl -- slices.IndexFunc[[]treasury/api.Entry,treasury/api.Entry]
@[go_sem] theorem en_218 : enterable Tryz.prog 218 = true := by kernel_rfl -- slices.rotateLeft[treasury/api.Holding]
@[go_sem] theorem en_219 : enterable Tryz.prog 219 = true := by kernel_rfl -- treasury/receipt.income
@[go_sem] theorem en_220 : enterable Tryz.prog 220 = true := by kernel_rfl -- treasury/receipt.copied
@[go_sem] theorem en_221 : enterable Tryz.prog 221 = true := by kernel_rfl -- treasury/receipt.claimAt
@[go_sem] theorem en_222 : enterable Tryz.prog 222 = true := by kernel_rfl -- treasury/receipt.match
@[go_sem] theorem en_223 : enterable Tryz.prog 223 = true := by kernel_rfl -- treasury/receipt.exact
@[go_sem] theorem en_224 : enterable Tryz.prog 224 = true := by kernel_rfl -- treasury/receipt.open
@[go_sem] theorem en_225 : enterable Tryz.prog 225 = true := by kernel_rfl -- slices.BinarySearch[[]int,int]
@[go_sem] theorem en_226 : enterable Tryz.prog 226 = true := by kernel_rfl -- treasury/batch.Payment
@[go_sem] theorem en_227 : enterable Tryz.prog 227 = true := by kernel_rfl -- treasury/batch.wait
@[go_sem] theorem en_228 : enterable Tryz.prog 228 = true := by kernel_rfl -- treasury/batch.Copy
@[go_sem] theorem en_229 : enterable Tryz.prog 229 = true := by kernel_rfl -- slices.Insert[[]int,int]
@[go_sem] theorem en_230 : enterable Tryz.prog 230 = true := by kernel_rfl -- slices.IndexFunc[[]treasury/api.Sub,treasury/api.Sub]
@[go_sem] theorem en_231 : enterable Tryz.prog 231 = true := by kernel_rfl -- treasury/account.Balance$1
@[go_sem] theorem en_232 : enterable Tryz.prog 232 = true := by kernel_rfl -- treasury/recall.copyAccount
@[go_sem] theorem en_233 : enterable Tryz.prog 233 = true := by kernel_rfl -- slices.BinarySearchFunc[[]treasury/api.Item,treasury/api.Item,int]
@[go_sem] theorem en_234 : enterable Tryz.prog 234 = true := by kernel_rfl -- treasury/recall.place$1
@[go_sem] theorem en_236 : enterable Tryz.prog 236 = true := by kernel_rfl -- slices.rotateRight[treasury/api.Item]
@[go_sem] theorem en_237 : enterable Tryz.prog 237 = true := by kernel_rfl -- treasury/calendar.Valid
@[go_sem] theorem en_238 : enterable Tryz.prog 238 = true := by kernel_rfl -- slices.DeleteFunc[[]treasury/api.Payment,treasury/api.Payment]
@[go_sem] theorem en_239 : enterable Tryz.prog 239 = true := by kernel_rfl -- treasury/batch.Ready$1
@[go_sem] theorem en_240 : enterable Tryz.prog 240 = true := by kernel_rfl -- treasury/batch.Take$1
@[go_sem] theorem en_241 : enterable Tryz.prog 241 = true := by kernel_rfl -- treasury/batch.Take$2
@[go_sem] theorem en_242 : enterable Tryz.prog 242 = true := by kernel_rfl -- treasury/batch.waits
@[go_sem] theorem en_243 : enterable Tryz.prog 243 = true := by kernel_rfl -- slices.Delete[[]treasury/api.Payment,treasury/api.Payment]
@[go_sem] theorem en_244 : enterable Tryz.prog 244 = true := by kernel_rfl -- (*treasury/account.teller).place
@[go_sem] theorem en_245 : enterable Tryz.prog 245 = true := by kernel_rfl -- treasury/batch.ordered
@[go_sem] theorem en_246 : enterable Tryz.prog 246 = true := by kernel_rfl -- treasury/batch.known
@[go_sem] theorem en_247 : enterable Tryz.prog 247 = true := by kernel_rfl -- treasury/batch.strange
@[go_sem] theorem en_248 : enterable Tryz.prog 248 = true := by kernel_rfl -- treasury/batch.twice
@[go_sem] theorem en_249 : enterable Tryz.prog 249 = true := by kernel_rfl -- treasury/batch.sent
@[go_sem] theorem en_250 : enterable Tryz.prog 250 = true := by kernel_rfl -- slices.Contains[[]treasury/api.Payment,treasury/api.Payment]
@[go_sem] theorem en_251 : enterable Tryz.prog 251 = true := by kernel_rfl -- treasury/recall.sent
@[go_sem] theorem en_252 : enterable Tryz.prog 252 = true := by kernel_rfl -- treasury/recall.moved
@[go_sem] theorem en_253 : enterable Tryz.prog 253 = true := by kernel_rfl -- treasury/receipt.Claim
@[go_sem] theorem en_254 : enterable Tryz.prog 254 = true := by kernel_rfl -- treasury/receipt.incomeAt
@[go_sem] theorem en_255 : enterable Tryz.prog 255 = true := by kernel_rfl -- slices.Reverse[[]treasury/api.Holding,treasury/api.Holding]
@[go_sem] theorem en_256 : enterable Tryz.prog 256 = true := by kernel_rfl -- treasury/receipt.among
@[go_sem] theorem en_257 : enterable Tryz.prog 257 = true := by kernel_rfl -- treasury/receipt.positive
@[go_sem] theorem en_258 : enterable Tryz.prog 258 = true := by kernel_rfl -- slices.IndexFunc[[]treasury/api.Claim,treasury/api.Claim]
@[go_sem] theorem en_259 : enterable Tryz.prog 259 = true := by kernel_rfl -- treasury/receipt.claimAt$1
@[go_sem] theorem en_260 : enterable Tryz.prog 260 = true := by kernel_rfl -- treasury/receipt.exact$1
@[go_sem] theorem en_261 : enterable Tryz.prog 261 = true := by kernel_rfl -- slices.SortStableFunc[[]int,int]
@[go_sem] theorem en_262 : enterable Tryz.prog 262 = true := by kernel_rfl -- treasury/receipt.open$1
@[go_sem] theorem en_263 : enterable Tryz.prog 263 = true := by kernel_rfl -- cmp.Less[int]
@[go_sem] theorem en_264 : enterable Tryz.prog 264 = true := by kernel_rfl -- slices.isNaN[int]
@[go_sem] theorem en_265 : enterable Tryz.prog 265 = true := by kernel_rfl -- treasury/batch.among
@[go_sem] theorem en_266 : enterable Tryz.prog 266 = true := by kernel_rfl -- slices.BinarySearchFunc[[]treasury/api.Payment,treasury/api.Payment,treasury/api.Payment]
@[go_sem] theorem en_267 : enterable Tryz.prog 267 = true := by kernel_rfl -- treasury/batch.compare
@[go_sem] theorem en_268 : enterable Tryz.prog 268 = true := by kernel_rfl -- slices.Insert[[]treasury/api.Payment,treasury/api.Payment]
@[go_sem] theorem en_270 : enterable Tryz.prog 270 = true := by kernel_rfl -- slices.rotateRight[int]
@[go_sem] theorem en_271 : enterable Tryz.prog 271 = true := by kernel_rfl -- slices.rotateLeft[treasury/api.Item]
@[go_sem] theorem en_272 : enterable Tryz.prog 272 = true := by kernel_rfl -- slices.IndexFunc[[]treasury/api.Payment,treasury/api.Payment]
@[go_sem] theorem en_273 : enterable Tryz.prog 273 = true := by kernel_rfl -- treasury/batch.waits$1
@[go_sem] theorem en_274 : enterable Tryz.prog 274 = true := by kernel_rfl -- (*treasury/account.teller).place$1
@[go_sem] theorem en_275 : enterable Tryz.prog 275 = true := by kernel_rfl -- slices.ContainsFunc[[]treasury/api.Payment,treasury/api.Payment]
@[go_sem] theorem en_276 : enterable Tryz.prog 276 = true := by kernel_rfl -- treasury/batch.strange$1
@[go_sem] theorem en_277 : enterable Tryz.prog 277 = true := by kernel_rfl -- slices.Index[[]treasury/api.Payment,treasury/api.Payment]
@[go_sem] theorem en_278 : enterable Tryz.prog 278 = true := by kernel_rfl -- treasury/recall.sent$1
@[go_sem] theorem en_279 : enterable Tryz.prog 279 = true := by kernel_rfl -- treasury/recall.out
@[go_sem] theorem en_280 : enterable Tryz.prog 280 = true := by kernel_rfl -- treasury/classification.Parts
@[go_sem] theorem en_281 : enterable Tryz.prog 281 = true := by kernel_rfl -- slices.IndexFunc[[]treasury/api.Income,treasury/api.Income]
@[go_sem] theorem en_282 : enterable Tryz.prog 282 = true := by kernel_rfl -- treasury/receipt.incomeAt$1
@[go_sem] theorem en_283 : enterable Tryz.prog 283 = true := by kernel_rfl -- slices.stableCmpFunc[int]
@[go_sem] theorem en_285 : enterable Tryz.prog 285 = true := by kernel_rfl -- slices.rotateRight[treasury/api.Payment]
@[go_sem] theorem en_286 : enterable Tryz.prog 286 = true := by kernel_rfl -- slices.rotateLeft[int]
@[go_sem] theorem en_287 : enterable Tryz.prog 287 = true := by kernel_rfl -- slices.Reverse[[]treasury/api.Item,treasury/api.Item]
@[go_sem] theorem en_288 : enterable Tryz.prog 288 = true := by kernel_rfl -- strings.SplitSeq
@[go_sem] theorem en_289 : enterable Tryz.prog 289 = true := by kernel_rfl -- strconv.Atoi
@[go_sem] theorem en_290 : enterable Tryz.prog 290 = true := by kernel_rfl -- strconv.Itoa
@[go_sem] theorem en_291 : enterable Tryz.prog 291 = true := by kernel_rfl -- slices.insertionSortCmpFunc[int]
@[go_sem] theorem en_292 : enterable Tryz.prog 292 = true := by kernel_rfl -- slices.symMergeCmpFunc[int]
@[go_sem] theorem en_293 : enterable Tryz.prog 293 = true := by kernel_rfl -- slices.rotateLeft[treasury/api.Payment]
@[go_sem] theorem en_294 : enterable Tryz.prog 294 = true := by kernel_rfl -- slices.Reverse[[]int,int]
@[go_sem] theorem en_295 : enterable Tryz.prog 295 = true := by kernel_rfl -- strings.splitSeq
@[go_sem] theorem en_297 : enterable Tryz.prog 297 = true := by kernel_rfl -- strconv.toError
@[go_sem] theorem en_299 : enterable Tryz.prog 299 = true := by kernel_rfl -- slices.rotateCmpFunc[int]
@[go_sem] theorem en_300 : enterable Tryz.prog 300 = true := by kernel_rfl -- slices.Reverse[[]treasury/api.Payment,treasury/api.Payment]
@[go_sem] theorem en_301 : enterable Tryz.prog 301 = true := by kernel_rfl -- strings.splitSeq$1
@[go_sem] theorem en_302 : enterable Tryz.prog 302 = true := by kernel_rfl -- unicode/utf8.DecodeRuneInString
@[go_sem] theorem en_303 : enterable Tryz.prog 303 = true := by kernel_rfl -- strings.Index
@[go_sem] theorem en_305 : enterable Tryz.prog 305 = true := by kernel_rfl -- strconv.syntaxError
@[go_sem] theorem en_306 : enterable Tryz.prog 306 = true := by kernel_rfl -- strconv.rangeError
@[go_sem] theorem en_307 : enterable Tryz.prog 307 = true := by kernel_rfl -- strconv.baseError
@[go_sem] theorem en_308 : enterable Tryz.prog 308 = true := by kernel_rfl -- strconv.bitSizeError
@[go_sem] theorem en_310 : enterable Tryz.prog 310 = true := by kernel_rfl -- slices.swapRangeCmpFunc[int]
@[go_sem] theorem en_311 : enterable Tryz.prog 311 = true := by kernel_rfl -- unicode/utf8.decodeRuneInStringSlow
@[go_sem] theorem en_315 : enterable Tryz.prog 315 = true := by kernel_rfl -- errors.New
@[go_sem] theorem en_327 : enterable Tryz.prog 327 = true := by kernel_rfl -- math/bits.Len64
@[go_sem] theorem en_330 : enterable Tryz.prog 330 = true := by kernel_rfl -- math/bits.TrailingZeros
@[go_sem] theorem en_333 : enterable Tryz.prog 333 = true := by kernel_rfl -- math/bits.TrailingZeros32
@[go_sem] theorem en_334 : enterable Tryz.prog 334 = true := by kernel_rfl -- math/bits.TrailingZeros64
@[go_sem] theorem rs_3 : Tryz.f3.results.toList = [.tmp 2] := rfl
@[go_sem] theorem rs_4 : Tryz.f4.results.toList = [.tmp 2] := rfl
@[go_sem] theorem rs_5 : Tryz.f5.results.toList = [.tmp 6] := rfl
@[go_sem] theorem rs_6 : Tryz.f6.results.toList = [.tmp 4] := rfl
@[go_sem] theorem rs_7 : Tryz.f7.results.toList = [.cell 4 33, .tmp 5] := rfl
@[go_sem] theorem rs_8 : Tryz.f8.results.toList = [.cell 10 33, .tmp 11] := rfl
@[go_sem] theorem rs_9 : Tryz.f9.results.toList = [.cell 2 40, .tmp 3] := rfl
@[go_sem] theorem rs_10 : Tryz.f10.results.toList = [.tmp 4] := rfl
@[go_sem] theorem rs_11 : Tryz.f11.results.toList = [.cell 10 40, .tmp 11] := rfl
@[go_sem] theorem rs_12 : Tryz.f12.results.toList = [.tmp 2] := rfl
@[go_sem] theorem rs_13 : Tryz.f13.results.toList = [.tmp 4, .tmp 5] := rfl
@[go_sem] theorem rs_14 : Tryz.f14.results.toList = [.cell 4 40, .tmp 5] := rfl
@[go_sem] theorem rs_15 : Tryz.f15.results.toList = [.tmp 6] := rfl
@[go_sem] theorem rs_16 : Tryz.f16.results.toList = [.tmp 2] := rfl
@[go_sem] theorem rs_17 : Tryz.f17.results.toList = [.tmp 0] := rfl
@[go_sem] theorem rs_18 : Tryz.f18.results.toList = [.tmp 2] := rfl
@[go_sem] theorem rs_19 : Tryz.f19.results.toList = [.tmp 6, .tmp 7] := rfl
@[go_sem] theorem rs_20 : Tryz.f20.results.toList = [.tmp 4] := rfl
@[go_sem] theorem rs_21 : Tryz.f21.results.toList = [.tmp 4] := rfl
@[go_sem] theorem rs_22 : Tryz.f22.results.toList = [.tmp 2] := rfl
@[go_sem] theorem rs_23 : Tryz.f23.results.toList = [.cell 2 33] := rfl
@[go_sem] theorem rs_24 : Tryz.f24.results.toList = [.tmp 6] := rfl
@[go_sem] theorem rs_25 : Tryz.f25.results.toList = [.cell 4 33, .tmp 5] := rfl
@[go_sem] theorem rs_26 : Tryz.f26.results.toList = [.tmp 4] := rfl
@[go_sem] theorem rs_27 : Tryz.f27.results.toList = [.tmp 2] := rfl
@[go_sem] theorem rs_28 : Tryz.f28.results.toList = [.cell 4 28, .tmp 5] := rfl
@[go_sem] theorem rs_29 : Tryz.f29.results.toList = [.cell 12 33, .tmp 13] := rfl
@[go_sem] theorem rs_30 : Tryz.f30.results.toList = [.tmp 8, .tmp 9] := rfl
@[go_sem] theorem rs_31 : Tryz.f31.results.toList = [.tmp 2] := rfl
@[go_sem] theorem rs_32 : Tryz.f32.results.toList = [.tmp 6] := rfl
@[go_sem] theorem rs_33 : Tryz.f33.results.toList = [.tmp 4, .tmp 5] := rfl
@[go_sem] theorem rs_34 : Tryz.f34.results.toList = [.tmp 4] := rfl
@[go_sem] theorem rs_35 : Tryz.f35.results.toList = [.tmp 2] := rfl
@[go_sem] theorem rs_36 : Tryz.f36.results.toList = [.cell 4 28, .tmp 5] := rfl
@[go_sem] theorem rs_37 : Tryz.f37.results.toList = [.tmp 4, .tmp 5] := rfl
@[go_sem] theorem rs_38 : Tryz.f38.results.toList = [] := rfl
@[go_sem] theorem rs_39 : Tryz.f39.results.toList = [.tmp 4] := rfl
@[go_sem] theorem rs_40 : Tryz.f40.results.toList = [.tmp 4] := rfl
@[go_sem] theorem rs_41 : Tryz.f41.results.toList = [.tmp 3] := rfl
@[go_sem] theorem rs_42 : Tryz.f42.results.toList = [.cell 10 33, .tmp 11] := rfl
@[go_sem] theorem rs_43 : Tryz.f43.results.toList = [.tmp 6] := rfl
@[go_sem] theorem rs_44 : Tryz.f44.results.toList = [.tmp 6] := rfl
@[go_sem] theorem rs_45 : Tryz.f45.results.toList = [.tmp 2] := rfl
@[go_sem] theorem rs_46 : Tryz.f46.results.toList = [.tmp 4] := rfl
@[go_sem] theorem rs_47 : Tryz.f47.results.toList = [.tmp 4] := rfl
@[go_sem] theorem rs_48 : Tryz.f48.results.toList = [.tmp 4] := rfl
@[go_sem] theorem rs_49 : Tryz.f49.results.toList = [.tmp 3] := rfl
@[go_sem] theorem rs_50 : Tryz.f50.results.toList = [.tmp 4] := rfl
@[go_sem] theorem rs_51 : Tryz.f51.results.toList = [.cell 6 121, .tmp 7] := rfl
@[go_sem] theorem rs_52 : Tryz.f52.results.toList = [.cell 4 121, .tmp 5, .tmp 6] := rfl
@[go_sem] theorem rs_53 : Tryz.f53.results.toList = [.tmp 2] := rfl
@[go_sem] theorem rs_54 : Tryz.f54.results.toList = [.tmp 8] := rfl
@[go_sem] theorem rs_55 : Tryz.f55.results.toList = [.tmp 2] := rfl
@[go_sem] theorem rs_56 : Tryz.f56.results.toList = [.tmp 4, .tmp 5] := rfl
@[go_sem] theorem rs_57 : Tryz.f57.results.toList = [.tmp 2] := rfl
@[go_sem] theorem rs_58 : Tryz.f58.results.toList = [.tmp 4] := rfl
@[go_sem] theorem rs_59 : Tryz.f59.results.toList = [.tmp 2] := rfl
@[go_sem] theorem rs_60 : Tryz.f60.results.toList = [.tmp 6] := rfl
@[go_sem] theorem rs_61 : Tryz.f61.results.toList = [.tmp 2] := rfl
@[go_sem] theorem rs_62 : Tryz.f62.results.toList = [.tmp 2] := rfl
@[go_sem] theorem rs_63 : Tryz.f63.results.toList = [.tmp 2] := rfl
@[go_sem] theorem rs_64 : Tryz.f64.results.toList = [] := rfl
@[go_sem] theorem rs_65 : Tryz.f65.results.toList = [] := rfl
@[go_sem] theorem rs_66 : Tryz.f66.results.toList = [.tmp 4] := rfl
@[go_sem] theorem rs_67 : Tryz.f67.results.toList = [.tmp 4] := rfl
@[go_sem] theorem rs_68 : Tryz.f68.results.toList = [.tmp 4] := rfl
@[go_sem] theorem rs_69 : Tryz.f69.results.toList = [.tmp 4] := rfl
@[go_sem] theorem rs_70 : Tryz.f70.results.toList = [.tmp 4] := rfl
@[go_sem] theorem rs_71 : Tryz.f71.results.toList = [.tmp 6, .tmp 7] := rfl
@[go_sem] theorem rs_72 : Tryz.f72.results.toList = [.tmp 6] := rfl
@[go_sem] theorem rs_73 : Tryz.f73.results.toList = [.tmp 6] := rfl
@[go_sem] theorem rs_74 : Tryz.f74.results.toList = [.tmp 6] := rfl
@[go_sem] theorem rs_75 : Tryz.f75.results.toList = [.tmp 4] := rfl
@[go_sem] theorem rs_76 : Tryz.f76.results.toList = [.tmp 6] := rfl
@[go_sem] theorem rs_77 : Tryz.f77.results.toList = [.tmp 4] := rfl
@[go_sem] theorem rs_78 : Tryz.f78.results.toList = [.cell 4 28, .tmp 5] := rfl
@[go_sem] theorem rs_79 : Tryz.f79.results.toList = [.tmp 4] := rfl
@[go_sem] theorem rs_80 : Tryz.f80.results.toList = [.tmp 4] := rfl
@[go_sem] theorem rs_81 : Tryz.f81.results.toList = [] := rfl
@[go_sem] theorem rs_82 : Tryz.f82.results.toList = [.tmp 2] := rfl
@[go_sem] theorem rs_83 : Tryz.f83.results.toList = [.tmp 4] := rfl
@[go_sem] theorem rs_84 : Tryz.f84.results.toList = [.tmp 4, .tmp 5] := rfl
@[go_sem] theorem rs_85 : Tryz.f85.results.toList = [.tmp 4] := rfl
@[go_sem] theorem rs_86 : Tryz.f86.results.toList = [.tmp 2] := rfl
@[go_sem] theorem rs_87 : Tryz.f87.results.toList = [.tmp 4] := rfl
@[go_sem] theorem rs_88 : Tryz.f88.results.toList = [.tmp 8] := rfl
@[go_sem] theorem rs_89 : Tryz.f89.results.toList = [.tmp 5] := rfl
@[go_sem] theorem rs_90 : Tryz.f90.results.toList = [.tmp 4] := rfl
@[go_sem] theorem rs_91 : Tryz.f91.results.toList = [.cell 4 104, .tmp 5] := rfl
@[go_sem] theorem rs_92 : Tryz.f92.results.toList = [.cell 2 121] := rfl
@[go_sem] theorem rs_93 : Tryz.f93.results.toList = [.cell 4 121, .tmp 5] := rfl
@[go_sem] theorem rs_94 : Tryz.f94.results.toList = [.tmp 2] := rfl
@[go_sem] theorem rs_95 : Tryz.f95.results.toList = [.tmp 2] := rfl
@[go_sem] theorem rs_96 : Tryz.f96.results.toList = [.tmp 4] := rfl
@[go_sem] theorem rs_97 : Tryz.f97.results.toList = [.tmp 6] := rfl
@[go_sem] theorem rs_98 : Tryz.f98.results.toList = [.tmp 2] := rfl
@[go_sem] theorem rs_99 : Tryz.f99.results.toList = [] := rfl
@[go_sem] theorem rs_100 : Tryz.f100.results.toList = [.tmp 2] := rfl
@[go_sem] theorem rs_101 : Tryz.f101.results.toList = [.tmp 2] := rfl
@[go_sem] theorem rs_102 : Tryz.f102.results.toList = [.tmp 4] := rfl
@[go_sem] theorem rs_103 : Tryz.f103.results.toList = [] := rfl
@[go_sem] theorem rs_104 : Tryz.f104.results.toList = [.tmp 4] := rfl
@[go_sem] theorem rs_105 : Tryz.f105.results.toList = [.tmp 4] := rfl
@[go_sem] theorem rs_106 : Tryz.f106.results.toList = [] := rfl
@[go_sem] theorem rs_107 : Tryz.f107.results.toList = [] := rfl
@[go_sem] theorem rs_108 : Tryz.f108.results.toList = [.tmp 3] := rfl
@[go_sem] theorem rs_109 : Tryz.f109.results.toList = [.tmp 10, .tmp 11] := rfl
@[go_sem] theorem rs_110 : Tryz.f110.results.toList = [.tmp 3, .tmp 4] := rfl
@[go_sem] theorem rs_111 : Tryz.f111.results.toList = [.tmp 2, .tmp 3] := rfl
@[go_sem] theorem rs_112 : Tryz.f112.results.toList = [.tmp 3] := rfl
@[go_sem] theorem rs_113 : Tryz.f113.results.toList = [] := rfl
@[go_sem] theorem rs_114 : Tryz.f114.results.toList = [] := rfl
@[go_sem] theorem rs_115 : Tryz.f115.results.toList = [.tmp 6, .tmp 7] := rfl
@[go_sem] theorem rs_116 : Tryz.f116.results.toList = [.tmp 4] := rfl
@[go_sem] theorem rs_117 : Tryz.f117.results.toList = [.cell 2 160] := rfl
@[go_sem] theorem rs_118 : Tryz.f118.results.toList = [.tmp 4] := rfl
@[go_sem] theorem rs_119 : Tryz.f119.results.toList = [.tmp 4] := rfl
@[go_sem] theorem rs_120 : Tryz.f120.results.toList = [.tmp 4] := rfl
@[go_sem] theorem rs_121 : Tryz.f121.results.toList = [.tmp 2] := rfl
@[go_sem] theorem rs_122 : Tryz.f122.results.toList = [.tmp 2] := rfl
@[go_sem] theorem rs_123 : Tryz.f123.results.toList = [.tmp 2] := rfl
@[go_sem] theorem rs_124 : Tryz.f124.results.toList = [.tmp 2] := rfl
@[go_sem] theorem rs_125 : Tryz.f125.results.toList = [.tmp 2] := rfl
@[go_sem] theorem rs_126 : Tryz.f126.results.toList = [.tmp 2] := rfl
@[go_sem] theorem rs_127 : Tryz.f127.results.toList = [.tmp 2] := rfl
@[go_sem] theorem rs_128 : Tryz.f128.results.toList = [.tmp 2] := rfl
@[go_sem] theorem rs_129 : Tryz.f129.results.toList = [.tmp 2] := rfl
@[go_sem] theorem rs_130 : Tryz.f130.results.toList = [.tmp 2] := rfl
@[go_sem] theorem rs_131 : Tryz.f131.results.toList = [.tmp 4] := rfl
@[go_sem] theorem rs_132 : Tryz.f132.results.toList = [.tmp 4] := rfl
@[go_sem] theorem rs_133 : Tryz.f133.results.toList = [.tmp 2] := rfl
@[go_sem] theorem rs_134 : Tryz.f134.results.toList = [.tmp 4, .tmp 5] := rfl
@[go_sem] theorem rs_135 : Tryz.f135.results.toList = [.tmp 2] := rfl
@[go_sem] theorem rs_136 : Tryz.f136.results.toList = [.tmp 4] := rfl
@[go_sem] theorem rs_137 : Tryz.f137.results.toList = [.tmp 4] := rfl
@[go_sem] theorem rs_138 : Tryz.f138.results.toList = [.tmp 2] := rfl
@[go_sem] theorem rs_139 : Tryz.f139.results.toList = [.tmp 2] := rfl
@[go_sem] theorem rs_140 : Tryz.f140.results.toList = [.tmp 5] := rfl
@[go_sem] theorem rs_141 : Tryz.f141.results.toList = [.tmp 6] := rfl
@[go_sem] theorem rs_142 : Tryz.f142.results.toList = [.tmp 2] := rfl
@[go_sem] theorem rs_143 : Tryz.f143.results.toList = [.tmp 6, .tmp 7] := rfl
@[go_sem] theorem rs_144 : Tryz.f144.results.toList = [.tmp 4] := rfl
@[go_sem] theorem rs_145 : Tryz.f145.results.toList = [.tmp 2] := rfl
@[go_sem] theorem rs_146 : Tryz.f146.results.toList = [.tmp 4] := rfl
@[go_sem] theorem rs_147 : Tryz.f147.results.toList = [.tmp 4] := rfl
@[go_sem] theorem rs_148 : Tryz.f148.results.toList = [.tmp 2] := rfl
@[go_sem] theorem rs_149 : Tryz.f149.results.toList = [.tmp 4] := rfl
@[go_sem] theorem rs_150 : Tryz.f150.results.toList = [.tmp 6, .tmp 7] := rfl
@[go_sem] theorem rs_151 : Tryz.f151.results.toList = [.tmp 2] := rfl
@[go_sem] theorem rs_152 : Tryz.f152.results.toList = [.tmp 6, .tmp 7] := rfl
@[go_sem] theorem rs_153 : Tryz.f153.results.toList = [.tmp 4] := rfl
@[go_sem] theorem rs_154 : Tryz.f154.results.toList = [.tmp 4] := rfl
@[go_sem] theorem rs_155 : Tryz.f155.results.toList = [] := rfl
@[go_sem] theorem rs_156 : Tryz.f156.results.toList = [.tmp 2] := rfl
@[go_sem] theorem rs_157 : Tryz.f157.results.toList = [.tmp 6] := rfl
@[go_sem] theorem rs_158 : Tryz.f158.results.toList = [.tmp 6] := rfl
@[go_sem] theorem rs_159 : Tryz.f159.results.toList = [] := rfl
@[go_sem] theorem rs_160 : Tryz.f160.results.toList = [.tmp 7] := rfl
@[go_sem] theorem rs_161 : Tryz.f161.results.toList = [] := rfl
@[go_sem] theorem rs_162 : Tryz.f162.results.toList = [.tmp 6] := rfl
@[go_sem] theorem rs_163 : Tryz.f163.results.toList = [.tmp 4] := rfl
@[go_sem] theorem rs_164 : Tryz.f164.results.toList = [.tmp 6] := rfl
@[go_sem] theorem rs_165 : Tryz.f165.results.toList = [.cell 4 111, .tmp 5] := rfl
@[go_sem] theorem rs_166 : Tryz.f166.results.toList = [.cell 4 111, .cell 5 205, .tmp 6] := rfl
@[go_sem] theorem rs_167 : Tryz.f167.results.toList = [.cell 4 111, .tmp 5] := rfl
@[go_sem] theorem rs_168 : Tryz.f168.results.toList = [.cell 6 111, .tmp 7] := rfl
@[go_sem] theorem rs_169 : Tryz.f169.results.toList = [.cell 4 111, .tmp 5] := rfl
@[go_sem] theorem rs_170 : Tryz.f170.results.toList = [.tmp 12] := rfl
@[go_sem] theorem rs_171 : Tryz.f171.results.toList = [.tmp 8] := rfl
@[go_sem] theorem rs_172 : Tryz.f172.results.toList = [.cell 4 119, .tmp 5] := rfl
@[go_sem] theorem rs_173 : Tryz.f173.results.toList = [.tmp 2] := rfl
@[go_sem] theorem rs_174 : Tryz.f174.results.toList = [.tmp 4] := rfl
@[go_sem] theorem rs_175 : Tryz.f175.results.toList = [.tmp 4] := rfl
@[go_sem] theorem rs_176 : Tryz.f176.results.toList = [.tmp 2] := rfl
@[go_sem] theorem rs_177 : Tryz.f177.results.toList = [.tmp 2] := rfl
@[go_sem] theorem rs_178 : Tryz.f178.results.toList = [.tmp 2] := rfl
@[go_sem] theorem rs_179 : Tryz.f179.results.toList = [.tmp 2] := rfl
@[go_sem] theorem rs_180 : Tryz.f180.results.toList = [.tmp 4] := rfl
@[go_sem] theorem rs_181 : Tryz.f181.results.toList = [.tmp 3] := rfl
@[go_sem] theorem rs_182 : Tryz.f182.results.toList = [.tmp 4] := rfl
@[go_sem] theorem rs_183 : Tryz.f183.results.toList = [.tmp 2] := rfl
@[go_sem] theorem rs_184 : Tryz.f184.results.toList = [.cell 4 221] := rfl
@[go_sem] theorem rs_185 : Tryz.f185.results.toList = [] := rfl
@[go_sem] theorem rs_186 : Tryz.f186.results.toList = [] := rfl
@[go_sem] theorem rs_187 : Tryz.f187.results.toList = [] := rfl
@[go_sem] theorem rs_188 : Tryz.f188.results.toList = [] := rfl
@[go_sem] theorem rs_189 : Tryz.f189.results.toList = [.cell 4 116, .tmp 5, .tmp 6] := rfl
@[go_sem] theorem rs_190 : Tryz.f190.results.toList = [.cell 4 108, .tmp 5] := rfl
@[go_sem] theorem rs_191 : Tryz.f191.results.toList = [.tmp 4, .tmp 5] := rfl
@[go_sem] theorem rs_192 : Tryz.f192.results.toList = [.tmp 4] := rfl
@[go_sem] theorem rs_193 : Tryz.f193.results.toList = [.tmp 3] := rfl
@[go_sem] theorem rs_194 : Tryz.f194.results.toList = [.cell 2 111] := rfl
@[go_sem] theorem rs_195 : Tryz.f195.results.toList = [.tmp 4, .tmp 5] := rfl
@[go_sem] theorem rs_196 : Tryz.f196.results.toList = [.tmp 6] := rfl
@[go_sem] theorem rs_197 : Tryz.f197.results.toList = [.tmp 2] := rfl
@[go_sem] theorem rs_198 : Tryz.f198.results.toList = [.tmp 2] := rfl
@[go_sem] theorem rs_199 : Tryz.f199.results.toList = [.tmp 4] := rfl
@[go_sem] theorem rs_200 : Tryz.f200.results.toList = [.cell 4 104, .tmp 5] := rfl
@[go_sem] theorem rs_201 : Tryz.f201.results.toList = [.cell 12 199] := rfl
@[go_sem] theorem rs_202 : Tryz.f202.results.toList = [.cell 6 108, .cell 7 205, .tmp 8] := rfl
@[go_sem] theorem rs_203 : Tryz.f203.results.toList = [.cell 8 111, .tmp 9] := rfl
@[go_sem] theorem rs_204 : Tryz.f204.results.toList = [.tmp 4] := rfl
@[go_sem] theorem rs_205 : Tryz.f205.results.toList = [.tmp 6] := rfl
@[go_sem] theorem rs_206 : Tryz.f206.results.toList = [.tmp 5] := rfl
@[go_sem] theorem rs_207 : Tryz.f207.results.toList = [.cell 4 108, .tmp 5] := rfl
@[go_sem] theorem rs_208 : Tryz.f208.results.toList = [.tmp 2] := rfl
@[go_sem] theorem rs_209 : Tryz.f209.results.toList = [.tmp 2] := rfl
@[go_sem] theorem rs_210 : Tryz.f210.results.toList = [.tmp 4] := rfl
@[go_sem] theorem rs_211 : Tryz.f211.results.toList = [.tmp 6] := rfl
@[go_sem] theorem rs_212 : Tryz.f212.results.toList = [.tmp 2] := rfl
@[go_sem] theorem rs_213 : Tryz.f213.results.toList = [.tmp 4] := rfl
@[go_sem] theorem rs_214 : Tryz.f214.results.toList = [.tmp 2] := rfl
@[go_sem] theorem rs_215 : Tryz.f215.results.toList = [.tmp 2] := rfl
@[go_sem] theorem rs_216 : Tryz.f216.results.toList = [.tmp 2] := rfl
@[go_sem] theorem rs_217 : Tryz.f217.results.toList = [.tmp 4] := rfl
@[go_sem] theorem rs_218 : Tryz.f218.results.toList = [] := rfl
@[go_sem] theorem rs_219 : Tryz.f219.results.toList = [.tmp 2] := rfl
@[go_sem] theorem rs_220 : Tryz.f220.results.toList = [.tmp 2] := rfl
@[go_sem] theorem rs_221 : Tryz.f221.results.toList = [.tmp 4] := rfl
@[go_sem] theorem rs_222 : Tryz.f222.results.toList = [] := rfl
@[go_sem] theorem rs_223 : Tryz.f223.results.toList = [.tmp 6] := rfl
@[go_sem] theorem rs_224 : Tryz.f224.results.toList = [.tmp 4] := rfl
@[go_sem] theorem rs_225 : Tryz.f225.results.toList = [.tmp 4, .tmp 5] := rfl
@[go_sem] theorem rs_226 : Tryz.f226.results.toList = [.tmp 2] := rfl
@[go_sem] theorem rs_227 : Tryz.f227.results.toList = [.cell 4 108] := rfl
@[go_sem] theorem rs_228 : Tryz.f228.results.toList = [.cell 2 108] := rfl
@[go_sem] theorem rs_229 : Tryz.f229.results.toList = [.tmp 6] := rfl
@[go_sem] theorem rs_230 : Tryz.f230.results.toList = [.tmp 4] := rfl
@[go_sem] theorem rs_231 : Tryz.f231.results.toList = [.tmp 3] := rfl
@[go_sem] theorem rs_232 : Tryz.f232.results.toList = [.cell 2 104] := rfl
@[go_sem] theorem rs_233 : Tryz.f233.results.toList = [.tmp 6, .tmp 7] := rfl
@[go_sem] theorem rs_234 : Tryz.f234.results.toList = [.tmp 4] := rfl
@[go_sem] theorem rs_235 : Tryz.f235.results.toList = [] := rfl
@[go_sem] theorem rs_236 : Tryz.f236.results.toList = [] := rfl
@[go_sem] theorem rs_237 : Tryz.f237.results.toList = [.tmp 2] := rfl
@[go_sem] theorem rs_238 : Tryz.f238.results.toList = [.tmp 4] := rfl
@[go_sem] theorem rs_239 : Tryz.f239.results.toList = [.tmp 3] := rfl
@[go_sem] theorem rs_240 : Tryz.f240.results.toList = [.tmp 3] := rfl
@[go_sem] theorem rs_241 : Tryz.f241.results.toList = [.tmp 3] := rfl
@[go_sem] theorem rs_242 : Tryz.f242.results.toList = [.tmp 4] := rfl
@[go_sem] theorem rs_243 : Tryz.f243.results.toList = [.tmp 6] := rfl
@[go_sem] theorem rs_244 : Tryz.f244.results.toList = [.tmp 4] := rfl
@[go_sem] theorem rs_245 : Tryz.f245.results.toList = [.tmp 2] := rfl
@[go_sem] theorem rs_246 : Tryz.f246.results.toList = [.tmp 2] := rfl
@[go_sem] theorem rs_247 : Tryz.f247.results.toList = [.tmp 4] := rfl
@[go_sem] theorem rs_248 : Tryz.f248.results.toList = [.tmp 2] := rfl
@[go_sem] theorem rs_249 : Tryz.f249.results.toList = [.tmp 2] := rfl
@[go_sem] theorem rs_250 : Tryz.f250.results.toList = [.tmp 4] := rfl
@[go_sem] theorem rs_251 : Tryz.f251.results.toList = [.tmp 4] := rfl
@[go_sem] theorem rs_252 : Tryz.f252.results.toList = [.tmp 4] := rfl
@[go_sem] theorem rs_253 : Tryz.f253.results.toList = [.tmp 2] := rfl
@[go_sem] theorem rs_254 : Tryz.f254.results.toList = [.tmp 4] := rfl
@[go_sem] theorem rs_255 : Tryz.f255.results.toList = [] := rfl
@[go_sem] theorem rs_256 : Tryz.f256.results.toList = [.tmp 6] := rfl
@[go_sem] theorem rs_257 : Tryz.f257.results.toList = [.tmp 2] := rfl
@[go_sem] theorem rs_258 : Tryz.f258.results.toList = [.tmp 4] := rfl
@[go_sem] theorem rs_259 : Tryz.f259.results.toList = [.tmp 3] := rfl
@[go_sem] theorem rs_260 : Tryz.f260.results.toList = [.tmp 4] := rfl
@[go_sem] theorem rs_261 : Tryz.f261.results.toList = [] := rfl
@[go_sem] theorem rs_262 : Tryz.f262.results.toList = [.tmp 5] := rfl
@[go_sem] theorem rs_263 : Tryz.f263.results.toList = [.tmp 4] := rfl
@[go_sem] theorem rs_264 : Tryz.f264.results.toList = [.tmp 2] := rfl
@[go_sem] theorem rs_265 : Tryz.f265.results.toList = [.tmp 6] := rfl
@[go_sem] theorem rs_266 : Tryz.f266.results.toList = [.tmp 6, .tmp 7] := rfl
@[go_sem] theorem rs_267 : Tryz.f267.results.toList = [.tmp 4] := rfl
@[go_sem] theorem rs_268 : Tryz.f268.results.toList = [.tmp 6] := rfl
@[go_sem] theorem rs_269 : Tryz.f269.results.toList = [] := rfl
@[go_sem] theorem rs_270 : Tryz.f270.results.toList = [] := rfl
@[go_sem] theorem rs_271 : Tryz.f271.results.toList = [] := rfl
@[go_sem] theorem rs_272 : Tryz.f272.results.toList = [.tmp 4] := rfl
@[go_sem] theorem rs_273 : Tryz.f273.results.toList = [.tmp 3] := rfl
@[go_sem] theorem rs_274 : Tryz.f274.results.toList = [.tmp 3] := rfl
@[go_sem] theorem rs_275 : Tryz.f275.results.toList = [.tmp 4] := rfl
@[go_sem] theorem rs_276 : Tryz.f276.results.toList = [.tmp 3] := rfl
@[go_sem] theorem rs_277 : Tryz.f277.results.toList = [.tmp 4] := rfl
@[go_sem] theorem rs_278 : Tryz.f278.results.toList = [.tmp 3] := rfl
@[go_sem] theorem rs_279 : Tryz.f279.results.toList = [.tmp 2] := rfl
@[go_sem] theorem rs_280 : Tryz.f280.results.toList = [.cell 2 22] := rfl
@[go_sem] theorem rs_281 : Tryz.f281.results.toList = [.tmp 4] := rfl
@[go_sem] theorem rs_282 : Tryz.f282.results.toList = [.tmp 3] := rfl
@[go_sem] theorem rs_283 : Tryz.f283.results.toList = [] := rfl
@[go_sem] theorem rs_284 : Tryz.f284.results.toList = [] := rfl
@[go_sem] theorem rs_285 : Tryz.f285.results.toList = [] := rfl
@[go_sem] theorem rs_286 : Tryz.f286.results.toList = [] := rfl
@[go_sem] theorem rs_287 : Tryz.f287.results.toList = [] := rfl
@[go_sem] theorem rs_288 : Tryz.f288.results.toList = [.tmp 4] := rfl
@[go_sem] theorem rs_289 : Tryz.f289.results.toList = [.tmp 2, .tmp 3] := rfl
@[go_sem] theorem rs_290 : Tryz.f290.results.toList = [.tmp 2] := rfl
@[go_sem] theorem rs_291 : Tryz.f291.results.toList = [] := rfl
@[go_sem] theorem rs_292 : Tryz.f292.results.toList = [] := rfl
@[go_sem] theorem rs_293 : Tryz.f293.results.toList = [] := rfl
@[go_sem] theorem rs_294 : Tryz.f294.results.toList = [] := rfl
@[go_sem] theorem rs_295 : Tryz.f295.results.toList = [.tmp 6] := rfl
@[go_sem] theorem rs_297 : Tryz.f297.results.toList = [.tmp 10] := rfl
@[go_sem] theorem rs_299 : Tryz.f299.results.toList = [] := rfl
@[go_sem] theorem rs_300 : Tryz.f300.results.toList = [] := rfl
@[go_sem] theorem rs_301 : Tryz.f301.results.toList = [] := rfl
@[go_sem] theorem rs_302 : Tryz.f302.results.toList = [.tmp 2, .tmp 3] := rfl
@[go_sem] theorem rs_303 : Tryz.f303.results.toList = [.tmp 4] := rfl
@[go_sem] theorem rs_305 : Tryz.f305.results.toList = [.tmp 4] := rfl
@[go_sem] theorem rs_306 : Tryz.f306.results.toList = [.tmp 4] := rfl
@[go_sem] theorem rs_307 : Tryz.f307.results.toList = [.tmp 6] := rfl
@[go_sem] theorem rs_308 : Tryz.f308.results.toList = [.tmp 6] := rfl
@[go_sem] theorem rs_310 : Tryz.f310.results.toList = [] := rfl
@[go_sem] theorem rs_311 : Tryz.f311.results.toList = [.tmp 2, .tmp 3] := rfl
@[go_sem] theorem rs_315 : Tryz.f315.results.toList = [.tmp 2] := rfl
@[go_sem] theorem rs_327 : Tryz.f327.results.toList = [.tmp 2] := rfl
@[go_sem] theorem rs_330 : Tryz.f330.results.toList = [.tmp 2] := rfl
@[go_sem] theorem rs_333 : Tryz.f333.results.toList = [.tmp 2] := rfl
@[go_sem] theorem rs_334 : Tryz.f334.results.toList = [.tmp 2] := rfl
@[go_sem] theorem rs_350 : Tryz.f350.results.toList = [] := rfl
@[go_sem] theorem rs_352 : Tryz.f352.results.toList = [] := rfl
@[go_sem] theorem rs_353 : Tryz.f353.results.toList = [] := rfl
@[go_sem] theorem rs_357 : Tryz.f357.results.toList = [] := rfl
@[go_sem] theorem rs_358 : Tryz.f358.results.toList = [] := rfl
@[go_sem] theorem rs_359 : Tryz.f359.results.toList = [] := rfl
@[go_sem] theorem rs_360 : Tryz.f360.results.toList = [] := rfl
@[go_sem] theorem rs_362 : Tryz.f362.results.toList = [] := rfl
@[go_sem] theorem rs_363 : Tryz.f363.results.toList = [] := rfl

end Go.Proofs.YtkcfmmpcpdlfeaaGreatDoor
