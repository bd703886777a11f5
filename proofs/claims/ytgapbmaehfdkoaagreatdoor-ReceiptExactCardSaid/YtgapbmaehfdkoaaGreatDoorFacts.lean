/- The types and functions of this seat's program, as PA reads them. Printed by wip/facts.py. -/
import Derived.Test.YtgapbmaehfdkoaaGreatDoorPaB
import Derived.Test.YtgapbmaehfdkoaaGreatDoorProg
import Derived.KernelRfl
namespace Go.Proofs.YtgapbmaehfdkoaaGreatDoor
open Go.PA

@[go_sem] theorem sz_2 : szOf Tryz.prog 2 = 1 := by kernel_rfl
@[go_sem] theorem kn_2 : knownT Tryz.prog 2 = true := by kernel_rfl
@[go_sem] theorem ag_2 : aggOf Tryz.prog 2 = false := by kernel_rfl
@[go_sem] theorem us_2 : (Tryz.prog.underlying 2).isSome = true := by kernel_rfl
@[go_sem] theorem un_2 : Tryz.prog.underlying 2 = some (.int .i64) := by kernel_rfl
@[go_sem] theorem ze_2 : zeros Tryz.prog 2 = some [.sc (.int .i64 0)] := by kernel_rfl
@[go_sem] theorem az_2 : azero1 Tryz.prog 2 = some (.sc (.int .i64 0)) := by kernel_rfl
@[go_sem] theorem by_2 : bytesOf Tryz.prog 2 = 8 := by kernel_rfl
@[go_sem] theorem sz_3 : szOf Tryz.prog 3 = 1 := by kernel_rfl
@[go_sem] theorem kn_3 : knownT Tryz.prog 3 = true := by kernel_rfl
@[go_sem] theorem ag_3 : aggOf Tryz.prog 3 = false := by kernel_rfl
@[go_sem] theorem us_3 : (Tryz.prog.underlying 3).isSome = true := by kernel_rfl
@[go_sem] theorem un_3 : Tryz.prog.underlying 3 = some (.int .i64) := by kernel_rfl
@[go_sem] theorem ze_3 : zeros Tryz.prog 3 = some [.sc (.int .i64 0)] := by kernel_rfl
@[go_sem] theorem az_3 : azero1 Tryz.prog 3 = some (.sc (.int .i64 0)) := by kernel_rfl
@[go_sem] theorem by_3 : bytesOf Tryz.prog 3 = 8 := by kernel_rfl
@[go_sem] theorem sz_4 : szOf Tryz.prog 4 = 1 := by kernel_rfl
@[go_sem] theorem kn_4 : knownT Tryz.prog 4 = true := by kernel_rfl
@[go_sem] theorem ag_4 : aggOf Tryz.prog 4 = false := by kernel_rfl
@[go_sem] theorem us_4 : (Tryz.prog.underlying 4).isSome = true := by kernel_rfl
@[go_sem] theorem un_4 : Tryz.prog.underlying 4 = some .bool := by kernel_rfl
@[go_sem] theorem ze_4 : zeros Tryz.prog 4 = some [.sc (.bool false)] := by kernel_rfl
@[go_sem] theorem az_4 : azero1 Tryz.prog 4 = some (.sc (.bool false)) := by kernel_rfl
@[go_sem] theorem by_4 : bytesOf Tryz.prog 4 = 1 := by kernel_rfl
@[go_sem] theorem sz_5 : szOf Tryz.prog 5 = 1 := by kernel_rfl
@[go_sem] theorem kn_5 : knownT Tryz.prog 5 = true := by kernel_rfl
@[go_sem] theorem ag_5 : aggOf Tryz.prog 5 = false := by kernel_rfl
@[go_sem] theorem us_5 : (Tryz.prog.underlying 5).isSome = true := by kernel_rfl
@[go_sem] theorem un_5 : Tryz.prog.underlying 5 = some (.int .u8) := by kernel_rfl
@[go_sem] theorem ze_5 : zeros Tryz.prog 5 = some [.sc (.int .u8 0)] := by kernel_rfl
@[go_sem] theorem az_5 : azero1 Tryz.prog 5 = some (.sc (.int .u8 0)) := by kernel_rfl
@[go_sem] theorem by_5 : bytesOf Tryz.prog 5 = 1 := by kernel_rfl
@[go_sem] theorem sz_9 : szOf Tryz.prog 9 = 1 := by kernel_rfl
@[go_sem] theorem kn_9 : knownT Tryz.prog 9 = true := by kernel_rfl
@[go_sem] theorem ag_9 : aggOf Tryz.prog 9 = false := by kernel_rfl
@[go_sem] theorem us_9 : (Tryz.prog.underlying 9).isSome = true := by kernel_rfl
@[go_sem] theorem un_9 : Tryz.prog.underlying 9 = some .string := by kernel_rfl
@[go_sem] theorem ze_9 : zeros Tryz.prog 9 = some [.sc (.string ByteArray.empty)] := by kernel_rfl
@[go_sem] theorem az_9 : azero1 Tryz.prog 9 = some (.sc (.string ByteArray.empty)) := by kernel_rfl
@[go_sem] theorem by_9 : bytesOf Tryz.prog 9 = 16 := by kernel_rfl
@[go_sem] theorem sz_12 : szOf Tryz.prog 12 = 1 := by kernel_rfl
@[go_sem] theorem kn_12 : knownT Tryz.prog 12 = true := by kernel_rfl
@[go_sem] theorem ag_12 : aggOf Tryz.prog 12 = false := by kernel_rfl
@[go_sem] theorem us_12 : (Tryz.prog.underlying 12).isSome = true := by kernel_rfl
@[go_sem] theorem un_12 : Tryz.prog.underlying 12 = some (.int .u64) := by kernel_rfl
@[go_sem] theorem ze_12 : zeros Tryz.prog 12 = some [.sc (.int .u64 0)] := by kernel_rfl
@[go_sem] theorem az_12 : azero1 Tryz.prog 12 = some (.sc (.int .u64 0)) := by kernel_rfl
@[go_sem] theorem by_12 : bytesOf Tryz.prog 12 = 8 := by kernel_rfl
@[go_sem] theorem sz_17 : szOf Tryz.prog 17 = 1 := by kernel_rfl
@[go_sem] theorem kn_17 : knownT Tryz.prog 17 = true := by kernel_rfl
@[go_sem] theorem ag_17 : aggOf Tryz.prog 17 = false := by kernel_rfl
@[go_sem] theorem us_17 : (Tryz.prog.underlying 17).isSome = true := by kernel_rfl
@[go_sem] theorem ze_17 : zeros Tryz.prog 17 = some [.sc (.pointer none)] := by kernel_rfl
@[go_sem] theorem by_17 : bytesOf Tryz.prog 17 = 8 := by kernel_rfl
@[go_sem] theorem sz_21 : szOf Tryz.prog 21 = 1 := by kernel_rfl
@[go_sem] theorem kn_21 : knownT Tryz.prog 21 = true := by kernel_rfl
@[go_sem] theorem ag_21 : aggOf Tryz.prog 21 = false := by kernel_rfl
@[go_sem] theorem us_21 : (Tryz.prog.underlying 21).isSome = true := by kernel_rfl
@[go_sem] theorem un_21 : Tryz.prog.underlying 21 = some (.int .i32) := by kernel_rfl
@[go_sem] theorem ze_21 : zeros Tryz.prog 21 = some [.sc (.int .i32 0)] := by kernel_rfl
@[go_sem] theorem az_21 : azero1 Tryz.prog 21 = some (.sc (.int .i32 0)) := by kernel_rfl
@[go_sem] theorem by_21 : bytesOf Tryz.prog 21 = 4 := by kernel_rfl
@[go_sem] theorem sz_22 : szOf Tryz.prog 22 = 1 := by kernel_rfl
@[go_sem] theorem kn_22 : knownT Tryz.prog 22 = true := by kernel_rfl
@[go_sem] theorem ag_22 : aggOf Tryz.prog 22 = false := by kernel_rfl
@[go_sem] theorem us_22 : (Tryz.prog.underlying 22).isSome = true := by kernel_rfl
@[go_sem] theorem el_22 : Go.PA.elemOf Tryz.prog 22 = some 3 := by kernel_rfl
@[go_sem] theorem un_22 : Tryz.prog.underlying 22 = some (.slice 3) := by kernel_rfl
@[go_sem] theorem ze_22 : zeros Tryz.prog 22 = some [.nil] := by kernel_rfl
@[go_sem] theorem az_22 : azero1 Tryz.prog 22 = some (.nil) := by kernel_rfl
@[go_sem] theorem by_22 : bytesOf Tryz.prog 22 = 24 := by kernel_rfl
@[go_sem] theorem sz_23 : szOf Tryz.prog 23 = 1 := by kernel_rfl
@[go_sem] theorem kn_23 : knownT Tryz.prog 23 = true := by kernel_rfl
@[go_sem] theorem ag_23 : aggOf Tryz.prog 23 = false := by kernel_rfl
@[go_sem] theorem us_23 : (Tryz.prog.underlying 23).isSome = true := by kernel_rfl
@[go_sem] theorem ze_23 : zeros Tryz.prog 23 = some [.sc (.pointer none)] := by kernel_rfl
@[go_sem] theorem by_23 : bytesOf Tryz.prog 23 = 8 := by kernel_rfl
@[go_sem] theorem sz_25 : szOf Tryz.prog 25 = 1 := by kernel_rfl
@[go_sem] theorem kn_25 : knownT Tryz.prog 25 = true := by kernel_rfl
@[go_sem] theorem ag_25 : aggOf Tryz.prog 25 = false := by kernel_rfl
@[go_sem] theorem us_25 : (Tryz.prog.underlying 25).isSome = true := by kernel_rfl
@[go_sem] theorem el_25 : Go.PA.elemOf Tryz.prog 25 = some 38 := by kernel_rfl
@[go_sem] theorem un_25 : Tryz.prog.underlying 25 = some (.slice 38) := by kernel_rfl
@[go_sem] theorem ze_25 : zeros Tryz.prog 25 = some [.nil] := by kernel_rfl
@[go_sem] theorem az_25 : azero1 Tryz.prog 25 = some (.nil) := by kernel_rfl
@[go_sem] theorem by_25 : bytesOf Tryz.prog 25 = 24 := by kernel_rfl
@[go_sem] theorem sz_26 : szOf Tryz.prog 26 = 1 := by kernel_rfl
@[go_sem] theorem kn_26 : knownT Tryz.prog 26 = true := by kernel_rfl
@[go_sem] theorem ag_26 : aggOf Tryz.prog 26 = false := by kernel_rfl
@[go_sem] theorem us_26 : (Tryz.prog.underlying 26).isSome = true := by kernel_rfl
@[go_sem] theorem el_26 : Go.PA.elemOf Tryz.prog 26 = some 32 := by kernel_rfl
@[go_sem] theorem un_26 : Tryz.prog.underlying 26 = some (.slice 32) := by kernel_rfl
@[go_sem] theorem ze_26 : zeros Tryz.prog 26 = some [.nil] := by kernel_rfl
@[go_sem] theorem az_26 : azero1 Tryz.prog 26 = some (.nil) := by kernel_rfl
@[go_sem] theorem by_26 : bytesOf Tryz.prog 26 = 24 := by kernel_rfl
@[go_sem] theorem sz_27 : szOf Tryz.prog 27 = 1 := by kernel_rfl
@[go_sem] theorem kn_27 : knownT Tryz.prog 27 = true := by kernel_rfl
@[go_sem] theorem ag_27 : aggOf Tryz.prog 27 = false := by kernel_rfl
@[go_sem] theorem us_27 : (Tryz.prog.underlying 27).isSome = true := by kernel_rfl
@[go_sem] theorem el_27 : Go.PA.elemOf Tryz.prog 27 = some 40 := by kernel_rfl
@[go_sem] theorem un_27 : Tryz.prog.underlying 27 = some (.slice 40) := by kernel_rfl
@[go_sem] theorem ze_27 : zeros Tryz.prog 27 = some [.nil] := by kernel_rfl
@[go_sem] theorem az_27 : azero1 Tryz.prog 27 = some (.nil) := by kernel_rfl
@[go_sem] theorem by_27 : bytesOf Tryz.prog 27 = 24 := by kernel_rfl
@[go_sem] theorem sz_28 : szOf Tryz.prog 28 = 4 := by kernel_rfl
@[go_sem] theorem kn_28 : knownT Tryz.prog 28 = true := by kernel_rfl
@[go_sem] theorem ag_28 : aggOf Tryz.prog 28 = true := by kernel_rfl
@[go_sem] theorem us_28 : (Tryz.prog.underlying 28).isSome = true := by kernel_rfl
@[go_sem] theorem fd_28_0 : fieldOf Tryz.prog 28 0 = some (0, 25) := by kernel_rfl
@[go_sem] theorem fd_28_1 : fieldOf Tryz.prog 28 1 = some (1, 26) := by kernel_rfl
@[go_sem] theorem fd_28_2 : fieldOf Tryz.prog 28 2 = some (2, 27) := by kernel_rfl
@[go_sem] theorem fd_28_3 : fieldOf Tryz.prog 28 3 = some (3, 22) := by kernel_rfl
@[go_sem] theorem el_28 : Go.PA.elemOf Tryz.prog 28 = none := by kernel_rfl
@[go_sem] theorem ar_28 : arrOf Tryz.prog 28 = none := by kernel_rfl
@[go_sem] theorem fk_28 : fieldsKnown Tryz.prog 28 = true := by kernel_rfl
@[go_sem] theorem ze_28 : zeros Tryz.prog 28 = some [.nil, .nil, .nil, .nil] := by kernel_rfl
@[go_sem] theorem by_28 : bytesOf Tryz.prog 28 = 96 := by kernel_rfl
@[go_sem] theorem sz_29 : szOf Tryz.prog 29 = 4 := by kernel_rfl
@[go_sem] theorem kn_29 : knownT Tryz.prog 29 = true := by kernel_rfl
@[go_sem] theorem ag_29 : aggOf Tryz.prog 29 = true := by kernel_rfl
@[go_sem] theorem us_29 : (Tryz.prog.underlying 29).isSome = true := by kernel_rfl
@[go_sem] theorem fd_29_0 : fieldOf Tryz.prog 29 0 = some (0, 25) := by kernel_rfl
@[go_sem] theorem fd_29_1 : fieldOf Tryz.prog 29 1 = some (1, 26) := by kernel_rfl
@[go_sem] theorem fd_29_2 : fieldOf Tryz.prog 29 2 = some (2, 27) := by kernel_rfl
@[go_sem] theorem fd_29_3 : fieldOf Tryz.prog 29 3 = some (3, 22) := by kernel_rfl
@[go_sem] theorem el_29 : Go.PA.elemOf Tryz.prog 29 = none := by kernel_rfl
@[go_sem] theorem ar_29 : arrOf Tryz.prog 29 = none := by kernel_rfl
@[go_sem] theorem fk_29 : fieldsKnown Tryz.prog 29 = true := by kernel_rfl
@[go_sem] theorem ze_29 : zeros Tryz.prog 29 = some [.nil, .nil, .nil, .nil] := by kernel_rfl
@[go_sem] theorem by_29 : bytesOf Tryz.prog 29 = 96 := by kernel_rfl
@[go_sem] theorem sz_31 : szOf Tryz.prog 31 = 5 := by kernel_rfl
@[go_sem] theorem kn_31 : knownT Tryz.prog 31 = true := by kernel_rfl
@[go_sem] theorem ag_31 : aggOf Tryz.prog 31 = true := by kernel_rfl
@[go_sem] theorem us_31 : (Tryz.prog.underlying 31).isSome = true := by kernel_rfl
@[go_sem] theorem fd_31_0 : fieldOf Tryz.prog 31 0 = some (0, 3) := by kernel_rfl
@[go_sem] theorem fd_31_1 : fieldOf Tryz.prog 31 1 = some (1, 3) := by kernel_rfl
@[go_sem] theorem fd_31_2 : fieldOf Tryz.prog 31 2 = some (2, 3) := by kernel_rfl
@[go_sem] theorem fd_31_3 : fieldOf Tryz.prog 31 3 = some (3, 3) := by kernel_rfl
@[go_sem] theorem fd_31_4 : fieldOf Tryz.prog 31 4 = some (4, 3) := by kernel_rfl
@[go_sem] theorem el_31 : Go.PA.elemOf Tryz.prog 31 = none := by kernel_rfl
@[go_sem] theorem ar_31 : arrOf Tryz.prog 31 = none := by kernel_rfl
@[go_sem] theorem fk_31 : fieldsKnown Tryz.prog 31 = true := by kernel_rfl
@[go_sem] theorem sg_31 : sigOf Tryz.prog 31 = some [.int, .int, .int, .int, .int] := by kernel_rfl
@[go_sem] theorem ze_31 : zeros Tryz.prog 31 = some [.sc (.int .i64 0), .sc (.int .i64 0), .sc (.int .i64 0), .sc (.int .i64 0), .sc (.int .i64 0)] := by kernel_rfl
@[go_sem] theorem by_31 : bytesOf Tryz.prog 31 = 40 := by kernel_rfl
@[go_sem] theorem sz_32 : szOf Tryz.prog 32 = 5 := by kernel_rfl
@[go_sem] theorem kn_32 : knownT Tryz.prog 32 = true := by kernel_rfl
@[go_sem] theorem ag_32 : aggOf Tryz.prog 32 = true := by kernel_rfl
@[go_sem] theorem us_32 : (Tryz.prog.underlying 32).isSome = true := by kernel_rfl
@[go_sem] theorem fd_32_0 : fieldOf Tryz.prog 32 0 = some (0, 3) := by kernel_rfl
@[go_sem] theorem fd_32_1 : fieldOf Tryz.prog 32 1 = some (1, 3) := by kernel_rfl
@[go_sem] theorem fd_32_2 : fieldOf Tryz.prog 32 2 = some (2, 3) := by kernel_rfl
@[go_sem] theorem fd_32_3 : fieldOf Tryz.prog 32 3 = some (3, 3) := by kernel_rfl
@[go_sem] theorem fd_32_4 : fieldOf Tryz.prog 32 4 = some (4, 3) := by kernel_rfl
@[go_sem] theorem el_32 : Go.PA.elemOf Tryz.prog 32 = none := by kernel_rfl
@[go_sem] theorem ar_32 : arrOf Tryz.prog 32 = none := by kernel_rfl
@[go_sem] theorem fk_32 : fieldsKnown Tryz.prog 32 = true := by kernel_rfl
@[go_sem] theorem sg_32 : sigOf Tryz.prog 32 = some [.int, .int, .int, .int, .int] := by kernel_rfl
@[go_sem] theorem ze_32 : zeros Tryz.prog 32 = some [.sc (.int .i64 0), .sc (.int .i64 0), .sc (.int .i64 0), .sc (.int .i64 0), .sc (.int .i64 0)] := by kernel_rfl
@[go_sem] theorem by_32 : bytesOf Tryz.prog 32 = 40 := by kernel_rfl
@[go_sem] theorem sz_34 : szOf Tryz.prog 34 = 1 := by kernel_rfl
@[go_sem] theorem kn_34 : knownT Tryz.prog 34 = true := by kernel_rfl
@[go_sem] theorem ag_34 : aggOf Tryz.prog 34 = false := by kernel_rfl
@[go_sem] theorem us_34 : (Tryz.prog.underlying 34).isSome = true := by kernel_rfl
@[go_sem] theorem un_34 : Tryz.prog.underlying 34 = some (.int .i64) := by kernel_rfl
@[go_sem] theorem ze_34 : zeros Tryz.prog 34 = some [.sc (.int .i64 0)] := by kernel_rfl
@[go_sem] theorem az_34 : azero1 Tryz.prog 34 = some (.sc (.int .i64 0)) := by kernel_rfl
@[go_sem] theorem by_34 : bytesOf Tryz.prog 34 = 8 := by kernel_rfl
@[go_sem] theorem sz_37 : szOf Tryz.prog 37 = 6 := by kernel_rfl
@[go_sem] theorem kn_37 : knownT Tryz.prog 37 = true := by kernel_rfl
@[go_sem] theorem ag_37 : aggOf Tryz.prog 37 = true := by kernel_rfl
@[go_sem] theorem us_37 : (Tryz.prog.underlying 37).isSome = true := by kernel_rfl
@[go_sem] theorem fd_37_0 : fieldOf Tryz.prog 37 0 = some (0, 3) := by kernel_rfl
@[go_sem] theorem fd_37_1 : fieldOf Tryz.prog 37 1 = some (1, 3) := by kernel_rfl
@[go_sem] theorem fd_37_2 : fieldOf Tryz.prog 37 2 = some (2, 3) := by kernel_rfl
@[go_sem] theorem fd_37_3 : fieldOf Tryz.prog 37 3 = some (3, 3) := by kernel_rfl
@[go_sem] theorem fd_37_4 : fieldOf Tryz.prog 37 4 = some (4, 3) := by kernel_rfl
@[go_sem] theorem fd_37_5 : fieldOf Tryz.prog 37 5 = some (5, 9) := by kernel_rfl
@[go_sem] theorem el_37 : Go.PA.elemOf Tryz.prog 37 = none := by kernel_rfl
@[go_sem] theorem ar_37 : arrOf Tryz.prog 37 = none := by kernel_rfl
@[go_sem] theorem fk_37 : fieldsKnown Tryz.prog 37 = true := by kernel_rfl
@[go_sem] theorem sg_37 : sigOf Tryz.prog 37 = some [.int, .int, .int, .int, .int, .str] := by kernel_rfl
@[go_sem] theorem ze_37 : zeros Tryz.prog 37 = some [.sc (.int .i64 0), .sc (.int .i64 0), .sc (.int .i64 0), .sc (.int .i64 0), .sc (.int .i64 0), .sc (.string ByteArray.empty)] := by kernel_rfl
@[go_sem] theorem by_37 : bytesOf Tryz.prog 37 = 56 := by kernel_rfl
@[go_sem] theorem sz_38 : szOf Tryz.prog 38 = 6 := by kernel_rfl
@[go_sem] theorem kn_38 : knownT Tryz.prog 38 = true := by kernel_rfl
@[go_sem] theorem ag_38 : aggOf Tryz.prog 38 = true := by kernel_rfl
@[go_sem] theorem us_38 : (Tryz.prog.underlying 38).isSome = true := by kernel_rfl
@[go_sem] theorem fd_38_0 : fieldOf Tryz.prog 38 0 = some (0, 3) := by kernel_rfl
@[go_sem] theorem fd_38_1 : fieldOf Tryz.prog 38 1 = some (1, 3) := by kernel_rfl
@[go_sem] theorem fd_38_2 : fieldOf Tryz.prog 38 2 = some (2, 3) := by kernel_rfl
@[go_sem] theorem fd_38_3 : fieldOf Tryz.prog 38 3 = some (3, 3) := by kernel_rfl
@[go_sem] theorem fd_38_4 : fieldOf Tryz.prog 38 4 = some (4, 3) := by kernel_rfl
@[go_sem] theorem fd_38_5 : fieldOf Tryz.prog 38 5 = some (5, 9) := by kernel_rfl
@[go_sem] theorem el_38 : Go.PA.elemOf Tryz.prog 38 = none := by kernel_rfl
@[go_sem] theorem ar_38 : arrOf Tryz.prog 38 = none := by kernel_rfl
@[go_sem] theorem fk_38 : fieldsKnown Tryz.prog 38 = true := by kernel_rfl
@[go_sem] theorem sg_38 : sigOf Tryz.prog 38 = some [.int, .int, .int, .int, .int, .str] := by kernel_rfl
@[go_sem] theorem ze_38 : zeros Tryz.prog 38 = some [.sc (.int .i64 0), .sc (.int .i64 0), .sc (.int .i64 0), .sc (.int .i64 0), .sc (.int .i64 0), .sc (.string ByteArray.empty)] := by kernel_rfl
@[go_sem] theorem by_38 : bytesOf Tryz.prog 38 = 56 := by kernel_rfl
@[go_sem] theorem sz_39 : szOf Tryz.prog 39 = 3 := by kernel_rfl
@[go_sem] theorem kn_39 : knownT Tryz.prog 39 = true := by kernel_rfl
@[go_sem] theorem ag_39 : aggOf Tryz.prog 39 = true := by kernel_rfl
@[go_sem] theorem us_39 : (Tryz.prog.underlying 39).isSome = true := by kernel_rfl
@[go_sem] theorem fd_39_0 : fieldOf Tryz.prog 39 0 = some (0, 3) := by kernel_rfl
@[go_sem] theorem fd_39_1 : fieldOf Tryz.prog 39 1 = some (1, 3) := by kernel_rfl
@[go_sem] theorem fd_39_2 : fieldOf Tryz.prog 39 2 = some (2, 3) := by kernel_rfl
@[go_sem] theorem el_39 : Go.PA.elemOf Tryz.prog 39 = none := by kernel_rfl
@[go_sem] theorem ar_39 : arrOf Tryz.prog 39 = none := by kernel_rfl
@[go_sem] theorem fk_39 : fieldsKnown Tryz.prog 39 = true := by kernel_rfl
@[go_sem] theorem sg_39 : sigOf Tryz.prog 39 = some [.int, .int, .int] := by kernel_rfl
@[go_sem] theorem ze_39 : zeros Tryz.prog 39 = some [.sc (.int .i64 0), .sc (.int .i64 0), .sc (.int .i64 0)] := by kernel_rfl
@[go_sem] theorem by_39 : bytesOf Tryz.prog 39 = 24 := by kernel_rfl
@[go_sem] theorem sz_40 : szOf Tryz.prog 40 = 3 := by kernel_rfl
@[go_sem] theorem kn_40 : knownT Tryz.prog 40 = true := by kernel_rfl
@[go_sem] theorem ag_40 : aggOf Tryz.prog 40 = true := by kernel_rfl
@[go_sem] theorem us_40 : (Tryz.prog.underlying 40).isSome = true := by kernel_rfl
@[go_sem] theorem fd_40_0 : fieldOf Tryz.prog 40 0 = some (0, 3) := by kernel_rfl
@[go_sem] theorem fd_40_1 : fieldOf Tryz.prog 40 1 = some (1, 3) := by kernel_rfl
@[go_sem] theorem fd_40_2 : fieldOf Tryz.prog 40 2 = some (2, 3) := by kernel_rfl
@[go_sem] theorem el_40 : Go.PA.elemOf Tryz.prog 40 = none := by kernel_rfl
@[go_sem] theorem ar_40 : arrOf Tryz.prog 40 = none := by kernel_rfl
@[go_sem] theorem fk_40 : fieldsKnown Tryz.prog 40 = true := by kernel_rfl
@[go_sem] theorem sg_40 : sigOf Tryz.prog 40 = some [.int, .int, .int] := by kernel_rfl
@[go_sem] theorem ze_40 : zeros Tryz.prog 40 = some [.sc (.int .i64 0), .sc (.int .i64 0), .sc (.int .i64 0)] := by kernel_rfl
@[go_sem] theorem by_40 : bytesOf Tryz.prog 40 = 24 := by kernel_rfl
@[go_sem] theorem sz_52 : szOf Tryz.prog 52 = 3 := by kernel_rfl
@[go_sem] theorem kn_52 : knownT Tryz.prog 52 = true := by kernel_rfl
@[go_sem] theorem ag_52 : aggOf Tryz.prog 52 = true := by kernel_rfl
@[go_sem] theorem us_52 : (Tryz.prog.underlying 52).isSome = true := by kernel_rfl
@[go_sem] theorem el_52 : Go.PA.elemOf Tryz.prog 52 = none := by kernel_rfl
@[go_sem] theorem ar_52 : arrOf Tryz.prog 52 = some (3, 25) := by kernel_rfl
@[go_sem] theorem fk_52 : fieldsKnown Tryz.prog 52 = true := by kernel_rfl
@[go_sem] theorem fd_52_0 : fieldOf Tryz.prog 52 0 = none := by kernel_rfl
@[go_sem] theorem fd_52_1 : fieldOf Tryz.prog 52 1 = none := by kernel_rfl
@[go_sem] theorem fd_52_2 : fieldOf Tryz.prog 52 2 = none := by kernel_rfl
@[go_sem] theorem ze_52 : zeros Tryz.prog 52 = some [.nil, .nil, .nil] := by kernel_rfl
@[go_sem] theorem by_52 : bytesOf Tryz.prog 52 = 72 := by kernel_rfl
@[go_sem] theorem sz_60 : szOf Tryz.prog 60 = 12 := by kernel_rfl
@[go_sem] theorem kn_60 : knownT Tryz.prog 60 = true := by kernel_rfl
@[go_sem] theorem ag_60 : aggOf Tryz.prog 60 = true := by kernel_rfl
@[go_sem] theorem us_60 : (Tryz.prog.underlying 60).isSome = true := by kernel_rfl
@[go_sem] theorem el_60 : Go.PA.elemOf Tryz.prog 60 = none := by kernel_rfl
@[go_sem] theorem ar_60 : arrOf Tryz.prog 60 = some (3, 29) := by kernel_rfl
@[go_sem] theorem fk_60 : fieldsKnown Tryz.prog 60 = true := by kernel_rfl
@[go_sem] theorem fd_60_0 : fieldOf Tryz.prog 60 0 = none := by kernel_rfl
@[go_sem] theorem fd_60_1 : fieldOf Tryz.prog 60 1 = none := by kernel_rfl
@[go_sem] theorem fd_60_2 : fieldOf Tryz.prog 60 2 = none := by kernel_rfl
@[go_sem] theorem ze_60 : zeros Tryz.prog 60 = some [.nil, .nil, .nil, .nil, .nil, .nil, .nil, .nil, .nil, .nil, .nil, .nil] := by kernel_rfl
@[go_sem] theorem by_60 : bytesOf Tryz.prog 60 = 288 := by kernel_rfl
@[go_sem] theorem sz_62 : szOf Tryz.prog 62 = 12 := by kernel_rfl
@[go_sem] theorem kn_62 : knownT Tryz.prog 62 = true := by kernel_rfl
@[go_sem] theorem ag_62 : aggOf Tryz.prog 62 = true := by kernel_rfl
@[go_sem] theorem us_62 : (Tryz.prog.underlying 62).isSome = true := by kernel_rfl
@[go_sem] theorem el_62 : Go.PA.elemOf Tryz.prog 62 = none := by kernel_rfl
@[go_sem] theorem ar_62 : arrOf Tryz.prog 62 = some (2, 38) := by kernel_rfl
@[go_sem] theorem fk_62 : fieldsKnown Tryz.prog 62 = true := by kernel_rfl
@[go_sem] theorem fd_62_0 : fieldOf Tryz.prog 62 0 = none := by kernel_rfl
@[go_sem] theorem fd_62_1 : fieldOf Tryz.prog 62 1 = none := by kernel_rfl
@[go_sem] theorem ze_62 : zeros Tryz.prog 62 = some [.sc (.int .i64 0), .sc (.int .i64 0), .sc (.int .i64 0), .sc (.int .i64 0), .sc (.int .i64 0), .sc (.string ByteArray.empty), .sc (.int .i64 0), .sc (.int .i64 0), .sc (.int .i64 0), .sc (.int .i64 0), .sc (.int .i64 0), .sc (.string ByteArray.empty)] := by kernel_rfl
@[go_sem] theorem by_62 : bytesOf Tryz.prog 62 = 112 := by kernel_rfl
@[go_sem] theorem sz_65 : szOf Tryz.prog 65 = 15 := by kernel_rfl
@[go_sem] theorem kn_65 : knownT Tryz.prog 65 = true := by kernel_rfl
@[go_sem] theorem ag_65 : aggOf Tryz.prog 65 = true := by kernel_rfl
@[go_sem] theorem us_65 : (Tryz.prog.underlying 65).isSome = true := by kernel_rfl
@[go_sem] theorem el_65 : Go.PA.elemOf Tryz.prog 65 = none := by kernel_rfl
@[go_sem] theorem ar_65 : arrOf Tryz.prog 65 = some (3, 32) := by kernel_rfl
@[go_sem] theorem fk_65 : fieldsKnown Tryz.prog 65 = true := by kernel_rfl
@[go_sem] theorem fd_65_0 : fieldOf Tryz.prog 65 0 = none := by kernel_rfl
@[go_sem] theorem fd_65_1 : fieldOf Tryz.prog 65 1 = none := by kernel_rfl
@[go_sem] theorem fd_65_2 : fieldOf Tryz.prog 65 2 = none := by kernel_rfl
@[go_sem] theorem ze_65 : zeros Tryz.prog 65 = some [.sc (.int .i64 0), .sc (.int .i64 0), .sc (.int .i64 0), .sc (.int .i64 0), .sc (.int .i64 0), .sc (.int .i64 0), .sc (.int .i64 0), .sc (.int .i64 0), .sc (.int .i64 0), .sc (.int .i64 0), .sc (.int .i64 0), .sc (.int .i64 0), .sc (.int .i64 0), .sc (.int .i64 0), .sc (.int .i64 0)] := by kernel_rfl
@[go_sem] theorem by_65 : bytesOf Tryz.prog 65 = 120 := by kernel_rfl
@[go_sem] theorem sz_66 : szOf Tryz.prog 66 = 3 := by kernel_rfl
@[go_sem] theorem kn_66 : knownT Tryz.prog 66 = true := by kernel_rfl
@[go_sem] theorem ag_66 : aggOf Tryz.prog 66 = true := by kernel_rfl
@[go_sem] theorem us_66 : (Tryz.prog.underlying 66).isSome = true := by kernel_rfl
@[go_sem] theorem el_66 : Go.PA.elemOf Tryz.prog 66 = none := by kernel_rfl
@[go_sem] theorem ar_66 : arrOf Tryz.prog 66 = some (3, 3) := by kernel_rfl
@[go_sem] theorem fk_66 : fieldsKnown Tryz.prog 66 = true := by kernel_rfl
@[go_sem] theorem fd_66_0 : fieldOf Tryz.prog 66 0 = none := by kernel_rfl
@[go_sem] theorem fd_66_1 : fieldOf Tryz.prog 66 1 = none := by kernel_rfl
@[go_sem] theorem fd_66_2 : fieldOf Tryz.prog 66 2 = none := by kernel_rfl
@[go_sem] theorem ze_66 : zeros Tryz.prog 66 = some [.sc (.int .i64 0), .sc (.int .i64 0), .sc (.int .i64 0)] := by kernel_rfl
@[go_sem] theorem by_66 : bytesOf Tryz.prog 66 = 24 := by kernel_rfl
@[go_sem] theorem sz_69 : szOf Tryz.prog 69 = 2 := by kernel_rfl
@[go_sem] theorem kn_69 : knownT Tryz.prog 69 = true := by kernel_rfl
@[go_sem] theorem ag_69 : aggOf Tryz.prog 69 = true := by kernel_rfl
@[go_sem] theorem us_69 : (Tryz.prog.underlying 69).isSome = true := by kernel_rfl
@[go_sem] theorem fd_69_0 : fieldOf Tryz.prog 69 0 = some (0, 22) := by kernel_rfl
@[go_sem] theorem fd_69_1 : fieldOf Tryz.prog 69 1 = some (1, 3) := by kernel_rfl
@[go_sem] theorem el_69 : Go.PA.elemOf Tryz.prog 69 = none := by kernel_rfl
@[go_sem] theorem ar_69 : arrOf Tryz.prog 69 = none := by kernel_rfl
@[go_sem] theorem fk_69 : fieldsKnown Tryz.prog 69 = true := by kernel_rfl
@[go_sem] theorem ze_69 : zeros Tryz.prog 69 = some [.nil, .sc (.int .i64 0)] := by kernel_rfl
@[go_sem] theorem by_69 : bytesOf Tryz.prog 69 = 32 := by kernel_rfl
@[go_sem] theorem sz_70 : szOf Tryz.prog 70 = 2 := by kernel_rfl
@[go_sem] theorem kn_70 : knownT Tryz.prog 70 = true := by kernel_rfl
@[go_sem] theorem ag_70 : aggOf Tryz.prog 70 = true := by kernel_rfl
@[go_sem] theorem us_70 : (Tryz.prog.underlying 70).isSome = true := by kernel_rfl
@[go_sem] theorem fd_70_0 : fieldOf Tryz.prog 70 0 = some (0, 22) := by kernel_rfl
@[go_sem] theorem fd_70_1 : fieldOf Tryz.prog 70 1 = some (1, 3) := by kernel_rfl
@[go_sem] theorem el_70 : Go.PA.elemOf Tryz.prog 70 = none := by kernel_rfl
@[go_sem] theorem ar_70 : arrOf Tryz.prog 70 = none := by kernel_rfl
@[go_sem] theorem fk_70 : fieldsKnown Tryz.prog 70 = true := by kernel_rfl
@[go_sem] theorem ze_70 : zeros Tryz.prog 70 = some [.nil, .sc (.int .i64 0)] := by kernel_rfl
@[go_sem] theorem by_70 : bytesOf Tryz.prog 70 = 32 := by kernel_rfl
@[go_sem] theorem sz_72 : szOf Tryz.prog 72 = 1 := by kernel_rfl
@[go_sem] theorem kn_72 : knownT Tryz.prog 72 = true := by kernel_rfl
@[go_sem] theorem ag_72 : aggOf Tryz.prog 72 = false := by kernel_rfl
@[go_sem] theorem us_72 : (Tryz.prog.underlying 72).isSome = true := by kernel_rfl
@[go_sem] theorem ze_72 : zeros Tryz.prog 72 = some [.sc (.pointer none)] := by kernel_rfl
@[go_sem] theorem by_72 : bytesOf Tryz.prog 72 = 8 := by kernel_rfl
@[go_sem] theorem sz_83 : szOf Tryz.prog 83 = 1 := by kernel_rfl
@[go_sem] theorem kn_83 : knownT Tryz.prog 83 = true := by kernel_rfl
@[go_sem] theorem ag_83 : aggOf Tryz.prog 83 = false := by kernel_rfl
@[go_sem] theorem us_83 : (Tryz.prog.underlying 83).isSome = true := by kernel_rfl
@[go_sem] theorem el_83 : Go.PA.elemOf Tryz.prog 83 = some 9 := by kernel_rfl
@[go_sem] theorem un_83 : Tryz.prog.underlying 83 = some (.slice 9) := by kernel_rfl
@[go_sem] theorem ze_83 : zeros Tryz.prog 83 = some [.nil] := by kernel_rfl
@[go_sem] theorem az_83 : azero1 Tryz.prog 83 = some (.nil) := by kernel_rfl
@[go_sem] theorem by_83 : bytesOf Tryz.prog 83 = 24 := by kernel_rfl
@[go_sem] theorem sz_108 : szOf Tryz.prog 108 = 1 := by kernel_rfl
@[go_sem] theorem kn_108 : knownT Tryz.prog 108 = true := by kernel_rfl
@[go_sem] theorem ag_108 : aggOf Tryz.prog 108 = false := by kernel_rfl
@[go_sem] theorem us_108 : (Tryz.prog.underlying 108).isSome = true := by kernel_rfl
@[go_sem] theorem un_108 : Tryz.prog.underlying 108 = some (.int .u64) := by kernel_rfl
@[go_sem] theorem ze_108 : zeros Tryz.prog 108 = some [.sc (.int .u64 0)] := by kernel_rfl
@[go_sem] theorem az_108 : azero1 Tryz.prog 108 = some (.sc (.int .u64 0)) := by kernel_rfl
@[go_sem] theorem by_108 : bytesOf Tryz.prog 108 = 8 := by kernel_rfl
@[go_sem] theorem sz_121 : szOf Tryz.prog 121 = 1 := by kernel_rfl
@[go_sem] theorem kn_121 : knownT Tryz.prog 121 = true := by kernel_rfl
@[go_sem] theorem ag_121 : aggOf Tryz.prog 121 = false := by kernel_rfl
@[go_sem] theorem us_121 : (Tryz.prog.underlying 121).isSome = true := by kernel_rfl
@[go_sem] theorem el_121 : Go.PA.elemOf Tryz.prog 121 = some 5 := by kernel_rfl
@[go_sem] theorem un_121 : Tryz.prog.underlying 121 = some (.slice 5) := by kernel_rfl
@[go_sem] theorem ze_121 : zeros Tryz.prog 121 = some [.nil] := by kernel_rfl
@[go_sem] theorem az_121 : azero1 Tryz.prog 121 = some (.nil) := by kernel_rfl
@[go_sem] theorem by_121 : bytesOf Tryz.prog 121 = 24 := by kernel_rfl
@[go_sem] theorem sz_124 : szOf Tryz.prog 124 = 1 := by kernel_rfl
@[go_sem] theorem kn_124 : knownT Tryz.prog 124 = true := by kernel_rfl
@[go_sem] theorem ag_124 : aggOf Tryz.prog 124 = false := by kernel_rfl
@[go_sem] theorem us_124 : (Tryz.prog.underlying 124).isSome = true := by kernel_rfl
@[go_sem] theorem ze_124 : zeros Tryz.prog 124 = some [.sc (.pointer none)] := by kernel_rfl
@[go_sem] theorem by_124 : bytesOf Tryz.prog 124 = 8 := by kernel_rfl
@[go_sem] theorem sz_129 : szOf Tryz.prog 129 = 1 := by kernel_rfl
@[go_sem] theorem kn_129 : knownT Tryz.prog 129 = true := by kernel_rfl
@[go_sem] theorem ag_129 : aggOf Tryz.prog 129 = false := by kernel_rfl
@[go_sem] theorem us_129 : (Tryz.prog.underlying 129).isSome = true := by kernel_rfl
@[go_sem] theorem un_129 : Tryz.prog.underlying 129 = some (.int .u64) := by kernel_rfl
@[go_sem] theorem ze_129 : zeros Tryz.prog 129 = some [.sc (.int .u64 0)] := by kernel_rfl
@[go_sem] theorem az_129 : azero1 Tryz.prog 129 = some (.sc (.int .u64 0)) := by kernel_rfl
@[go_sem] theorem by_129 : bytesOf Tryz.prog 129 = 8 := by kernel_rfl
@[go_sem] theorem sz_133 : szOf Tryz.prog 133 = 3 := by kernel_rfl
@[go_sem] theorem kn_133 : knownT Tryz.prog 133 = true := by kernel_rfl
@[go_sem] theorem ag_133 : aggOf Tryz.prog 133 = true := by kernel_rfl
@[go_sem] theorem us_133 : (Tryz.prog.underlying 133).isSome = true := by kernel_rfl
@[go_sem] theorem fd_133_0 : fieldOf Tryz.prog 133 0 = some (0, 9) := by kernel_rfl
@[go_sem] theorem fd_133_1 : fieldOf Tryz.prog 133 1 = some (1, 9) := by kernel_rfl
@[go_sem] theorem fd_133_2 : fieldOf Tryz.prog 133 2 = some (2, 104) := by kernel_rfl
@[go_sem] theorem el_133 : Go.PA.elemOf Tryz.prog 133 = none := by kernel_rfl
@[go_sem] theorem ar_133 : arrOf Tryz.prog 133 = none := by kernel_rfl
@[go_sem] theorem fk_133 : fieldsKnown Tryz.prog 133 = true := by kernel_rfl
@[go_sem] theorem by_133 : bytesOf Tryz.prog 133 = 48 := by kernel_rfl
@[go_sem] theorem sz_134 : szOf Tryz.prog 134 = 3 := by kernel_rfl
@[go_sem] theorem kn_134 : knownT Tryz.prog 134 = true := by kernel_rfl
@[go_sem] theorem ag_134 : aggOf Tryz.prog 134 = true := by kernel_rfl
@[go_sem] theorem us_134 : (Tryz.prog.underlying 134).isSome = true := by kernel_rfl
@[go_sem] theorem fd_134_0 : fieldOf Tryz.prog 134 0 = some (0, 9) := by kernel_rfl
@[go_sem] theorem fd_134_1 : fieldOf Tryz.prog 134 1 = some (1, 9) := by kernel_rfl
@[go_sem] theorem fd_134_2 : fieldOf Tryz.prog 134 2 = some (2, 104) := by kernel_rfl
@[go_sem] theorem el_134 : Go.PA.elemOf Tryz.prog 134 = none := by kernel_rfl
@[go_sem] theorem ar_134 : arrOf Tryz.prog 134 = none := by kernel_rfl
@[go_sem] theorem fk_134 : fieldsKnown Tryz.prog 134 = true := by kernel_rfl
@[go_sem] theorem by_134 : bytesOf Tryz.prog 134 = 48 := by kernel_rfl
@[go_sem] theorem sz_136 : szOf Tryz.prog 136 = 24 := by kernel_rfl
@[go_sem] theorem kn_136 : knownT Tryz.prog 136 = true := by kernel_rfl
@[go_sem] theorem ag_136 : aggOf Tryz.prog 136 = true := by kernel_rfl
@[go_sem] theorem us_136 : (Tryz.prog.underlying 136).isSome = true := by kernel_rfl
@[go_sem] theorem el_136 : Go.PA.elemOf Tryz.prog 136 = none := by kernel_rfl
@[go_sem] theorem ar_136 : arrOf Tryz.prog 136 = some (24, 5) := by kernel_rfl
@[go_sem] theorem fk_136 : fieldsKnown Tryz.prog 136 = true := by kernel_rfl
@[go_sem] theorem fd_136_0 : fieldOf Tryz.prog 136 0 = none := by kernel_rfl
@[go_sem] theorem fd_136_1 : fieldOf Tryz.prog 136 1 = none := by kernel_rfl
@[go_sem] theorem fd_136_2 : fieldOf Tryz.prog 136 2 = none := by kernel_rfl
@[go_sem] theorem fd_136_3 : fieldOf Tryz.prog 136 3 = none := by kernel_rfl
@[go_sem] theorem fd_136_4 : fieldOf Tryz.prog 136 4 = none := by kernel_rfl
@[go_sem] theorem fd_136_5 : fieldOf Tryz.prog 136 5 = none := by kernel_rfl
@[go_sem] theorem fd_136_6 : fieldOf Tryz.prog 136 6 = none := by kernel_rfl
@[go_sem] theorem fd_136_7 : fieldOf Tryz.prog 136 7 = none := by kernel_rfl
@[go_sem] theorem ze_136 : zeros Tryz.prog 136 = some [.sc (.int .u8 0), .sc (.int .u8 0), .sc (.int .u8 0), .sc (.int .u8 0), .sc (.int .u8 0), .sc (.int .u8 0), .sc (.int .u8 0), .sc (.int .u8 0), .sc (.int .u8 0), .sc (.int .u8 0), .sc (.int .u8 0), .sc (.int .u8 0), .sc (.int .u8 0), .sc (.int .u8 0), .sc (.int .u8 0), .sc (.int .u8 0), .sc (.int .u8 0), .sc (.int .u8 0), .sc (.int .u8 0), .sc (.int .u8 0), .sc (.int .u8 0), .sc (.int .u8 0), .sc (.int .u8 0), .sc (.int .u8 0)] := by kernel_rfl
@[go_sem] theorem by_136 : bytesOf Tryz.prog 136 = 24 := by kernel_rfl
@[go_sem] theorem sz_141 : szOf Tryz.prog 141 = 256 := by kernel_rfl
@[go_sem] theorem kn_141 : knownT Tryz.prog 141 = true := by kernel_rfl
@[go_sem] theorem ag_141 : aggOf Tryz.prog 141 = true := by kernel_rfl
@[go_sem] theorem us_141 : (Tryz.prog.underlying 141).isSome = true := by kernel_rfl
@[go_sem] theorem el_141 : Go.PA.elemOf Tryz.prog 141 = none := by kernel_rfl
@[go_sem] theorem ar_141 : arrOf Tryz.prog 141 = some (256, 5) := by kernel_rfl
@[go_sem] theorem fk_141 : fieldsKnown Tryz.prog 141 = true := by kernel_rfl
@[go_sem] theorem fd_141_0 : fieldOf Tryz.prog 141 0 = none := by kernel_rfl
@[go_sem] theorem fd_141_1 : fieldOf Tryz.prog 141 1 = none := by kernel_rfl
@[go_sem] theorem fd_141_2 : fieldOf Tryz.prog 141 2 = none := by kernel_rfl
@[go_sem] theorem fd_141_3 : fieldOf Tryz.prog 141 3 = none := by kernel_rfl
@[go_sem] theorem fd_141_4 : fieldOf Tryz.prog 141 4 = none := by kernel_rfl
@[go_sem] theorem fd_141_5 : fieldOf Tryz.prog 141 5 = none := by kernel_rfl
@[go_sem] theorem fd_141_6 : fieldOf Tryz.prog 141 6 = none := by kernel_rfl
@[go_sem] theorem fd_141_7 : fieldOf Tryz.prog 141 7 = none := by kernel_rfl
theorem ze_141 : zeros Tryz.prog 141 = some (List.replicate 256 (.sc (.int .u8 0))) := by kernel_rfl
@[go_sem] theorem by_141 : bytesOf Tryz.prog 141 = 256 := by kernel_rfl
@[go_sem] theorem sz_142 : szOf Tryz.prog 142 = 2 := by kernel_rfl
@[go_sem] theorem kn_142 : knownT Tryz.prog 142 = true := by kernel_rfl
@[go_sem] theorem ag_142 : aggOf Tryz.prog 142 = true := by kernel_rfl
@[go_sem] theorem us_142 : (Tryz.prog.underlying 142).isSome = true := by kernel_rfl
@[go_sem] theorem fd_142_0 : fieldOf Tryz.prog 142 0 = some (0, 5) := by kernel_rfl
@[go_sem] theorem fd_142_1 : fieldOf Tryz.prog 142 1 = some (1, 5) := by kernel_rfl
@[go_sem] theorem el_142 : Go.PA.elemOf Tryz.prog 142 = none := by kernel_rfl
@[go_sem] theorem ar_142 : arrOf Tryz.prog 142 = none := by kernel_rfl
@[go_sem] theorem fk_142 : fieldsKnown Tryz.prog 142 = true := by kernel_rfl
@[go_sem] theorem sg_142 : sigOf Tryz.prog 142 = some [.int, .int] := by kernel_rfl
@[go_sem] theorem ze_142 : zeros Tryz.prog 142 = some [.sc (.int .u8 0), .sc (.int .u8 0)] := by kernel_rfl
@[go_sem] theorem by_142 : bytesOf Tryz.prog 142 = 2 := by kernel_rfl
@[go_sem] theorem sz_143 : szOf Tryz.prog 143 = 2 := by kernel_rfl
@[go_sem] theorem kn_143 : knownT Tryz.prog 143 = true := by kernel_rfl
@[go_sem] theorem ag_143 : aggOf Tryz.prog 143 = true := by kernel_rfl
@[go_sem] theorem us_143 : (Tryz.prog.underlying 143).isSome = true := by kernel_rfl
@[go_sem] theorem fd_143_0 : fieldOf Tryz.prog 143 0 = some (0, 5) := by kernel_rfl
@[go_sem] theorem fd_143_1 : fieldOf Tryz.prog 143 1 = some (1, 5) := by kernel_rfl
@[go_sem] theorem el_143 : Go.PA.elemOf Tryz.prog 143 = none := by kernel_rfl
@[go_sem] theorem ar_143 : arrOf Tryz.prog 143 = none := by kernel_rfl
@[go_sem] theorem fk_143 : fieldsKnown Tryz.prog 143 = true := by kernel_rfl
@[go_sem] theorem sg_143 : sigOf Tryz.prog 143 = some [.int, .int] := by kernel_rfl
@[go_sem] theorem ze_143 : zeros Tryz.prog 143 = some [.sc (.int .u8 0), .sc (.int .u8 0)] := by kernel_rfl
@[go_sem] theorem by_143 : bytesOf Tryz.prog 143 = 2 := by kernel_rfl
@[go_sem] theorem sz_144 : szOf Tryz.prog 144 = 32 := by kernel_rfl
@[go_sem] theorem kn_144 : knownT Tryz.prog 144 = true := by kernel_rfl
@[go_sem] theorem ag_144 : aggOf Tryz.prog 144 = true := by kernel_rfl
@[go_sem] theorem us_144 : (Tryz.prog.underlying 144).isSome = true := by kernel_rfl
@[go_sem] theorem el_144 : Go.PA.elemOf Tryz.prog 144 = none := by kernel_rfl
@[go_sem] theorem ar_144 : arrOf Tryz.prog 144 = some (16, 143) := by kernel_rfl
@[go_sem] theorem fk_144 : fieldsKnown Tryz.prog 144 = true := by kernel_rfl
@[go_sem] theorem fd_144_0 : fieldOf Tryz.prog 144 0 = none := by kernel_rfl
@[go_sem] theorem fd_144_1 : fieldOf Tryz.prog 144 1 = none := by kernel_rfl
@[go_sem] theorem fd_144_2 : fieldOf Tryz.prog 144 2 = none := by kernel_rfl
@[go_sem] theorem fd_144_3 : fieldOf Tryz.prog 144 3 = none := by kernel_rfl
@[go_sem] theorem fd_144_4 : fieldOf Tryz.prog 144 4 = none := by kernel_rfl
@[go_sem] theorem fd_144_5 : fieldOf Tryz.prog 144 5 = none := by kernel_rfl
@[go_sem] theorem fd_144_6 : fieldOf Tryz.prog 144 6 = none := by kernel_rfl
@[go_sem] theorem fd_144_7 : fieldOf Tryz.prog 144 7 = none := by kernel_rfl
@[go_sem] theorem ze_144 : zeros Tryz.prog 144 = some [.sc (.int .u8 0), .sc (.int .u8 0), .sc (.int .u8 0), .sc (.int .u8 0), .sc (.int .u8 0), .sc (.int .u8 0), .sc (.int .u8 0), .sc (.int .u8 0), .sc (.int .u8 0), .sc (.int .u8 0), .sc (.int .u8 0), .sc (.int .u8 0), .sc (.int .u8 0), .sc (.int .u8 0), .sc (.int .u8 0), .sc (.int .u8 0), .sc (.int .u8 0), .sc (.int .u8 0), .sc (.int .u8 0), .sc (.int .u8 0), .sc (.int .u8 0), .sc (.int .u8 0), .sc (.int .u8 0), .sc (.int .u8 0), .sc (.int .u8 0), .sc (.int .u8 0), .sc (.int .u8 0), .sc (.int .u8 0), .sc (.int .u8 0), .sc (.int .u8 0), .sc (.int .u8 0), .sc (.int .u8 0)] := by kernel_rfl
@[go_sem] theorem by_144 : bytesOf Tryz.prog 144 = 32 := by kernel_rfl
@[go_sem] theorem sz_147 : szOf Tryz.prog 147 = 1 := by kernel_rfl
@[go_sem] theorem kn_147 : knownT Tryz.prog 147 = true := by kernel_rfl
@[go_sem] theorem ag_147 : aggOf Tryz.prog 147 = false := by kernel_rfl
@[go_sem] theorem us_147 : (Tryz.prog.underlying 147).isSome = true := by kernel_rfl
@[go_sem] theorem ze_147 : zeros Tryz.prog 147 = some [.sc (.pointer none)] := by kernel_rfl
@[go_sem] theorem by_147 : bytesOf Tryz.prog 147 = 8 := by kernel_rfl
@[go_sem] theorem sz_148 : szOf Tryz.prog 148 = 1 := by kernel_rfl
@[go_sem] theorem kn_148 : knownT Tryz.prog 148 = true := by kernel_rfl
@[go_sem] theorem ag_148 : aggOf Tryz.prog 148 = false := by kernel_rfl
@[go_sem] theorem us_148 : (Tryz.prog.underlying 148).isSome = true := by kernel_rfl
@[go_sem] theorem ze_148 : zeros Tryz.prog 148 = some [.sc (.pointer none)] := by kernel_rfl
@[go_sem] theorem by_148 : bytesOf Tryz.prog 148 = 8 := by kernel_rfl
@[go_sem] theorem sz_149 : szOf Tryz.prog 149 = 1 := by kernel_rfl
@[go_sem] theorem kn_149 : knownT Tryz.prog 149 = true := by kernel_rfl
@[go_sem] theorem ag_149 : aggOf Tryz.prog 149 = true := by kernel_rfl
@[go_sem] theorem us_149 : (Tryz.prog.underlying 149).isSome = true := by kernel_rfl
@[go_sem] theorem fd_149_0 : fieldOf Tryz.prog 149 0 = some (0, 9) := by kernel_rfl
@[go_sem] theorem el_149 : Go.PA.elemOf Tryz.prog 149 = none := by kernel_rfl
@[go_sem] theorem ar_149 : arrOf Tryz.prog 149 = none := by kernel_rfl
@[go_sem] theorem fk_149 : fieldsKnown Tryz.prog 149 = true := by kernel_rfl
@[go_sem] theorem sg_149 : sigOf Tryz.prog 149 = some [.str] := by kernel_rfl
@[go_sem] theorem ze_149 : zeros Tryz.prog 149 = some [.sc (.string ByteArray.empty)] := by kernel_rfl
@[go_sem] theorem by_149 : bytesOf Tryz.prog 149 = 16 := by kernel_rfl
@[go_sem] theorem sz_150 : szOf Tryz.prog 150 = 1 := by kernel_rfl
@[go_sem] theorem kn_150 : knownT Tryz.prog 150 = true := by kernel_rfl
@[go_sem] theorem ag_150 : aggOf Tryz.prog 150 = true := by kernel_rfl
@[go_sem] theorem us_150 : (Tryz.prog.underlying 150).isSome = true := by kernel_rfl
@[go_sem] theorem fd_150_0 : fieldOf Tryz.prog 150 0 = some (0, 9) := by kernel_rfl
@[go_sem] theorem el_150 : Go.PA.elemOf Tryz.prog 150 = none := by kernel_rfl
@[go_sem] theorem ar_150 : arrOf Tryz.prog 150 = none := by kernel_rfl
@[go_sem] theorem fk_150 : fieldsKnown Tryz.prog 150 = true := by kernel_rfl
@[go_sem] theorem sg_150 : sigOf Tryz.prog 150 = some [.str] := by kernel_rfl
@[go_sem] theorem ze_150 : zeros Tryz.prog 150 = some [.sc (.string ByteArray.empty)] := by kernel_rfl
@[go_sem] theorem by_150 : bytesOf Tryz.prog 150 = 16 := by kernel_rfl
@[go_sem] theorem sz_152 : szOf Tryz.prog 152 = 20 := by kernel_rfl
@[go_sem] theorem kn_152 : knownT Tryz.prog 152 = true := by kernel_rfl
@[go_sem] theorem ag_152 : aggOf Tryz.prog 152 = true := by kernel_rfl
@[go_sem] theorem us_152 : (Tryz.prog.underlying 152).isSome = true := by kernel_rfl
@[go_sem] theorem el_152 : Go.PA.elemOf Tryz.prog 152 = none := by kernel_rfl
@[go_sem] theorem ar_152 : arrOf Tryz.prog 152 = some (20, 129) := by kernel_rfl
@[go_sem] theorem fk_152 : fieldsKnown Tryz.prog 152 = true := by kernel_rfl
@[go_sem] theorem fd_152_0 : fieldOf Tryz.prog 152 0 = none := by kernel_rfl
@[go_sem] theorem fd_152_1 : fieldOf Tryz.prog 152 1 = none := by kernel_rfl
@[go_sem] theorem fd_152_2 : fieldOf Tryz.prog 152 2 = none := by kernel_rfl
@[go_sem] theorem fd_152_3 : fieldOf Tryz.prog 152 3 = none := by kernel_rfl
@[go_sem] theorem fd_152_4 : fieldOf Tryz.prog 152 4 = none := by kernel_rfl
@[go_sem] theorem fd_152_5 : fieldOf Tryz.prog 152 5 = none := by kernel_rfl
@[go_sem] theorem fd_152_6 : fieldOf Tryz.prog 152 6 = none := by kernel_rfl
@[go_sem] theorem fd_152_7 : fieldOf Tryz.prog 152 7 = none := by kernel_rfl
@[go_sem] theorem ze_152 : zeros Tryz.prog 152 = some [.sc (.int .u64 0), .sc (.int .u64 0), .sc (.int .u64 0), .sc (.int .u64 0), .sc (.int .u64 0), .sc (.int .u64 0), .sc (.int .u64 0), .sc (.int .u64 0), .sc (.int .u64 0), .sc (.int .u64 0), .sc (.int .u64 0), .sc (.int .u64 0), .sc (.int .u64 0), .sc (.int .u64 0), .sc (.int .u64 0), .sc (.int .u64 0), .sc (.int .u64 0), .sc (.int .u64 0), .sc (.int .u64 0), .sc (.int .u64 0)] := by kernel_rfl
@[go_sem] theorem by_152 : bytesOf Tryz.prog 152 = 160 := by kernel_rfl
@[go_sem] theorem sz_153 : szOf Tryz.prog 153 = 1 := by kernel_rfl
@[go_sem] theorem kn_153 : knownT Tryz.prog 153 = true := by kernel_rfl
@[go_sem] theorem ag_153 : aggOf Tryz.prog 153 = false := by kernel_rfl
@[go_sem] theorem us_153 : (Tryz.prog.underlying 153).isSome = true := by kernel_rfl
@[go_sem] theorem un_153 : Tryz.prog.underlying 153 = some (.int .u32) := by kernel_rfl
@[go_sem] theorem ze_153 : zeros Tryz.prog 153 = some [.sc (.int .u32 0)] := by kernel_rfl
@[go_sem] theorem az_153 : azero1 Tryz.prog 153 = some (.sc (.int .u32 0)) := by kernel_rfl
@[go_sem] theorem by_153 : bytesOf Tryz.prog 153 = 4 := by kernel_rfl
@[go_sem] theorem sz_154 : szOf Tryz.prog 154 = 65 := by kernel_rfl
@[go_sem] theorem kn_154 : knownT Tryz.prog 154 = true := by kernel_rfl
@[go_sem] theorem ag_154 : aggOf Tryz.prog 154 = true := by kernel_rfl
@[go_sem] theorem us_154 : (Tryz.prog.underlying 154).isSome = true := by kernel_rfl
@[go_sem] theorem el_154 : Go.PA.elemOf Tryz.prog 154 = none := by kernel_rfl
@[go_sem] theorem ar_154 : arrOf Tryz.prog 154 = some (65, 5) := by kernel_rfl
@[go_sem] theorem fk_154 : fieldsKnown Tryz.prog 154 = true := by kernel_rfl
@[go_sem] theorem fd_154_0 : fieldOf Tryz.prog 154 0 = none := by kernel_rfl
@[go_sem] theorem fd_154_1 : fieldOf Tryz.prog 154 1 = none := by kernel_rfl
@[go_sem] theorem fd_154_2 : fieldOf Tryz.prog 154 2 = none := by kernel_rfl
@[go_sem] theorem fd_154_3 : fieldOf Tryz.prog 154 3 = none := by kernel_rfl
@[go_sem] theorem fd_154_4 : fieldOf Tryz.prog 154 4 = none := by kernel_rfl
@[go_sem] theorem fd_154_5 : fieldOf Tryz.prog 154 5 = none := by kernel_rfl
@[go_sem] theorem fd_154_6 : fieldOf Tryz.prog 154 6 = none := by kernel_rfl
@[go_sem] theorem fd_154_7 : fieldOf Tryz.prog 154 7 = none := by kernel_rfl
theorem ze_154 : zeros Tryz.prog 154 = some (List.replicate 65 (.sc (.int .u8 0))) := by kernel_rfl
@[go_sem] theorem by_154 : bytesOf Tryz.prog 154 = 65 := by kernel_rfl
@[go_sem] theorem sz_159 : szOf Tryz.prog 159 = 32 := by kernel_rfl
@[go_sem] theorem kn_159 : knownT Tryz.prog 159 = true := by kernel_rfl
@[go_sem] theorem ag_159 : aggOf Tryz.prog 159 = true := by kernel_rfl
@[go_sem] theorem us_159 : (Tryz.prog.underlying 159).isSome = true := by kernel_rfl
@[go_sem] theorem el_159 : Go.PA.elemOf Tryz.prog 159 = none := by kernel_rfl
@[go_sem] theorem ar_159 : arrOf Tryz.prog 159 = some (32, 5) := by kernel_rfl
@[go_sem] theorem fk_159 : fieldsKnown Tryz.prog 159 = true := by kernel_rfl
@[go_sem] theorem fd_159_0 : fieldOf Tryz.prog 159 0 = none := by kernel_rfl
@[go_sem] theorem fd_159_1 : fieldOf Tryz.prog 159 1 = none := by kernel_rfl
@[go_sem] theorem fd_159_2 : fieldOf Tryz.prog 159 2 = none := by kernel_rfl
@[go_sem] theorem fd_159_3 : fieldOf Tryz.prog 159 3 = none := by kernel_rfl
@[go_sem] theorem fd_159_4 : fieldOf Tryz.prog 159 4 = none := by kernel_rfl
@[go_sem] theorem fd_159_5 : fieldOf Tryz.prog 159 5 = none := by kernel_rfl
@[go_sem] theorem fd_159_6 : fieldOf Tryz.prog 159 6 = none := by kernel_rfl
@[go_sem] theorem fd_159_7 : fieldOf Tryz.prog 159 7 = none := by kernel_rfl
@[go_sem] theorem ze_159 : zeros Tryz.prog 159 = some [.sc (.int .u8 0), .sc (.int .u8 0), .sc (.int .u8 0), .sc (.int .u8 0), .sc (.int .u8 0), .sc (.int .u8 0), .sc (.int .u8 0), .sc (.int .u8 0), .sc (.int .u8 0), .sc (.int .u8 0), .sc (.int .u8 0), .sc (.int .u8 0), .sc (.int .u8 0), .sc (.int .u8 0), .sc (.int .u8 0), .sc (.int .u8 0), .sc (.int .u8 0), .sc (.int .u8 0), .sc (.int .u8 0), .sc (.int .u8 0), .sc (.int .u8 0), .sc (.int .u8 0), .sc (.int .u8 0), .sc (.int .u8 0), .sc (.int .u8 0), .sc (.int .u8 0), .sc (.int .u8 0), .sc (.int .u8 0), .sc (.int .u8 0), .sc (.int .u8 0), .sc (.int .u8 0), .sc (.int .u8 0)] := by kernel_rfl
@[go_sem] theorem by_159 : bytesOf Tryz.prog 159 = 32 := by kernel_rfl
@[go_sem] theorem sz_160 : szOf Tryz.prog 160 = 64 := by kernel_rfl
@[go_sem] theorem kn_160 : knownT Tryz.prog 160 = true := by kernel_rfl
@[go_sem] theorem ag_160 : aggOf Tryz.prog 160 = true := by kernel_rfl
@[go_sem] theorem us_160 : (Tryz.prog.underlying 160).isSome = true := by kernel_rfl
@[go_sem] theorem el_160 : Go.PA.elemOf Tryz.prog 160 = none := by kernel_rfl
@[go_sem] theorem ar_160 : arrOf Tryz.prog 160 = some (64, 5) := by kernel_rfl
@[go_sem] theorem fk_160 : fieldsKnown Tryz.prog 160 = true := by kernel_rfl
@[go_sem] theorem fd_160_0 : fieldOf Tryz.prog 160 0 = none := by kernel_rfl
@[go_sem] theorem fd_160_1 : fieldOf Tryz.prog 160 1 = none := by kernel_rfl
@[go_sem] theorem fd_160_2 : fieldOf Tryz.prog 160 2 = none := by kernel_rfl
@[go_sem] theorem fd_160_3 : fieldOf Tryz.prog 160 3 = none := by kernel_rfl
@[go_sem] theorem fd_160_4 : fieldOf Tryz.prog 160 4 = none := by kernel_rfl
@[go_sem] theorem fd_160_5 : fieldOf Tryz.prog 160 5 = none := by kernel_rfl
@[go_sem] theorem fd_160_6 : fieldOf Tryz.prog 160 6 = none := by kernel_rfl
@[go_sem] theorem fd_160_7 : fieldOf Tryz.prog 160 7 = none := by kernel_rfl
theorem ze_160 : zeros Tryz.prog 160 = some (List.replicate 64 (.sc (.int .u8 0))) := by kernel_rfl
@[go_sem] theorem by_160 : bytesOf Tryz.prog 160 = 64 := by kernel_rfl
@[go_sem] theorem en_3 : enterable Tryz.prog 3 = true := by kernel_rfl -- treasury/treasurylaw27.ReceiptFirst
@[go_sem] theorem en_4 : enterable Tryz.prog 4 = true := by kernel_rfl -- treasury/treasurylaw27.ReceiptSums
@[go_sem] theorem en_5 : enterable Tryz.prog 5 = true := by kernel_rfl -- treasury/treasurylaw27.ReceiptRefunds
@[go_sem] theorem en_6 : enterable Tryz.prog 6 = true := by kernel_rfl -- treasury/treasurylaw27.ReceiptExact
@[go_sem] theorem en_7 : enterable Tryz.prog 7 = true := by kernel_rfl -- treasury/treasurylaw27.ReceiptNever
@[go_sem] theorem en_8 : enterable Tryz.prog 8 = true := by kernel_rfl -- treasury/treasuryplay.New
@[go_sem] theorem en_9 : enterable Tryz.prog 9 = true := by kernel_rfl -- (*treasury/treasuryplay.Src).Cash
@[go_sem] theorem en_10 : enterable Tryz.prog 10 = true := by kernel_rfl -- (*treasury/treasuryplay.Src).Income
@[go_sem] theorem en_11 : enterable Tryz.prog 11 = true := by kernel_rfl -- treasury/receipt.Take
@[go_sem] theorem en_12 : enterable Tryz.prog 12 = true := by kernel_rfl -- treasury/treasurylaw27.sane
@[go_sem] theorem en_13 : enterable Tryz.prog 13 = true := by kernel_rfl -- treasury/receipt.Owed
@[go_sem] theorem en_14 : enterable Tryz.prog 14 = true := by kernel_rfl -- treasury/receipt.Loose
@[go_sem] theorem en_15 : enterable Tryz.prog 15 = true := by kernel_rfl -- treasury/receipt.Check
@[go_sem] theorem en_16 : enterable Tryz.prog 16 = true := by kernel_rfl -- treasury/receipt.Refund
@[go_sem] theorem en_17 : enterable Tryz.prog 17 = true := by kernel_rfl -- treasury/treasuryref27.Claims
@[go_sem] theorem en_18 : enterable Tryz.prog 18 = true := by kernel_rfl -- treasury/treasuryref27.Matches
@[go_sem] theorem en_19 : enterable Tryz.prog 19 = true := by kernel_rfl -- treasury/treasurylaw27.small
@[go_sem] theorem en_20 : enterable Tryz.prog 20 = true := by kernel_rfl -- (*treasury/treasuryplay.Src).Claims
@[go_sem] theorem en_21 : enterable Tryz.prog 21 = true := by kernel_rfl -- treasury/receipt.New
@[go_sem] theorem en_22 : enterable Tryz.prog 22 = true := by kernel_rfl -- treasury/treasuryref27.New
@[go_sem] theorem en_23 : enterable Tryz.prog 23 = true := by kernel_rfl -- treasury/treasuryref27.Same
@[go_sem] theorem en_24 : enterable Tryz.prog 24 = true := by kernel_rfl -- (*treasury/treasuryplay.Src).Range
@[go_sem] theorem en_25 : enterable Tryz.prog 25 = true := by kernel_rfl -- (*treasury/treasuryplay.Src).Pick
@[go_sem] theorem en_26 : enterable Tryz.prog 26 = true := by kernel_rfl -- (*treasury/treasuryplay.Src).Text
@[go_sem] theorem en_27 : enterable Tryz.prog 27 = true := by kernel_rfl -- treasury/treasurylaw27.bent
@[go_sem] theorem en_28 : enterable Tryz.prog 28 = true := by kernel_rfl -- treasury/treasuryref27.Check
@[go_sem] theorem en_29 : enterable Tryz.prog 29 = true := by kernel_rfl -- treasury/receipt.Claim
@[go_sem] theorem en_30 : enterable Tryz.prog 30 = true := by kernel_rfl -- treasury/treasuryref27.Claim
@[go_sem] theorem en_31 : enterable Tryz.prog 31 = true := by kernel_rfl -- treasury/receipt.Add
@[go_sem] theorem en_32 : enterable Tryz.prog 32 = true := by kernel_rfl -- treasury/treasuryref27.Add
@[go_sem] theorem en_33 : enterable Tryz.prog 33 = true := by kernel_rfl -- (*treasury/treasuryplay.Src).Odd
@[go_sem] theorem en_34 : enterable Tryz.prog 34 = true := by kernel_rfl -- treasury/treasuryref27.Take
@[go_sem] theorem en_35 : enterable Tryz.prog 35 = true := by kernel_rfl -- treasury/treasuryref27.Refund
@[go_sem] theorem en_36 : enterable Tryz.prog 36 = true := by kernel_rfl -- treasury/treasuryref27.Loose
@[go_sem] theorem en_37 : enterable Tryz.prog 37 = true := by kernel_rfl -- treasury/treasuryref27.Owed
@[go_sem] theorem en_38 : enterable Tryz.prog 38 = true := by kernel_rfl -- (*treasury/treasuryplay.Src).N
@[go_sem] theorem en_39 : enterable Tryz.prog 39 = true := by kernel_rfl -- treasury/receipt.income
@[go_sem] theorem en_40 : enterable Tryz.prog 40 = true := by kernel_rfl -- treasury/receipt.copied
@[go_sem] theorem en_41 : enterable Tryz.prog 41 = true := by kernel_rfl -- treasury/receipt.claimAt
@[go_sem] theorem en_42 : enterable Tryz.prog 42 = true := by kernel_rfl -- treasury/receipt.match
@[go_sem] theorem en_43 : enterable Tryz.prog 43 = true := by kernel_rfl -- treasury/receipt.exact
@[go_sem] theorem en_44 : enterable Tryz.prog 44 = true := by kernel_rfl -- treasury/receipt.open
@[go_sem] theorem en_45 : enterable Tryz.prog 45 = true := by kernel_rfl -- slices.Clone[[]treasury/api.Match,treasury/api.Match]
@[go_sem] theorem en_46 : enterable Tryz.prog 46 = true := by kernel_rfl -- treasury/receipt.claims
@[go_sem] theorem en_47 : enterable Tryz.prog 47 = true := by kernel_rfl -- treasury/receipt.incomes
@[go_sem] theorem en_48 : enterable Tryz.prog 48 = true := by kernel_rfl -- treasury/receipt.matched
@[go_sem] theorem en_49 : enterable Tryz.prog 49 = true := by kernel_rfl -- treasury/receipt.incomeAt
@[go_sem] theorem en_50 : enterable Tryz.prog 50 = true := by kernel_rfl -- (*treasury/treasuryplay.Src).Code
@[go_sem] theorem en_51 : enterable Tryz.prog 51 = true := by kernel_rfl -- treasury/receipt.New$1
@[go_sem] theorem en_52 : enterable Tryz.prog 52 = true := by kernel_rfl -- slices.ContainsFunc[[]treasury/api.Claim,treasury/api.Claim]
@[go_sem] theorem en_53 : enterable Tryz.prog 53 = true := by kernel_rfl -- slices.Clone[[]treasury/api.Claim,treasury/api.Claim]
@[go_sem] theorem en_54 : enterable Tryz.prog 54 = true := by kernel_rfl -- treasury/treasuryref27.claims
@[go_sem] theorem en_55 : enterable Tryz.prog 55 = true := by kernel_rfl -- treasury/treasuryref27.income
@[go_sem] theorem en_56 : enterable Tryz.prog 56 = true := by kernel_rfl -- treasury/treasuryref27.number
@[go_sem] theorem en_57 : enterable Tryz.prog 57 = true := by kernel_rfl -- treasury/treasuryref27.claim
@[go_sem] theorem en_58 : enterable Tryz.prog 58 = true := by kernel_rfl -- treasury/receipt.among
@[go_sem] theorem en_59 : enterable Tryz.prog 59 = true := by kernel_rfl -- treasury/receipt.positive
@[go_sem] theorem en_60 : enterable Tryz.prog 60 = true := by kernel_rfl -- treasury/classification.Parts
@[go_sem] theorem en_61 : enterable Tryz.prog 61 = true := by kernel_rfl -- treasury/treasuryref03.Parts
@[go_sem] theorem en_62 : enterable Tryz.prog 62 = true := by kernel_rfl -- slices.BinarySearchFunc[[]treasury/api.Claim,treasury/api.Claim,int]
@[go_sem] theorem en_63 : enterable Tryz.prog 63 = true := by kernel_rfl -- treasury/receipt.Add$1
@[go_sem] theorem en_64 : enterable Tryz.prog 64 = true := by kernel_rfl -- cmp.Compare[int]
@[go_sem] theorem en_65 : enterable Tryz.prog 65 = true := by kernel_rfl -- slices.Insert[[]treasury/api.Claim,treasury/api.Claim]
@[go_sem] theorem en_66 : enterable Tryz.prog 66 = true := by kernel_rfl -- treasury/treasuryref27.copied
@[go_sem] theorem en_67 : enterable Tryz.prog 67 = true := by kernel_rfl -- treasury/treasuryref27.match
@[go_sem] theorem en_68 : enterable Tryz.prog 68 = true := by kernel_rfl -- treasury/treasuryref27.oldest
@[go_sem] theorem en_69 : enterable Tryz.prog 69 = true := by kernel_rfl -- slices.Clone[[]treasury/api.Income,treasury/api.Income]
@[go_sem] theorem en_70 : enterable Tryz.prog 70 = true := by kernel_rfl -- slices.Clone[[]int,int]
@[go_sem] theorem en_71 : enterable Tryz.prog 71 = true := by kernel_rfl -- slices.IndexFunc[[]treasury/api.Claim,treasury/api.Claim]
@[go_sem] theorem en_72 : enterable Tryz.prog 72 = true := by kernel_rfl -- treasury/receipt.claimAt$1
@[go_sem] theorem en_73 : enterable Tryz.prog 73 = true := by kernel_rfl -- slices.DeleteFunc[[]int,int]
@[go_sem] theorem en_74 : enterable Tryz.prog 74 = true := by kernel_rfl -- treasury/receipt.exact$1
@[go_sem] theorem en_75 : enterable Tryz.prog 75 = true := by kernel_rfl -- slices.SortStableFunc[[]int,int]
@[go_sem] theorem en_76 : enterable Tryz.prog 76 = true := by kernel_rfl -- treasury/receipt.open$1
@[go_sem] theorem en_77 : enterable Tryz.prog 77 = true := by kernel_rfl -- slices.IndexFunc[[]treasury/api.Income,treasury/api.Income]
@[go_sem] theorem en_78 : enterable Tryz.prog 78 = true := by kernel_rfl -- treasury/receipt.incomeAt$1
@[go_sem] theorem en_79 : enterable Tryz.prog 79 = true := by kernel_rfl -- treasury/money.Valid
@[go_sem] theorem en_80 : enterable Tryz.prog 80 = true := by kernel_rfl -- strings.SplitSeq
@[go_sem] theorem en_81 : enterable Tryz.prog 81 = true := by kernel_rfl -- strconv.Atoi
@[go_sem] theorem en_82 : enterable Tryz.prog 82 = true := by kernel_rfl -- strconv.Itoa
@[go_sem] theorem en_83 : enterable Tryz.prog 83 = true := by kernel_rfl -- cmp.isNaN[int]
@[go_sem] theorem en_85 : enterable Tryz.prog 85 = true := by kernel_rfl -- slices.rotateRight[treasury/api.Claim]
@[go_sem] theorem en_86 : enterable Tryz.prog 86 = true := by kernel_rfl -- slices.IndexFunc[[]int,int]
@[go_sem] theorem en_87 : enterable Tryz.prog 87 = true := by kernel_rfl -- slices.stableCmpFunc[int]
@[go_sem] theorem en_88 : enterable Tryz.prog 88 = true := by kernel_rfl -- strings.splitSeq
@[go_sem] theorem en_90 : enterable Tryz.prog 90 = true := by kernel_rfl -- strconv.toError
@[go_sem] theorem en_92 : enterable Tryz.prog 92 = true := by kernel_rfl -- slices.rotateLeft[treasury/api.Claim]
@[go_sem] theorem en_93 : enterable Tryz.prog 93 = true := by kernel_rfl -- slices.insertionSortCmpFunc[int]
@[go_sem] theorem en_94 : enterable Tryz.prog 94 = true := by kernel_rfl -- slices.symMergeCmpFunc[int]
@[go_sem] theorem en_95 : enterable Tryz.prog 95 = true := by kernel_rfl -- strings.splitSeq$1
@[go_sem] theorem en_96 : enterable Tryz.prog 96 = true := by kernel_rfl -- unicode/utf8.DecodeRuneInString
@[go_sem] theorem en_97 : enterable Tryz.prog 97 = true := by kernel_rfl -- strings.Index
@[go_sem] theorem en_99 : enterable Tryz.prog 99 = true := by kernel_rfl -- strconv.syntaxError
@[go_sem] theorem en_100 : enterable Tryz.prog 100 = true := by kernel_rfl -- strconv.rangeError
@[go_sem] theorem en_101 : enterable Tryz.prog 101 = true := by kernel_rfl -- strconv.baseError
@[go_sem] theorem en_102 : enterable Tryz.prog 102 = true := by kernel_rfl -- strconv.bitSizeError
@[go_sem] theorem en_104 : enterable Tryz.prog 104 = true := by kernel_rfl -- slices.Reverse[[]treasury/api.Claim,treasury/api.Claim]
@[go_sem] theorem en_105 : enterable Tryz.prog 105 = true := by kernel_rfl -- slices.rotateCmpFunc[int]
@[go_sem] theorem en_106 : enterable Tryz.prog 106 = true := by kernel_rfl -- unicode/utf8.decodeRuneInStringSlow
@[go_sem] theorem en_110 : enterable Tryz.prog 110 = true := by kernel_rfl -- errors.New
@[go_sem] theorem en_115 : enterable Tryz.prog 115 = true := by kernel_rfl -- slices.swapRangeCmpFunc[int]
@[go_sem] theorem en_123 : enterable Tryz.prog 123 = true := by kernel_rfl -- math/bits.Len64
@[go_sem] theorem en_126 : enterable Tryz.prog 126 = true := by kernel_rfl -- math/bits.TrailingZeros
@[go_sem] theorem en_129 : enterable Tryz.prog 129 = true := by kernel_rfl -- math/bits.TrailingZeros32
@[go_sem] theorem en_130 : enterable Tryz.prog 130 = true := by kernel_rfl -- math/bits.TrailingZeros64
@[go_sem] theorem rs_3 : Tryz.f3.results.toList = [.tmp 2] := rfl
@[go_sem] theorem rs_4 : Tryz.f4.results.toList = [.tmp 2] := rfl
@[go_sem] theorem rs_5 : Tryz.f5.results.toList = [.tmp 4] := rfl
@[go_sem] theorem rs_6 : Tryz.f6.results.toList = [.tmp 10] := rfl
@[go_sem] theorem rs_7 : Tryz.f7.results.toList = [.tmp 2] := rfl
@[go_sem] theorem rs_8 : Tryz.f8.results.toList = [.tmp 2] := rfl
@[go_sem] theorem rs_9 : Tryz.f9.results.toList = [.cell 4 29] := rfl
@[go_sem] theorem rs_10 : Tryz.f10.results.toList = [.cell 6 32] := rfl
@[go_sem] theorem rs_11 : Tryz.f11.results.toList = [.cell 4 29, .tmp 5, .tmp 6] := rfl
@[go_sem] theorem rs_12 : Tryz.f12.results.toList = [.tmp 0] := rfl
@[go_sem] theorem rs_13 : Tryz.f13.results.toList = [.tmp 4] := rfl
@[go_sem] theorem rs_14 : Tryz.f14.results.toList = [.tmp 4] := rfl
@[go_sem] theorem rs_15 : Tryz.f15.results.toList = [.tmp 2] := rfl
@[go_sem] theorem rs_16 : Tryz.f16.results.toList = [.cell 4 29, .tmp 5, .tmp 6] := rfl
@[go_sem] theorem rs_17 : Tryz.f17.results.toList = [.tmp 4] := rfl
@[go_sem] theorem rs_18 : Tryz.f18.results.toList = [.tmp 4] := rfl
@[go_sem] theorem rs_19 : Tryz.f19.results.toList = [.tmp 2] := rfl
@[go_sem] theorem rs_20 : Tryz.f20.results.toList = [.tmp 4] := rfl
@[go_sem] theorem rs_21 : Tryz.f21.results.toList = [.cell 2 29, .tmp 3] := rfl
@[go_sem] theorem rs_22 : Tryz.f22.results.toList = [.cell 2 29, .tmp 3] := rfl
@[go_sem] theorem rs_23 : Tryz.f23.results.toList = [.tmp 4] := rfl
@[go_sem] theorem rs_24 : Tryz.f24.results.toList = [.tmp 6] := rfl
@[go_sem] theorem rs_25 : Tryz.f25.results.toList = [.tmp 4] := rfl
@[go_sem] theorem rs_26 : Tryz.f26.results.toList = [.tmp 4] := rfl
@[go_sem] theorem rs_27 : Tryz.f27.results.toList = [.cell 4 29] := rfl
@[go_sem] theorem rs_28 : Tryz.f28.results.toList = [.tmp 2] := rfl
@[go_sem] theorem rs_29 : Tryz.f29.results.toList = [.tmp 2] := rfl
@[go_sem] theorem rs_30 : Tryz.f30.results.toList = [.tmp 2] := rfl
@[go_sem] theorem rs_31 : Tryz.f31.results.toList = [.cell 4 29, .tmp 5] := rfl
@[go_sem] theorem rs_32 : Tryz.f32.results.toList = [.cell 4 29, .tmp 5] := rfl
@[go_sem] theorem rs_33 : Tryz.f33.results.toList = [.tmp 2] := rfl
@[go_sem] theorem rs_34 : Tryz.f34.results.toList = [.cell 4 29, .tmp 5, .tmp 6] := rfl
@[go_sem] theorem rs_35 : Tryz.f35.results.toList = [.cell 4 29, .tmp 5, .tmp 6] := rfl
@[go_sem] theorem rs_36 : Tryz.f36.results.toList = [.tmp 4] := rfl
@[go_sem] theorem rs_37 : Tryz.f37.results.toList = [.tmp 4] := rfl
@[go_sem] theorem rs_38 : Tryz.f38.results.toList = [.tmp 4] := rfl
@[go_sem] theorem rs_39 : Tryz.f39.results.toList = [.tmp 2] := rfl
@[go_sem] theorem rs_40 : Tryz.f40.results.toList = [.tmp 2] := rfl
@[go_sem] theorem rs_41 : Tryz.f41.results.toList = [.tmp 4] := rfl
@[go_sem] theorem rs_42 : Tryz.f42.results.toList = [] := rfl
@[go_sem] theorem rs_43 : Tryz.f43.results.toList = [.tmp 6] := rfl
@[go_sem] theorem rs_44 : Tryz.f44.results.toList = [.tmp 4] := rfl
@[go_sem] theorem rs_45 : Tryz.f45.results.toList = [.tmp 2] := rfl
@[go_sem] theorem rs_46 : Tryz.f46.results.toList = [.tmp 2] := rfl
@[go_sem] theorem rs_47 : Tryz.f47.results.toList = [.tmp 2] := rfl
@[go_sem] theorem rs_48 : Tryz.f48.results.toList = [.tmp 2] := rfl
@[go_sem] theorem rs_49 : Tryz.f49.results.toList = [.tmp 4] := rfl
@[go_sem] theorem rs_50 : Tryz.f50.results.toList = [.tmp 2] := rfl
@[go_sem] theorem rs_51 : Tryz.f51.results.toList = [.tmp 2] := rfl
@[go_sem] theorem rs_52 : Tryz.f52.results.toList = [.tmp 4] := rfl
@[go_sem] theorem rs_53 : Tryz.f53.results.toList = [.tmp 2] := rfl
@[go_sem] theorem rs_54 : Tryz.f54.results.toList = [.tmp 2] := rfl
@[go_sem] theorem rs_55 : Tryz.f55.results.toList = [.tmp 2] := rfl
@[go_sem] theorem rs_56 : Tryz.f56.results.toList = [.tmp 4] := rfl
@[go_sem] theorem rs_57 : Tryz.f57.results.toList = [.tmp 4] := rfl
@[go_sem] theorem rs_58 : Tryz.f58.results.toList = [.tmp 6] := rfl
@[go_sem] theorem rs_59 : Tryz.f59.results.toList = [.tmp 2] := rfl
@[go_sem] theorem rs_60 : Tryz.f60.results.toList = [.cell 2 22] := rfl
@[go_sem] theorem rs_61 : Tryz.f61.results.toList = [.tmp 2] := rfl
@[go_sem] theorem rs_62 : Tryz.f62.results.toList = [.tmp 6, .tmp 7] := rfl
@[go_sem] theorem rs_63 : Tryz.f63.results.toList = [.tmp 4] := rfl
@[go_sem] theorem rs_64 : Tryz.f64.results.toList = [.tmp 4] := rfl
@[go_sem] theorem rs_65 : Tryz.f65.results.toList = [.tmp 6] := rfl
@[go_sem] theorem rs_66 : Tryz.f66.results.toList = [.cell 2 29] := rfl
@[go_sem] theorem rs_67 : Tryz.f67.results.toList = [.cell 6 40, .tmp 7] := rfl
@[go_sem] theorem rs_68 : Tryz.f68.results.toList = [.tmp 4] := rfl
@[go_sem] theorem rs_69 : Tryz.f69.results.toList = [.tmp 2] := rfl
@[go_sem] theorem rs_70 : Tryz.f70.results.toList = [.tmp 2] := rfl
@[go_sem] theorem rs_71 : Tryz.f71.results.toList = [.tmp 4] := rfl
@[go_sem] theorem rs_72 : Tryz.f72.results.toList = [.tmp 3] := rfl
@[go_sem] theorem rs_73 : Tryz.f73.results.toList = [.tmp 4] := rfl
@[go_sem] theorem rs_74 : Tryz.f74.results.toList = [.tmp 4] := rfl
@[go_sem] theorem rs_75 : Tryz.f75.results.toList = [] := rfl
@[go_sem] theorem rs_76 : Tryz.f76.results.toList = [.tmp 5] := rfl
@[go_sem] theorem rs_77 : Tryz.f77.results.toList = [.tmp 4] := rfl
@[go_sem] theorem rs_78 : Tryz.f78.results.toList = [.tmp 3] := rfl
@[go_sem] theorem rs_79 : Tryz.f79.results.toList = [.tmp 2] := rfl
@[go_sem] theorem rs_80 : Tryz.f80.results.toList = [.tmp 4] := rfl
@[go_sem] theorem rs_81 : Tryz.f81.results.toList = [.tmp 2, .tmp 3] := rfl
@[go_sem] theorem rs_82 : Tryz.f82.results.toList = [.tmp 2] := rfl
@[go_sem] theorem rs_83 : Tryz.f83.results.toList = [.tmp 2] := rfl
@[go_sem] theorem rs_84 : Tryz.f84.results.toList = [] := rfl
@[go_sem] theorem rs_85 : Tryz.f85.results.toList = [] := rfl
@[go_sem] theorem rs_86 : Tryz.f86.results.toList = [.tmp 4] := rfl
@[go_sem] theorem rs_87 : Tryz.f87.results.toList = [] := rfl
@[go_sem] theorem rs_88 : Tryz.f88.results.toList = [.tmp 6] := rfl
@[go_sem] theorem rs_90 : Tryz.f90.results.toList = [.tmp 10] := rfl
@[go_sem] theorem rs_92 : Tryz.f92.results.toList = [] := rfl
@[go_sem] theorem rs_93 : Tryz.f93.results.toList = [] := rfl
@[go_sem] theorem rs_94 : Tryz.f94.results.toList = [] := rfl
@[go_sem] theorem rs_95 : Tryz.f95.results.toList = [] := rfl
@[go_sem] theorem rs_96 : Tryz.f96.results.toList = [.tmp 2, .tmp 3] := rfl
@[go_sem] theorem rs_97 : Tryz.f97.results.toList = [.tmp 4] := rfl
@[go_sem] theorem rs_99 : Tryz.f99.results.toList = [.tmp 4] := rfl
@[go_sem] theorem rs_100 : Tryz.f100.results.toList = [.tmp 4] := rfl
@[go_sem] theorem rs_101 : Tryz.f101.results.toList = [.tmp 6] := rfl
@[go_sem] theorem rs_102 : Tryz.f102.results.toList = [.tmp 6] := rfl
@[go_sem] theorem rs_104 : Tryz.f104.results.toList = [] := rfl
@[go_sem] theorem rs_105 : Tryz.f105.results.toList = [] := rfl
@[go_sem] theorem rs_106 : Tryz.f106.results.toList = [.tmp 2, .tmp 3] := rfl
@[go_sem] theorem rs_110 : Tryz.f110.results.toList = [.tmp 2] := rfl
@[go_sem] theorem rs_115 : Tryz.f115.results.toList = [] := rfl
@[go_sem] theorem rs_123 : Tryz.f123.results.toList = [.tmp 2] := rfl
@[go_sem] theorem rs_126 : Tryz.f126.results.toList = [.tmp 2] := rfl
@[go_sem] theorem rs_129 : Tryz.f129.results.toList = [.tmp 2] := rfl
@[go_sem] theorem rs_130 : Tryz.f130.results.toList = [.tmp 2] := rfl
@[go_sem] theorem rs_147 : Tryz.f147.results.toList = [] := rfl
@[go_sem] theorem rs_148 : Tryz.f148.results.toList = [] := rfl
@[go_sem] theorem rs_152 : Tryz.f152.results.toList = [] := rfl
@[go_sem] theorem rs_153 : Tryz.f153.results.toList = [] := rfl
@[go_sem] theorem rs_154 : Tryz.f154.results.toList = [] := rfl
@[go_sem] theorem rs_155 : Tryz.f155.results.toList = [] := rfl
@[go_sem] theorem rs_157 : Tryz.f157.results.toList = [] := rfl
@[go_sem] theorem rs_158 : Tryz.f158.results.toList = [] := rfl

end Go.Proofs.YtgapbmaehfdkoaaGreatDoor
