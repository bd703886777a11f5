/- The types and functions of this seat's program, as PA reads them. Printed by wip/facts.py. -/
import Derived.Test.YtmkhcmiplleghaaGreatDoorPaB
import Derived.Test.YtmkhcmiplleghaaGreatDoorProg
import Derived.KernelRfl
namespace Go.Proofs.YtmkhcmiplleghaaGreatDoor
open Go.PA

@[go_sem] theorem sz_2 : szOf Tryz.prog 2 = 1 := by kernel_rfl
@[go_sem] theorem kn_2 : knownT Tryz.prog 2 = true := by kernel_rfl
@[go_sem] theorem ag_2 : aggOf Tryz.prog 2 = false := by kernel_rfl
@[go_sem] theorem us_2 : (Tryz.prog.underlying 2).isSome = true := by kernel_rfl
@[go_sem] theorem un_2 : Tryz.prog.underlying 2 = some (.int .i64) := by kernel_rfl
@[go_sem] theorem ze_2 : zeros Tryz.prog 2 = some [.sc (.int .i64 0)] := by kernel_rfl
@[go_sem] theorem az_2 : azero1 Tryz.prog 2 = some (.sc (.int .i64 0)) := by kernel_rfl
@[go_sem] theorem by_2 : bytesOf Tryz.prog 2 = 8 := by kernel_rfl
@[go_sem] theorem sz_3 : szOf Tryz.prog 3 = 1 := by kernel_rfl
@[go_sem] theorem kn_3 : knownT Tryz.prog 3 = true := by kernel_rfl
@[go_sem] theorem ag_3 : aggOf Tryz.prog 3 = false := by kernel_rfl
@[go_sem] theorem us_3 : (Tryz.prog.underlying 3).isSome = true := by kernel_rfl
@[go_sem] theorem un_3 : Tryz.prog.underlying 3 = some (.int .i64) := by kernel_rfl
@[go_sem] theorem ze_3 : zeros Tryz.prog 3 = some [.sc (.int .i64 0)] := by kernel_rfl
@[go_sem] theorem az_3 : azero1 Tryz.prog 3 = some (.sc (.int .i64 0)) := by kernel_rfl
@[go_sem] theorem by_3 : bytesOf Tryz.prog 3 = 8 := by kernel_rfl
@[go_sem] theorem sz_4 : szOf Tryz.prog 4 = 1 := by kernel_rfl
@[go_sem] theorem kn_4 : knownT Tryz.prog 4 = true := by kernel_rfl
@[go_sem] theorem ag_4 : aggOf Tryz.prog 4 = false := by kernel_rfl
@[go_sem] theorem us_4 : (Tryz.prog.underlying 4).isSome = true := by kernel_rfl
@[go_sem] theorem un_4 : Tryz.prog.underlying 4 = some .bool := by kernel_rfl
@[go_sem] theorem ze_4 : zeros Tryz.prog 4 = some [.sc (.bool false)] := by kernel_rfl
@[go_sem] theorem az_4 : azero1 Tryz.prog 4 = some (.sc (.bool false)) := by kernel_rfl
@[go_sem] theorem by_4 : bytesOf Tryz.prog 4 = 1 := by kernel_rfl
@[go_sem] theorem sz_5 : szOf Tryz.prog 5 = 1 := by kernel_rfl
@[go_sem] theorem kn_5 : knownT Tryz.prog 5 = true := by kernel_rfl
@[go_sem] theorem ag_5 : aggOf Tryz.prog 5 = false := by kernel_rfl
@[go_sem] theorem us_5 : (Tryz.prog.underlying 5).isSome = true := by kernel_rfl
@[go_sem] theorem un_5 : Tryz.prog.underlying 5 = some (.int .u8) := by kernel_rfl
@[go_sem] theorem ze_5 : zeros Tryz.prog 5 = some [.sc (.int .u8 0)] := by kernel_rfl
@[go_sem] theorem az_5 : azero1 Tryz.prog 5 = some (.sc (.int .u8 0)) := by kernel_rfl
@[go_sem] theorem by_5 : bytesOf Tryz.prog 5 = 1 := by kernel_rfl
@[go_sem] theorem sz_9 : szOf Tryz.prog 9 = 1 := by kernel_rfl
@[go_sem] theorem kn_9 : knownT Tryz.prog 9 = true := by kernel_rfl
@[go_sem] theorem ag_9 : aggOf Tryz.prog 9 = false := by kernel_rfl
@[go_sem] theorem us_9 : (Tryz.prog.underlying 9).isSome = true := by kernel_rfl
@[go_sem] theorem un_9 : Tryz.prog.underlying 9 = some .string := by kernel_rfl
@[go_sem] theorem ze_9 : zeros Tryz.prog 9 = some [.sc (.string ByteArray.empty)] := by kernel_rfl
@[go_sem] theorem az_9 : azero1 Tryz.prog 9 = some (.sc (.string ByteArray.empty)) := by kernel_rfl
@[go_sem] theorem by_9 : bytesOf Tryz.prog 9 = 16 := by kernel_rfl
@[go_sem] theorem sz_12 : szOf Tryz.prog 12 = 1 := by kernel_rfl
@[go_sem] theorem kn_12 : knownT Tryz.prog 12 = true := by kernel_rfl
@[go_sem] theorem ag_12 : aggOf Tryz.prog 12 = false := by kernel_rfl
@[go_sem] theorem us_12 : (Tryz.prog.underlying 12).isSome = true := by kernel_rfl
@[go_sem] theorem un_12 : Tryz.prog.underlying 12 = some (.int .u64) := by kernel_rfl
@[go_sem] theorem ze_12 : zeros Tryz.prog 12 = some [.sc (.int .u64 0)] := by kernel_rfl
@[go_sem] theorem az_12 : azero1 Tryz.prog 12 = some (.sc (.int .u64 0)) := by kernel_rfl
@[go_sem] theorem by_12 : bytesOf Tryz.prog 12 = 8 := by kernel_rfl
@[go_sem] theorem sz_17 : szOf Tryz.prog 17 = 1 := by kernel_rfl
@[go_sem] theorem kn_17 : knownT Tryz.prog 17 = true := by kernel_rfl
@[go_sem] theorem ag_17 : aggOf Tryz.prog 17 = false := by kernel_rfl
@[go_sem] theorem us_17 : (Tryz.prog.underlying 17).isSome = true := by kernel_rfl
@[go_sem] theorem ze_17 : zeros Tryz.prog 17 = some [.sc (.pointer none)] := by kernel_rfl
@[go_sem] theorem by_17 : bytesOf Tryz.prog 17 = 8 := by kernel_rfl
@[go_sem] theorem sz_21 : szOf Tryz.prog 21 = 1 := by kernel_rfl
@[go_sem] theorem kn_21 : knownT Tryz.prog 21 = true := by kernel_rfl
@[go_sem] theorem ag_21 : aggOf Tryz.prog 21 = false := by kernel_rfl
@[go_sem] theorem us_21 : (Tryz.prog.underlying 21).isSome = true := by kernel_rfl
@[go_sem] theorem un_21 : Tryz.prog.underlying 21 = some (.int .i32) := by kernel_rfl
@[go_sem] theorem ze_21 : zeros Tryz.prog 21 = some [.sc (.int .i32 0)] := by kernel_rfl
@[go_sem] theorem az_21 : azero1 Tryz.prog 21 = some (.sc (.int .i32 0)) := by kernel_rfl
@[go_sem] theorem by_21 : bytesOf Tryz.prog 21 = 4 := by kernel_rfl
@[go_sem] theorem sz_22 : szOf Tryz.prog 22 = 1 := by kernel_rfl
@[go_sem] theorem kn_22 : knownT Tryz.prog 22 = true := by kernel_rfl
@[go_sem] theorem ag_22 : aggOf Tryz.prog 22 = false := by kernel_rfl
@[go_sem] theorem us_22 : (Tryz.prog.underlying 22).isSome = true := by kernel_rfl
@[go_sem] theorem el_22 : Go.PA.elemOf Tryz.prog 22 = some 3 := by kernel_rfl
@[go_sem] theorem un_22 : Tryz.prog.underlying 22 = some (.slice 3) := by kernel_rfl
@[go_sem] theorem ze_22 : zeros Tryz.prog 22 = some [.nil] := by kernel_rfl
@[go_sem] theorem az_22 : azero1 Tryz.prog 22 = some (.nil) := by kernel_rfl
@[go_sem] theorem by_22 : bytesOf Tryz.prog 22 = 24 := by kernel_rfl
@[go_sem] theorem sz_23 : szOf Tryz.prog 23 = 1 := by kernel_rfl
@[go_sem] theorem kn_23 : knownT Tryz.prog 23 = true := by kernel_rfl
@[go_sem] theorem ag_23 : aggOf Tryz.prog 23 = false := by kernel_rfl
@[go_sem] theorem us_23 : (Tryz.prog.underlying 23).isSome = true := by kernel_rfl
@[go_sem] theorem ze_23 : zeros Tryz.prog 23 = some [.sc (.pointer none)] := by kernel_rfl
@[go_sem] theorem by_23 : bytesOf Tryz.prog 23 = 8 := by kernel_rfl
@[go_sem] theorem sz_25 : szOf Tryz.prog 25 = 1 := by kernel_rfl
@[go_sem] theorem kn_25 : knownT Tryz.prog 25 = true := by kernel_rfl
@[go_sem] theorem ag_25 : aggOf Tryz.prog 25 = false := by kernel_rfl
@[go_sem] theorem us_25 : (Tryz.prog.underlying 25).isSome = true := by kernel_rfl
@[go_sem] theorem el_25 : Go.PA.elemOf Tryz.prog 25 = some 42 := by kernel_rfl
@[go_sem] theorem un_25 : Tryz.prog.underlying 25 = some (.slice 42) := by kernel_rfl
@[go_sem] theorem ze_25 : zeros Tryz.prog 25 = some [.nil] := by kernel_rfl
@[go_sem] theorem az_25 : azero1 Tryz.prog 25 = some (.nil) := by kernel_rfl
@[go_sem] theorem by_25 : bytesOf Tryz.prog 25 = 24 := by kernel_rfl
@[go_sem] theorem sz_27 : szOf Tryz.prog 27 = 1 := by kernel_rfl
@[go_sem] theorem kn_27 : knownT Tryz.prog 27 = true := by kernel_rfl
@[go_sem] theorem ag_27 : aggOf Tryz.prog 27 = false := by kernel_rfl
@[go_sem] theorem us_27 : (Tryz.prog.underlying 27).isSome = true := by kernel_rfl
@[go_sem] theorem el_27 : Go.PA.elemOf Tryz.prog 27 = some 38 := by kernel_rfl
@[go_sem] theorem un_27 : Tryz.prog.underlying 27 = some (.slice 38) := by kernel_rfl
@[go_sem] theorem ze_27 : zeros Tryz.prog 27 = some [.nil] := by kernel_rfl
@[go_sem] theorem az_27 : azero1 Tryz.prog 27 = some (.nil) := by kernel_rfl
@[go_sem] theorem by_27 : bytesOf Tryz.prog 27 = 24 := by kernel_rfl
@[go_sem] theorem sz_29 : szOf Tryz.prog 29 = 3 := by kernel_rfl
@[go_sem] theorem kn_29 : knownT Tryz.prog 29 = true := by kernel_rfl
@[go_sem] theorem ag_29 : aggOf Tryz.prog 29 = true := by kernel_rfl
@[go_sem] theorem us_29 : (Tryz.prog.underlying 29).isSome = true := by kernel_rfl
@[go_sem] theorem fd_29_0 : fieldOf Tryz.prog 29 0 = some (0, 25) := by kernel_rfl
@[go_sem] theorem fd_29_1 : fieldOf Tryz.prog 29 1 = some (1, 25) := by kernel_rfl
@[go_sem] theorem fd_29_2 : fieldOf Tryz.prog 29 2 = some (2, 27) := by kernel_rfl
@[go_sem] theorem el_29 : Go.PA.elemOf Tryz.prog 29 = none := by kernel_rfl
@[go_sem] theorem ar_29 : arrOf Tryz.prog 29 = none := by kernel_rfl
@[go_sem] theorem fk_29 : fieldsKnown Tryz.prog 29 = true := by kernel_rfl
@[go_sem] theorem ze_29 : zeros Tryz.prog 29 = some [.nil, .nil, .nil] := by kernel_rfl
@[go_sem] theorem by_29 : bytesOf Tryz.prog 29 = 72 := by kernel_rfl
@[go_sem] theorem sz_30 : szOf Tryz.prog 30 = 3 := by kernel_rfl
@[go_sem] theorem kn_30 : knownT Tryz.prog 30 = true := by kernel_rfl
@[go_sem] theorem ag_30 : aggOf Tryz.prog 30 = true := by kernel_rfl
@[go_sem] theorem us_30 : (Tryz.prog.underlying 30).isSome = true := by kernel_rfl
@[go_sem] theorem fd_30_0 : fieldOf Tryz.prog 30 0 = some (0, 25) := by kernel_rfl
@[go_sem] theorem fd_30_1 : fieldOf Tryz.prog 30 1 = some (1, 25) := by kernel_rfl
@[go_sem] theorem fd_30_2 : fieldOf Tryz.prog 30 2 = some (2, 27) := by kernel_rfl
@[go_sem] theorem el_30 : Go.PA.elemOf Tryz.prog 30 = none := by kernel_rfl
@[go_sem] theorem ar_30 : arrOf Tryz.prog 30 = none := by kernel_rfl
@[go_sem] theorem fk_30 : fieldsKnown Tryz.prog 30 = true := by kernel_rfl
@[go_sem] theorem ze_30 : zeros Tryz.prog 30 = some [.nil, .nil, .nil] := by kernel_rfl
@[go_sem] theorem by_30 : bytesOf Tryz.prog 30 = 72 := by kernel_rfl
@[go_sem] theorem sz_31 : szOf Tryz.prog 31 = 1 := by kernel_rfl
@[go_sem] theorem kn_31 : knownT Tryz.prog 31 = true := by kernel_rfl
@[go_sem] theorem ag_31 : aggOf Tryz.prog 31 = false := by kernel_rfl
@[go_sem] theorem us_31 : (Tryz.prog.underlying 31).isSome = true := by kernel_rfl
@[go_sem] theorem un_31 : Tryz.prog.underlying 31 = some (.int .i64) := by kernel_rfl
@[go_sem] theorem ze_31 : zeros Tryz.prog 31 = some [.sc (.int .i64 0)] := by kernel_rfl
@[go_sem] theorem az_31 : azero1 Tryz.prog 31 = some (.sc (.int .i64 0)) := by kernel_rfl
@[go_sem] theorem by_31 : bytesOf Tryz.prog 31 = 8 := by kernel_rfl
@[go_sem] theorem sz_34 : szOf Tryz.prog 34 = 1 := by kernel_rfl
@[go_sem] theorem kn_34 : knownT Tryz.prog 34 = true := by kernel_rfl
@[go_sem] theorem ag_34 : aggOf Tryz.prog 34 = false := by kernel_rfl
@[go_sem] theorem us_34 : (Tryz.prog.underlying 34).isSome = true := by kernel_rfl
@[go_sem] theorem el_34 : Go.PA.elemOf Tryz.prog 34 = some 40 := by kernel_rfl
@[go_sem] theorem un_34 : Tryz.prog.underlying 34 = some (.slice 40) := by kernel_rfl
@[go_sem] theorem ze_34 : zeros Tryz.prog 34 = some [.nil] := by kernel_rfl
@[go_sem] theorem az_34 : azero1 Tryz.prog 34 = some (.nil) := by kernel_rfl
@[go_sem] theorem by_34 : bytesOf Tryz.prog 34 = 24 := by kernel_rfl
@[go_sem] theorem sz_37 : szOf Tryz.prog 37 = 2 := by kernel_rfl
@[go_sem] theorem kn_37 : knownT Tryz.prog 37 = true := by kernel_rfl
@[go_sem] theorem ag_37 : aggOf Tryz.prog 37 = true := by kernel_rfl
@[go_sem] theorem us_37 : (Tryz.prog.underlying 37).isSome = true := by kernel_rfl
@[go_sem] theorem fd_37_0 : fieldOf Tryz.prog 37 0 = some (0, 9) := by kernel_rfl
@[go_sem] theorem fd_37_1 : fieldOf Tryz.prog 37 1 = some (1, 3) := by kernel_rfl
@[go_sem] theorem el_37 : Go.PA.elemOf Tryz.prog 37 = none := by kernel_rfl
@[go_sem] theorem ar_37 : arrOf Tryz.prog 37 = none := by kernel_rfl
@[go_sem] theorem fk_37 : fieldsKnown Tryz.prog 37 = true := by kernel_rfl
@[go_sem] theorem sg_37 : sigOf Tryz.prog 37 = some [.str, .int] := by kernel_rfl
@[go_sem] theorem ze_37 : zeros Tryz.prog 37 = some [.sc (.string ByteArray.empty), .sc (.int .i64 0)] := by kernel_rfl
@[go_sem] theorem by_37 : bytesOf Tryz.prog 37 = 24 := by kernel_rfl
@[go_sem] theorem sz_38 : szOf Tryz.prog 38 = 2 := by kernel_rfl
@[go_sem] theorem kn_38 : knownT Tryz.prog 38 = true := by kernel_rfl
@[go_sem] theorem ag_38 : aggOf Tryz.prog 38 = true := by kernel_rfl
@[go_sem] theorem us_38 : (Tryz.prog.underlying 38).isSome = true := by kernel_rfl
@[go_sem] theorem fd_38_0 : fieldOf Tryz.prog 38 0 = some (0, 9) := by kernel_rfl
@[go_sem] theorem fd_38_1 : fieldOf Tryz.prog 38 1 = some (1, 3) := by kernel_rfl
@[go_sem] theorem el_38 : Go.PA.elemOf Tryz.prog 38 = none := by kernel_rfl
@[go_sem] theorem ar_38 : arrOf Tryz.prog 38 = none := by kernel_rfl
@[go_sem] theorem fk_38 : fieldsKnown Tryz.prog 38 = true := by kernel_rfl
@[go_sem] theorem sg_38 : sigOf Tryz.prog 38 = some [.str, .int] := by kernel_rfl
@[go_sem] theorem ze_38 : zeros Tryz.prog 38 = some [.sc (.string ByteArray.empty), .sc (.int .i64 0)] := by kernel_rfl
@[go_sem] theorem by_38 : bytesOf Tryz.prog 38 = 24 := by kernel_rfl
@[go_sem] theorem sz_39 : szOf Tryz.prog 39 = 5 := by kernel_rfl
@[go_sem] theorem kn_39 : knownT Tryz.prog 39 = true := by kernel_rfl
@[go_sem] theorem ag_39 : aggOf Tryz.prog 39 = true := by kernel_rfl
@[go_sem] theorem us_39 : (Tryz.prog.underlying 39).isSome = true := by kernel_rfl
@[go_sem] theorem fd_39_0 : fieldOf Tryz.prog 39 0 = some (0, 3) := by kernel_rfl
@[go_sem] theorem fd_39_1 : fieldOf Tryz.prog 39 1 = some (1, 3) := by kernel_rfl
@[go_sem] theorem fd_39_2 : fieldOf Tryz.prog 39 2 = some (2, 9) := by kernel_rfl
@[go_sem] theorem fd_39_3 : fieldOf Tryz.prog 39 3 = some (3, 3) := by kernel_rfl
@[go_sem] theorem fd_39_4 : fieldOf Tryz.prog 39 4 = some (4, 3) := by kernel_rfl
@[go_sem] theorem el_39 : Go.PA.elemOf Tryz.prog 39 = none := by kernel_rfl
@[go_sem] theorem ar_39 : arrOf Tryz.prog 39 = none := by kernel_rfl
@[go_sem] theorem fk_39 : fieldsKnown Tryz.prog 39 = true := by kernel_rfl
@[go_sem] theorem sg_39 : sigOf Tryz.prog 39 = some [.int, .int, .str, .int, .int] := by kernel_rfl
@[go_sem] theorem ze_39 : zeros Tryz.prog 39 = some [.sc (.int .i64 0), .sc (.int .i64 0), .sc (.string ByteArray.empty), .sc (.int .i64 0), .sc (.int .i64 0)] := by kernel_rfl
@[go_sem] theorem by_39 : bytesOf Tryz.prog 39 = 48 := by kernel_rfl
@[go_sem] theorem sz_40 : szOf Tryz.prog 40 = 5 := by kernel_rfl
@[go_sem] theorem kn_40 : knownT Tryz.prog 40 = true := by kernel_rfl
@[go_sem] theorem ag_40 : aggOf Tryz.prog 40 = true := by kernel_rfl
@[go_sem] theorem us_40 : (Tryz.prog.underlying 40).isSome = true := by kernel_rfl
@[go_sem] theorem fd_40_0 : fieldOf Tryz.prog 40 0 = some (0, 3) := by kernel_rfl
@[go_sem] theorem fd_40_1 : fieldOf Tryz.prog 40 1 = some (1, 3) := by kernel_rfl
@[go_sem] theorem fd_40_2 : fieldOf Tryz.prog 40 2 = some (2, 9) := by kernel_rfl
@[go_sem] theorem fd_40_3 : fieldOf Tryz.prog 40 3 = some (3, 3) := by kernel_rfl
@[go_sem] theorem fd_40_4 : fieldOf Tryz.prog 40 4 = some (4, 3) := by kernel_rfl
@[go_sem] theorem el_40 : Go.PA.elemOf Tryz.prog 40 = none := by kernel_rfl
@[go_sem] theorem ar_40 : arrOf Tryz.prog 40 = none := by kernel_rfl
@[go_sem] theorem fk_40 : fieldsKnown Tryz.prog 40 = true := by kernel_rfl
@[go_sem] theorem sg_40 : sigOf Tryz.prog 40 = some [.int, .int, .str, .int, .int] := by kernel_rfl
@[go_sem] theorem ze_40 : zeros Tryz.prog 40 = some [.sc (.int .i64 0), .sc (.int .i64 0), .sc (.string ByteArray.empty), .sc (.int .i64 0), .sc (.int .i64 0)] := by kernel_rfl
@[go_sem] theorem by_40 : bytesOf Tryz.prog 40 = 48 := by kernel_rfl
@[go_sem] theorem sz_41 : szOf Tryz.prog 41 = 5 := by kernel_rfl
@[go_sem] theorem kn_41 : knownT Tryz.prog 41 = true := by kernel_rfl
@[go_sem] theorem ag_41 : aggOf Tryz.prog 41 = true := by kernel_rfl
@[go_sem] theorem us_41 : (Tryz.prog.underlying 41).isSome = true := by kernel_rfl
@[go_sem] theorem fd_41_0 : fieldOf Tryz.prog 41 0 = some (0, 3) := by kernel_rfl
@[go_sem] theorem fd_41_1 : fieldOf Tryz.prog 41 1 = some (1, 3) := by kernel_rfl
@[go_sem] theorem fd_41_2 : fieldOf Tryz.prog 41 2 = some (2, 9) := by kernel_rfl
@[go_sem] theorem fd_41_3 : fieldOf Tryz.prog 41 3 = some (3, 3) := by kernel_rfl
@[go_sem] theorem fd_41_4 : fieldOf Tryz.prog 41 4 = some (4, 3) := by kernel_rfl
@[go_sem] theorem el_41 : Go.PA.elemOf Tryz.prog 41 = none := by kernel_rfl
@[go_sem] theorem ar_41 : arrOf Tryz.prog 41 = none := by kernel_rfl
@[go_sem] theorem fk_41 : fieldsKnown Tryz.prog 41 = true := by kernel_rfl
@[go_sem] theorem sg_41 : sigOf Tryz.prog 41 = some [.int, .int, .str, .int, .int] := by kernel_rfl
@[go_sem] theorem ze_41 : zeros Tryz.prog 41 = some [.sc (.int .i64 0), .sc (.int .i64 0), .sc (.string ByteArray.empty), .sc (.int .i64 0), .sc (.int .i64 0)] := by kernel_rfl
@[go_sem] theorem by_41 : bytesOf Tryz.prog 41 = 48 := by kernel_rfl
@[go_sem] theorem sz_42 : szOf Tryz.prog 42 = 5 := by kernel_rfl
@[go_sem] theorem kn_42 : knownT Tryz.prog 42 = true := by kernel_rfl
@[go_sem] theorem ag_42 : aggOf Tryz.prog 42 = true := by kernel_rfl
@[go_sem] theorem us_42 : (Tryz.prog.underlying 42).isSome = true := by kernel_rfl
@[go_sem] theorem fd_42_0 : fieldOf Tryz.prog 42 0 = some (0, 3) := by kernel_rfl
@[go_sem] theorem fd_42_1 : fieldOf Tryz.prog 42 1 = some (1, 3) := by kernel_rfl
@[go_sem] theorem fd_42_2 : fieldOf Tryz.prog 42 2 = some (2, 9) := by kernel_rfl
@[go_sem] theorem fd_42_3 : fieldOf Tryz.prog 42 3 = some (3, 3) := by kernel_rfl
@[go_sem] theorem fd_42_4 : fieldOf Tryz.prog 42 4 = some (4, 3) := by kernel_rfl
@[go_sem] theorem el_42 : Go.PA.elemOf Tryz.prog 42 = none := by kernel_rfl
@[go_sem] theorem ar_42 : arrOf Tryz.prog 42 = none := by kernel_rfl
@[go_sem] theorem fk_42 : fieldsKnown Tryz.prog 42 = true := by kernel_rfl
@[go_sem] theorem sg_42 : sigOf Tryz.prog 42 = some [.int, .int, .str, .int, .int] := by kernel_rfl
@[go_sem] theorem ze_42 : zeros Tryz.prog 42 = some [.sc (.int .i64 0), .sc (.int .i64 0), .sc (.string ByteArray.empty), .sc (.int .i64 0), .sc (.int .i64 0)] := by kernel_rfl
@[go_sem] theorem by_42 : bytesOf Tryz.prog 42 = 48 := by kernel_rfl
@[go_sem] theorem sz_45 : szOf Tryz.prog 45 = 2 := by kernel_rfl
@[go_sem] theorem kn_45 : knownT Tryz.prog 45 = true := by kernel_rfl
@[go_sem] theorem ag_45 : aggOf Tryz.prog 45 = true := by kernel_rfl
@[go_sem] theorem us_45 : (Tryz.prog.underlying 45).isSome = true := by kernel_rfl
@[go_sem] theorem fd_45_0 : fieldOf Tryz.prog 45 0 = some (0, 22) := by kernel_rfl
@[go_sem] theorem fd_45_1 : fieldOf Tryz.prog 45 1 = some (1, 3) := by kernel_rfl
@[go_sem] theorem el_45 : Go.PA.elemOf Tryz.prog 45 = none := by kernel_rfl
@[go_sem] theorem ar_45 : arrOf Tryz.prog 45 = none := by kernel_rfl
@[go_sem] theorem fk_45 : fieldsKnown Tryz.prog 45 = true := by kernel_rfl
@[go_sem] theorem ze_45 : zeros Tryz.prog 45 = some [.nil, .sc (.int .i64 0)] := by kernel_rfl
@[go_sem] theorem by_45 : bytesOf Tryz.prog 45 = 32 := by kernel_rfl
@[go_sem] theorem sz_46 : szOf Tryz.prog 46 = 2 := by kernel_rfl
@[go_sem] theorem kn_46 : knownT Tryz.prog 46 = true := by kernel_rfl
@[go_sem] theorem ag_46 : aggOf Tryz.prog 46 = true := by kernel_rfl
@[go_sem] theorem us_46 : (Tryz.prog.underlying 46).isSome = true := by kernel_rfl
@[go_sem] theorem fd_46_0 : fieldOf Tryz.prog 46 0 = some (0, 22) := by kernel_rfl
@[go_sem] theorem fd_46_1 : fieldOf Tryz.prog 46 1 = some (1, 3) := by kernel_rfl
@[go_sem] theorem el_46 : Go.PA.elemOf Tryz.prog 46 = none := by kernel_rfl
@[go_sem] theorem ar_46 : arrOf Tryz.prog 46 = none := by kernel_rfl
@[go_sem] theorem fk_46 : fieldsKnown Tryz.prog 46 = true := by kernel_rfl
@[go_sem] theorem ze_46 : zeros Tryz.prog 46 = some [.nil, .sc (.int .i64 0)] := by kernel_rfl
@[go_sem] theorem by_46 : bytesOf Tryz.prog 46 = 32 := by kernel_rfl
@[go_sem] theorem sz_51 : szOf Tryz.prog 51 = 4 := by kernel_rfl
@[go_sem] theorem kn_51 : knownT Tryz.prog 51 = true := by kernel_rfl
@[go_sem] theorem ag_51 : aggOf Tryz.prog 51 = true := by kernel_rfl
@[go_sem] theorem us_51 : (Tryz.prog.underlying 51).isSome = true := by kernel_rfl
@[go_sem] theorem el_51 : Go.PA.elemOf Tryz.prog 51 = none := by kernel_rfl
@[go_sem] theorem ar_51 : arrOf Tryz.prog 51 = some (4, 9) := by kernel_rfl
@[go_sem] theorem fk_51 : fieldsKnown Tryz.prog 51 = true := by kernel_rfl
@[go_sem] theorem fd_51_0 : fieldOf Tryz.prog 51 0 = none := by kernel_rfl
@[go_sem] theorem fd_51_1 : fieldOf Tryz.prog 51 1 = none := by kernel_rfl
@[go_sem] theorem fd_51_2 : fieldOf Tryz.prog 51 2 = none := by kernel_rfl
@[go_sem] theorem fd_51_3 : fieldOf Tryz.prog 51 3 = none := by kernel_rfl
@[go_sem] theorem ze_51 : zeros Tryz.prog 51 = some [.sc (.string ByteArray.empty), .sc (.string ByteArray.empty), .sc (.string ByteArray.empty), .sc (.string ByteArray.empty)] := by kernel_rfl
@[go_sem] theorem by_51 : bytesOf Tryz.prog 51 = 64 := by kernel_rfl
@[go_sem] theorem sz_53 : szOf Tryz.prog 53 = 1 := by kernel_rfl
@[go_sem] theorem kn_53 : knownT Tryz.prog 53 = true := by kernel_rfl
@[go_sem] theorem ag_53 : aggOf Tryz.prog 53 = false := by kernel_rfl
@[go_sem] theorem us_53 : (Tryz.prog.underlying 53).isSome = true := by kernel_rfl
@[go_sem] theorem mp_53 : mapOf Tryz.prog 53 = some (9, .string, 3) := by kernel_rfl
@[go_sem] theorem im_53 : isMapT Tryz.prog 53 = true := by kernel_rfl
@[go_sem] theorem by_53 : bytesOf Tryz.prog 53 = 8 := by kernel_rfl
@[go_sem] theorem sz_64 : szOf Tryz.prog 64 = 1 := by kernel_rfl
@[go_sem] theorem kn_64 : knownT Tryz.prog 64 = true := by kernel_rfl
@[go_sem] theorem ag_64 : aggOf Tryz.prog 64 = false := by kernel_rfl
@[go_sem] theorem us_64 : (Tryz.prog.underlying 64).isSome = true := by kernel_rfl
@[go_sem] theorem el_64 : Go.PA.elemOf Tryz.prog 64 = some 123 := by kernel_rfl
@[go_sem] theorem un_64 : Tryz.prog.underlying 64 = some (.slice 123) := by kernel_rfl
@[go_sem] theorem ze_64 : zeros Tryz.prog 64 = some [.nil] := by kernel_rfl
@[go_sem] theorem az_64 : azero1 Tryz.prog 64 = some (.nil) := by kernel_rfl
@[go_sem] theorem by_64 : bytesOf Tryz.prog 64 = 24 := by kernel_rfl
@[go_sem] theorem sz_65 : szOf Tryz.prog 65 = 1 := by kernel_rfl
@[go_sem] theorem kn_65 : knownT Tryz.prog 65 = true := by kernel_rfl
@[go_sem] theorem ag_65 : aggOf Tryz.prog 65 = false := by kernel_rfl
@[go_sem] theorem us_65 : (Tryz.prog.underlying 65).isSome = true := by kernel_rfl
@[go_sem] theorem el_65 : Go.PA.elemOf Tryz.prog 65 = some 162 := by kernel_rfl
@[go_sem] theorem un_65 : Tryz.prog.underlying 65 = some (.slice 162) := by kernel_rfl
@[go_sem] theorem ze_65 : zeros Tryz.prog 65 = some [.nil] := by kernel_rfl
@[go_sem] theorem az_65 : azero1 Tryz.prog 65 = some (.nil) := by kernel_rfl
@[go_sem] theorem by_65 : bytesOf Tryz.prog 65 = 24 := by kernel_rfl
@[go_sem] theorem sz_66 : szOf Tryz.prog 66 = 3 := by kernel_rfl
@[go_sem] theorem kn_66 : knownT Tryz.prog 66 = true := by kernel_rfl
@[go_sem] theorem ag_66 : aggOf Tryz.prog 66 = true := by kernel_rfl
@[go_sem] theorem us_66 : (Tryz.prog.underlying 66).isSome = true := by kernel_rfl
@[go_sem] theorem fd_66_0 : fieldOf Tryz.prog 66 0 = some (0, 3) := by kernel_rfl
@[go_sem] theorem fd_66_1 : fieldOf Tryz.prog 66 1 = some (1, 64) := by kernel_rfl
@[go_sem] theorem fd_66_2 : fieldOf Tryz.prog 66 2 = some (2, 65) := by kernel_rfl
@[go_sem] theorem el_66 : Go.PA.elemOf Tryz.prog 66 = none := by kernel_rfl
@[go_sem] theorem ar_66 : arrOf Tryz.prog 66 = none := by kernel_rfl
@[go_sem] theorem fk_66 : fieldsKnown Tryz.prog 66 = true := by kernel_rfl
@[go_sem] theorem ze_66 : zeros Tryz.prog 66 = some [.sc (.int .i64 0), .nil, .nil] := by kernel_rfl
@[go_sem] theorem by_66 : bytesOf Tryz.prog 66 = 56 := by kernel_rfl
@[go_sem] theorem sz_67 : szOf Tryz.prog 67 = 3 := by kernel_rfl
@[go_sem] theorem kn_67 : knownT Tryz.prog 67 = true := by kernel_rfl
@[go_sem] theorem ag_67 : aggOf Tryz.prog 67 = true := by kernel_rfl
@[go_sem] theorem us_67 : (Tryz.prog.underlying 67).isSome = true := by kernel_rfl
@[go_sem] theorem fd_67_0 : fieldOf Tryz.prog 67 0 = some (0, 3) := by kernel_rfl
@[go_sem] theorem fd_67_1 : fieldOf Tryz.prog 67 1 = some (1, 64) := by kernel_rfl
@[go_sem] theorem fd_67_2 : fieldOf Tryz.prog 67 2 = some (2, 65) := by kernel_rfl
@[go_sem] theorem el_67 : Go.PA.elemOf Tryz.prog 67 = none := by kernel_rfl
@[go_sem] theorem ar_67 : arrOf Tryz.prog 67 = none := by kernel_rfl
@[go_sem] theorem fk_67 : fieldsKnown Tryz.prog 67 = true := by kernel_rfl
@[go_sem] theorem ze_67 : zeros Tryz.prog 67 = some [.sc (.int .i64 0), .nil, .nil] := by kernel_rfl
@[go_sem] theorem by_67 : bytesOf Tryz.prog 67 = 56 := by kernel_rfl
@[go_sem] theorem sz_68 : szOf Tryz.prog 68 = 1 := by kernel_rfl
@[go_sem] theorem kn_68 : knownT Tryz.prog 68 = true := by kernel_rfl
@[go_sem] theorem ag_68 : aggOf Tryz.prog 68 = false := by kernel_rfl
@[go_sem] theorem us_68 : (Tryz.prog.underlying 68).isSome = true := by kernel_rfl
@[go_sem] theorem el_68 : Go.PA.elemOf Tryz.prog 68 = some 165 := by kernel_rfl
@[go_sem] theorem un_68 : Tryz.prog.underlying 68 = some (.slice 165) := by kernel_rfl
@[go_sem] theorem ze_68 : zeros Tryz.prog 68 = some [.nil] := by kernel_rfl
@[go_sem] theorem az_68 : azero1 Tryz.prog 68 = some (.nil) := by kernel_rfl
@[go_sem] theorem by_68 : bytesOf Tryz.prog 68 = 24 := by kernel_rfl
@[go_sem] theorem sz_69 : szOf Tryz.prog 69 = 1 := by kernel_rfl
@[go_sem] theorem kn_69 : knownT Tryz.prog 69 = true := by kernel_rfl
@[go_sem] theorem ag_69 : aggOf Tryz.prog 69 = false := by kernel_rfl
@[go_sem] theorem us_69 : (Tryz.prog.underlying 69).isSome = true := by kernel_rfl
@[go_sem] theorem el_69 : Go.PA.elemOf Tryz.prog 69 = some 168 := by kernel_rfl
@[go_sem] theorem un_69 : Tryz.prog.underlying 69 = some (.slice 168) := by kernel_rfl
@[go_sem] theorem ze_69 : zeros Tryz.prog 69 = some [.nil] := by kernel_rfl
@[go_sem] theorem az_69 : azero1 Tryz.prog 69 = some (.nil) := by kernel_rfl
@[go_sem] theorem by_69 : bytesOf Tryz.prog 69 = 24 := by kernel_rfl
@[go_sem] theorem sz_70 : szOf Tryz.prog 70 = 3 := by kernel_rfl
@[go_sem] theorem kn_70 : knownT Tryz.prog 70 = true := by kernel_rfl
@[go_sem] theorem ag_70 : aggOf Tryz.prog 70 = true := by kernel_rfl
@[go_sem] theorem us_70 : (Tryz.prog.underlying 70).isSome = true := by kernel_rfl
@[go_sem] theorem fd_70_0 : fieldOf Tryz.prog 70 0 = some (0, 68) := by kernel_rfl
@[go_sem] theorem fd_70_1 : fieldOf Tryz.prog 70 1 = some (1, 22) := by kernel_rfl
@[go_sem] theorem fd_70_2 : fieldOf Tryz.prog 70 2 = some (2, 69) := by kernel_rfl
@[go_sem] theorem el_70 : Go.PA.elemOf Tryz.prog 70 = none := by kernel_rfl
@[go_sem] theorem ar_70 : arrOf Tryz.prog 70 = none := by kernel_rfl
@[go_sem] theorem fk_70 : fieldsKnown Tryz.prog 70 = true := by kernel_rfl
@[go_sem] theorem ze_70 : zeros Tryz.prog 70 = some [.nil, .nil, .nil] := by kernel_rfl
@[go_sem] theorem by_70 : bytesOf Tryz.prog 70 = 72 := by kernel_rfl
@[go_sem] theorem sz_71 : szOf Tryz.prog 71 = 3 := by kernel_rfl
@[go_sem] theorem kn_71 : knownT Tryz.prog 71 = true := by kernel_rfl
@[go_sem] theorem ag_71 : aggOf Tryz.prog 71 = true := by kernel_rfl
@[go_sem] theorem us_71 : (Tryz.prog.underlying 71).isSome = true := by kernel_rfl
@[go_sem] theorem fd_71_0 : fieldOf Tryz.prog 71 0 = some (0, 68) := by kernel_rfl
@[go_sem] theorem fd_71_1 : fieldOf Tryz.prog 71 1 = some (1, 22) := by kernel_rfl
@[go_sem] theorem fd_71_2 : fieldOf Tryz.prog 71 2 = some (2, 69) := by kernel_rfl
@[go_sem] theorem el_71 : Go.PA.elemOf Tryz.prog 71 = none := by kernel_rfl
@[go_sem] theorem ar_71 : arrOf Tryz.prog 71 = none := by kernel_rfl
@[go_sem] theorem fk_71 : fieldsKnown Tryz.prog 71 = true := by kernel_rfl
@[go_sem] theorem ze_71 : zeros Tryz.prog 71 = some [.nil, .nil, .nil] := by kernel_rfl
@[go_sem] theorem by_71 : bytesOf Tryz.prog 71 = 72 := by kernel_rfl
@[go_sem] theorem sz_72 : szOf Tryz.prog 72 = 1 := by kernel_rfl
@[go_sem] theorem kn_72 : knownT Tryz.prog 72 = true := by kernel_rfl
@[go_sem] theorem ag_72 : aggOf Tryz.prog 72 = false := by kernel_rfl
@[go_sem] theorem us_72 : (Tryz.prog.underlying 72).isSome = true := by kernel_rfl
@[go_sem] theorem el_72 : Go.PA.elemOf Tryz.prog 72 = some 171 := by kernel_rfl
@[go_sem] theorem un_72 : Tryz.prog.underlying 72 = some (.slice 171) := by kernel_rfl
@[go_sem] theorem ze_72 : zeros Tryz.prog 72 = some [.nil] := by kernel_rfl
@[go_sem] theorem az_72 : azero1 Tryz.prog 72 = some (.nil) := by kernel_rfl
@[go_sem] theorem by_72 : bytesOf Tryz.prog 72 = 24 := by kernel_rfl
@[go_sem] theorem sz_73 : szOf Tryz.prog 73 = 7 := by kernel_rfl
@[go_sem] theorem kn_73 : knownT Tryz.prog 73 = true := by kernel_rfl
@[go_sem] theorem ag_73 : aggOf Tryz.prog 73 = true := by kernel_rfl
@[go_sem] theorem us_73 : (Tryz.prog.underlying 73).isSome = true := by kernel_rfl
@[go_sem] theorem fd_73_0 : fieldOf Tryz.prog 73 0 = some (0, 67) := by kernel_rfl
@[go_sem] theorem fd_73_1 : fieldOf Tryz.prog 73 1 = some (3, 71) := by kernel_rfl
@[go_sem] theorem fd_73_2 : fieldOf Tryz.prog 73 2 = some (6, 72) := by kernel_rfl
@[go_sem] theorem el_73 : Go.PA.elemOf Tryz.prog 73 = none := by kernel_rfl
@[go_sem] theorem ar_73 : arrOf Tryz.prog 73 = none := by kernel_rfl
@[go_sem] theorem fk_73 : fieldsKnown Tryz.prog 73 = true := by kernel_rfl
@[go_sem] theorem ze_73 : zeros Tryz.prog 73 = some [.sc (.int .i64 0), .nil, .nil, .nil, .nil, .nil, .nil] := by kernel_rfl
@[go_sem] theorem by_73 : bytesOf Tryz.prog 73 = 152 := by kernel_rfl
@[go_sem] theorem sz_74 : szOf Tryz.prog 74 = 7 := by kernel_rfl
@[go_sem] theorem kn_74 : knownT Tryz.prog 74 = true := by kernel_rfl
@[go_sem] theorem ag_74 : aggOf Tryz.prog 74 = true := by kernel_rfl
@[go_sem] theorem us_74 : (Tryz.prog.underlying 74).isSome = true := by kernel_rfl
@[go_sem] theorem fd_74_0 : fieldOf Tryz.prog 74 0 = some (0, 67) := by kernel_rfl
@[go_sem] theorem fd_74_1 : fieldOf Tryz.prog 74 1 = some (3, 71) := by kernel_rfl
@[go_sem] theorem fd_74_2 : fieldOf Tryz.prog 74 2 = some (6, 72) := by kernel_rfl
@[go_sem] theorem el_74 : Go.PA.elemOf Tryz.prog 74 = none := by kernel_rfl
@[go_sem] theorem ar_74 : arrOf Tryz.prog 74 = none := by kernel_rfl
@[go_sem] theorem fk_74 : fieldsKnown Tryz.prog 74 = true := by kernel_rfl
@[go_sem] theorem ze_74 : zeros Tryz.prog 74 = some [.sc (.int .i64 0), .nil, .nil, .nil, .nil, .nil, .nil] := by kernel_rfl
@[go_sem] theorem by_74 : bytesOf Tryz.prog 74 = 152 := by kernel_rfl
@[go_sem] theorem sz_75 : szOf Tryz.prog 75 = 1 := by kernel_rfl
@[go_sem] theorem kn_75 : knownT Tryz.prog 75 = true := by kernel_rfl
@[go_sem] theorem ag_75 : aggOf Tryz.prog 75 = false := by kernel_rfl
@[go_sem] theorem us_75 : (Tryz.prog.underlying 75).isSome = true := by kernel_rfl
@[go_sem] theorem el_75 : Go.PA.elemOf Tryz.prog 75 = some 175 := by kernel_rfl
@[go_sem] theorem un_75 : Tryz.prog.underlying 75 = some (.slice 175) := by kernel_rfl
@[go_sem] theorem ze_75 : zeros Tryz.prog 75 = some [.nil] := by kernel_rfl
@[go_sem] theorem az_75 : azero1 Tryz.prog 75 = some (.nil) := by kernel_rfl
@[go_sem] theorem by_75 : bytesOf Tryz.prog 75 = 24 := by kernel_rfl
@[go_sem] theorem sz_76 : szOf Tryz.prog 76 = 1 := by kernel_rfl
@[go_sem] theorem kn_76 : knownT Tryz.prog 76 = true := by kernel_rfl
@[go_sem] theorem ag_76 : aggOf Tryz.prog 76 = false := by kernel_rfl
@[go_sem] theorem us_76 : (Tryz.prog.underlying 76).isSome = true := by kernel_rfl
@[go_sem] theorem el_76 : Go.PA.elemOf Tryz.prog 76 = some 178 := by kernel_rfl
@[go_sem] theorem un_76 : Tryz.prog.underlying 76 = some (.slice 178) := by kernel_rfl
@[go_sem] theorem ze_76 : zeros Tryz.prog 76 = some [.nil] := by kernel_rfl
@[go_sem] theorem az_76 : azero1 Tryz.prog 76 = some (.nil) := by kernel_rfl
@[go_sem] theorem by_76 : bytesOf Tryz.prog 76 = 24 := by kernel_rfl
@[go_sem] theorem sz_77 : szOf Tryz.prog 77 = 1 := by kernel_rfl
@[go_sem] theorem kn_77 : knownT Tryz.prog 77 = true := by kernel_rfl
@[go_sem] theorem ag_77 : aggOf Tryz.prog 77 = false := by kernel_rfl
@[go_sem] theorem us_77 : (Tryz.prog.underlying 77).isSome = true := by kernel_rfl
@[go_sem] theorem el_77 : Go.PA.elemOf Tryz.prog 77 = some 181 := by kernel_rfl
@[go_sem] theorem un_77 : Tryz.prog.underlying 77 = some (.slice 181) := by kernel_rfl
@[go_sem] theorem ze_77 : zeros Tryz.prog 77 = some [.nil] := by kernel_rfl
@[go_sem] theorem az_77 : azero1 Tryz.prog 77 = some (.nil) := by kernel_rfl
@[go_sem] theorem by_77 : bytesOf Tryz.prog 77 = 24 := by kernel_rfl
@[go_sem] theorem sz_78 : szOf Tryz.prog 78 = 4 := by kernel_rfl
@[go_sem] theorem kn_78 : knownT Tryz.prog 78 = true := by kernel_rfl
@[go_sem] theorem ag_78 : aggOf Tryz.prog 78 = true := by kernel_rfl
@[go_sem] theorem us_78 : (Tryz.prog.underlying 78).isSome = true := by kernel_rfl
@[go_sem] theorem fd_78_0 : fieldOf Tryz.prog 78 0 = some (0, 75) := by kernel_rfl
@[go_sem] theorem fd_78_1 : fieldOf Tryz.prog 78 1 = some (1, 76) := by kernel_rfl
@[go_sem] theorem fd_78_2 : fieldOf Tryz.prog 78 2 = some (2, 77) := by kernel_rfl
@[go_sem] theorem fd_78_3 : fieldOf Tryz.prog 78 3 = some (3, 22) := by kernel_rfl
@[go_sem] theorem el_78 : Go.PA.elemOf Tryz.prog 78 = none := by kernel_rfl
@[go_sem] theorem ar_78 : arrOf Tryz.prog 78 = none := by kernel_rfl
@[go_sem] theorem fk_78 : fieldsKnown Tryz.prog 78 = true := by kernel_rfl
@[go_sem] theorem ze_78 : zeros Tryz.prog 78 = some [.nil, .nil, .nil, .nil] := by kernel_rfl
@[go_sem] theorem by_78 : bytesOf Tryz.prog 78 = 96 := by kernel_rfl
@[go_sem] theorem sz_79 : szOf Tryz.prog 79 = 4 := by kernel_rfl
@[go_sem] theorem kn_79 : knownT Tryz.prog 79 = true := by kernel_rfl
@[go_sem] theorem ag_79 : aggOf Tryz.prog 79 = true := by kernel_rfl
@[go_sem] theorem us_79 : (Tryz.prog.underlying 79).isSome = true := by kernel_rfl
@[go_sem] theorem fd_79_0 : fieldOf Tryz.prog 79 0 = some (0, 75) := by kernel_rfl
@[go_sem] theorem fd_79_1 : fieldOf Tryz.prog 79 1 = some (1, 76) := by kernel_rfl
@[go_sem] theorem fd_79_2 : fieldOf Tryz.prog 79 2 = some (2, 77) := by kernel_rfl
@[go_sem] theorem fd_79_3 : fieldOf Tryz.prog 79 3 = some (3, 22) := by kernel_rfl
@[go_sem] theorem el_79 : Go.PA.elemOf Tryz.prog 79 = none := by kernel_rfl
@[go_sem] theorem ar_79 : arrOf Tryz.prog 79 = none := by kernel_rfl
@[go_sem] theorem fk_79 : fieldsKnown Tryz.prog 79 = true := by kernel_rfl
@[go_sem] theorem ze_79 : zeros Tryz.prog 79 = some [.nil, .nil, .nil, .nil] := by kernel_rfl
@[go_sem] theorem by_79 : bytesOf Tryz.prog 79 = 96 := by kernel_rfl
@[go_sem] theorem sz_80 : szOf Tryz.prog 80 = 1 := by kernel_rfl
@[go_sem] theorem kn_80 : knownT Tryz.prog 80 = true := by kernel_rfl
@[go_sem] theorem ag_80 : aggOf Tryz.prog 80 = false := by kernel_rfl
@[go_sem] theorem us_80 : (Tryz.prog.underlying 80).isSome = true := by kernel_rfl
@[go_sem] theorem el_80 : Go.PA.elemOf Tryz.prog 80 = some 116 := by kernel_rfl
@[go_sem] theorem un_80 : Tryz.prog.underlying 80 = some (.slice 116) := by kernel_rfl
@[go_sem] theorem ze_80 : zeros Tryz.prog 80 = some [.nil] := by kernel_rfl
@[go_sem] theorem az_80 : azero1 Tryz.prog 80 = some (.nil) := by kernel_rfl
@[go_sem] theorem by_80 : bytesOf Tryz.prog 80 = 24 := by kernel_rfl
@[go_sem] theorem sz_81 : szOf Tryz.prog 81 = 1 := by kernel_rfl
@[go_sem] theorem kn_81 : knownT Tryz.prog 81 = true := by kernel_rfl
@[go_sem] theorem ag_81 : aggOf Tryz.prog 81 = false := by kernel_rfl
@[go_sem] theorem us_81 : (Tryz.prog.underlying 81).isSome = true := by kernel_rfl
@[go_sem] theorem el_81 : Go.PA.elemOf Tryz.prog 81 = some 227 := by kernel_rfl
@[go_sem] theorem un_81 : Tryz.prog.underlying 81 = some (.slice 227) := by kernel_rfl
@[go_sem] theorem ze_81 : zeros Tryz.prog 81 = some [.nil] := by kernel_rfl
@[go_sem] theorem az_81 : azero1 Tryz.prog 81 = some (.nil) := by kernel_rfl
@[go_sem] theorem by_81 : bytesOf Tryz.prog 81 = 24 := by kernel_rfl
@[go_sem] theorem sz_82 : szOf Tryz.prog 82 = 1 := by kernel_rfl
@[go_sem] theorem kn_82 : knownT Tryz.prog 82 = true := by kernel_rfl
@[go_sem] theorem ag_82 : aggOf Tryz.prog 82 = false := by kernel_rfl
@[go_sem] theorem us_82 : (Tryz.prog.underlying 82).isSome = true := by kernel_rfl
@[go_sem] theorem el_82 : Go.PA.elemOf Tryz.prog 82 = some 206 := by kernel_rfl
@[go_sem] theorem un_82 : Tryz.prog.underlying 82 = some (.slice 206) := by kernel_rfl
@[go_sem] theorem ze_82 : zeros Tryz.prog 82 = some [.nil] := by kernel_rfl
@[go_sem] theorem az_82 : azero1 Tryz.prog 82 = some (.nil) := by kernel_rfl
@[go_sem] theorem by_82 : bytesOf Tryz.prog 82 = 24 := by kernel_rfl
@[go_sem] theorem sz_83 : szOf Tryz.prog 83 = 3 := by kernel_rfl
@[go_sem] theorem kn_83 : knownT Tryz.prog 83 = true := by kernel_rfl
@[go_sem] theorem ag_83 : aggOf Tryz.prog 83 = true := by kernel_rfl
@[go_sem] theorem us_83 : (Tryz.prog.underlying 83).isSome = true := by kernel_rfl
@[go_sem] theorem fd_83_0 : fieldOf Tryz.prog 83 0 = some (0, 80) := by kernel_rfl
@[go_sem] theorem fd_83_1 : fieldOf Tryz.prog 83 1 = some (1, 81) := by kernel_rfl
@[go_sem] theorem fd_83_2 : fieldOf Tryz.prog 83 2 = some (2, 82) := by kernel_rfl
@[go_sem] theorem el_83 : Go.PA.elemOf Tryz.prog 83 = none := by kernel_rfl
@[go_sem] theorem ar_83 : arrOf Tryz.prog 83 = none := by kernel_rfl
@[go_sem] theorem fk_83 : fieldsKnown Tryz.prog 83 = true := by kernel_rfl
@[go_sem] theorem ze_83 : zeros Tryz.prog 83 = some [.nil, .nil, .nil] := by kernel_rfl
@[go_sem] theorem by_83 : bytesOf Tryz.prog 83 = 72 := by kernel_rfl
@[go_sem] theorem sz_84 : szOf Tryz.prog 84 = 3 := by kernel_rfl
@[go_sem] theorem kn_84 : knownT Tryz.prog 84 = true := by kernel_rfl
@[go_sem] theorem ag_84 : aggOf Tryz.prog 84 = true := by kernel_rfl
@[go_sem] theorem us_84 : (Tryz.prog.underlying 84).isSome = true := by kernel_rfl
@[go_sem] theorem fd_84_0 : fieldOf Tryz.prog 84 0 = some (0, 80) := by kernel_rfl
@[go_sem] theorem fd_84_1 : fieldOf Tryz.prog 84 1 = some (1, 81) := by kernel_rfl
@[go_sem] theorem fd_84_2 : fieldOf Tryz.prog 84 2 = some (2, 82) := by kernel_rfl
@[go_sem] theorem el_84 : Go.PA.elemOf Tryz.prog 84 = none := by kernel_rfl
@[go_sem] theorem ar_84 : arrOf Tryz.prog 84 = none := by kernel_rfl
@[go_sem] theorem fk_84 : fieldsKnown Tryz.prog 84 = true := by kernel_rfl
@[go_sem] theorem ze_84 : zeros Tryz.prog 84 = some [.nil, .nil, .nil] := by kernel_rfl
@[go_sem] theorem by_84 : bytesOf Tryz.prog 84 = 72 := by kernel_rfl
@[go_sem] theorem sz_85 : szOf Tryz.prog 85 = 1 := by kernel_rfl
@[go_sem] theorem kn_85 : knownT Tryz.prog 85 = true := by kernel_rfl
@[go_sem] theorem ag_85 : aggOf Tryz.prog 85 = false := by kernel_rfl
@[go_sem] theorem us_85 : (Tryz.prog.underlying 85).isSome = true := by kernel_rfl
@[go_sem] theorem el_85 : Go.PA.elemOf Tryz.prog 85 = some 184 := by kernel_rfl
@[go_sem] theorem un_85 : Tryz.prog.underlying 85 = some (.slice 184) := by kernel_rfl
@[go_sem] theorem ze_85 : zeros Tryz.prog 85 = some [.nil] := by kernel_rfl
@[go_sem] theorem az_85 : azero1 Tryz.prog 85 = some (.nil) := by kernel_rfl
@[go_sem] theorem by_85 : bytesOf Tryz.prog 85 = 24 := by kernel_rfl
@[go_sem] theorem sz_86 : szOf Tryz.prog 86 = 1 := by kernel_rfl
@[go_sem] theorem kn_86 : knownT Tryz.prog 86 = true := by kernel_rfl
@[go_sem] theorem ag_86 : aggOf Tryz.prog 86 = true := by kernel_rfl
@[go_sem] theorem us_86 : (Tryz.prog.underlying 86).isSome = true := by kernel_rfl
@[go_sem] theorem fd_86_0 : fieldOf Tryz.prog 86 0 = some (0, 85) := by kernel_rfl
@[go_sem] theorem el_86 : Go.PA.elemOf Tryz.prog 86 = none := by kernel_rfl
@[go_sem] theorem ar_86 : arrOf Tryz.prog 86 = none := by kernel_rfl
@[go_sem] theorem fk_86 : fieldsKnown Tryz.prog 86 = true := by kernel_rfl
@[go_sem] theorem ze_86 : zeros Tryz.prog 86 = some [.nil] := by kernel_rfl
@[go_sem] theorem by_86 : bytesOf Tryz.prog 86 = 24 := by kernel_rfl
@[go_sem] theorem sz_87 : szOf Tryz.prog 87 = 1 := by kernel_rfl
@[go_sem] theorem kn_87 : knownT Tryz.prog 87 = true := by kernel_rfl
@[go_sem] theorem ag_87 : aggOf Tryz.prog 87 = true := by kernel_rfl
@[go_sem] theorem us_87 : (Tryz.prog.underlying 87).isSome = true := by kernel_rfl
@[go_sem] theorem fd_87_0 : fieldOf Tryz.prog 87 0 = some (0, 85) := by kernel_rfl
@[go_sem] theorem el_87 : Go.PA.elemOf Tryz.prog 87 = none := by kernel_rfl
@[go_sem] theorem ar_87 : arrOf Tryz.prog 87 = none := by kernel_rfl
@[go_sem] theorem fk_87 : fieldsKnown Tryz.prog 87 = true := by kernel_rfl
@[go_sem] theorem ze_87 : zeros Tryz.prog 87 = some [.nil] := by kernel_rfl
@[go_sem] theorem by_87 : bytesOf Tryz.prog 87 = 24 := by kernel_rfl
@[go_sem] theorem sz_88 : szOf Tryz.prog 88 = 15 := by kernel_rfl
@[go_sem] theorem kn_88 : knownT Tryz.prog 88 = true := by kernel_rfl
@[go_sem] theorem ag_88 : aggOf Tryz.prog 88 = true := by kernel_rfl
@[go_sem] theorem us_88 : (Tryz.prog.underlying 88).isSome = true := by kernel_rfl
@[go_sem] theorem fd_88_0 : fieldOf Tryz.prog 88 0 = some (0, 74) := by kernel_rfl
@[go_sem] theorem fd_88_1 : fieldOf Tryz.prog 88 1 = some (7, 79) := by kernel_rfl
@[go_sem] theorem fd_88_2 : fieldOf Tryz.prog 88 2 = some (11, 84) := by kernel_rfl
@[go_sem] theorem fd_88_3 : fieldOf Tryz.prog 88 3 = some (14, 87) := by kernel_rfl
@[go_sem] theorem el_88 : Go.PA.elemOf Tryz.prog 88 = none := by kernel_rfl
@[go_sem] theorem ar_88 : arrOf Tryz.prog 88 = none := by kernel_rfl
@[go_sem] theorem fk_88 : fieldsKnown Tryz.prog 88 = true := by kernel_rfl
@[go_sem] theorem ze_88 : zeros Tryz.prog 88 = some [.sc (.int .i64 0), .nil, .nil, .nil, .nil, .nil, .nil, .nil, .nil, .nil, .nil, .nil, .nil, .nil, .nil] := by kernel_rfl
@[go_sem] theorem by_88 : bytesOf Tryz.prog 88 = 344 := by kernel_rfl
@[go_sem] theorem sz_89 : szOf Tryz.prog 89 = 15 := by kernel_rfl
@[go_sem] theorem kn_89 : knownT Tryz.prog 89 = true := by kernel_rfl
@[go_sem] theorem ag_89 : aggOf Tryz.prog 89 = true := by kernel_rfl
@[go_sem] theorem us_89 : (Tryz.prog.underlying 89).isSome = true := by kernel_rfl
@[go_sem] theorem fd_89_0 : fieldOf Tryz.prog 89 0 = some (0, 74) := by kernel_rfl
@[go_sem] theorem fd_89_1 : fieldOf Tryz.prog 89 1 = some (7, 79) := by kernel_rfl
@[go_sem] theorem fd_89_2 : fieldOf Tryz.prog 89 2 = some (11, 84) := by kernel_rfl
@[go_sem] theorem fd_89_3 : fieldOf Tryz.prog 89 3 = some (14, 87) := by kernel_rfl
@[go_sem] theorem el_89 : Go.PA.elemOf Tryz.prog 89 = none := by kernel_rfl
@[go_sem] theorem ar_89 : arrOf Tryz.prog 89 = none := by kernel_rfl
@[go_sem] theorem fk_89 : fieldsKnown Tryz.prog 89 = true := by kernel_rfl
@[go_sem] theorem ze_89 : zeros Tryz.prog 89 = some [.sc (.int .i64 0), .nil, .nil, .nil, .nil, .nil, .nil, .nil, .nil, .nil, .nil, .nil, .nil, .nil, .nil] := by kernel_rfl
@[go_sem] theorem by_89 : bytesOf Tryz.prog 89 = 344 := by kernel_rfl
@[go_sem] theorem sz_94 : szOf Tryz.prog 94 = 7 := by kernel_rfl
@[go_sem] theorem kn_94 : knownT Tryz.prog 94 = true := by kernel_rfl
@[go_sem] theorem ag_94 : aggOf Tryz.prog 94 = true := by kernel_rfl
@[go_sem] theorem us_94 : (Tryz.prog.underlying 94).isSome = true := by kernel_rfl
@[go_sem] theorem fd_94_0 : fieldOf Tryz.prog 94 0 = some (0, 3) := by kernel_rfl
@[go_sem] theorem fd_94_1 : fieldOf Tryz.prog 94 1 = some (1, 3) := by kernel_rfl
@[go_sem] theorem fd_94_2 : fieldOf Tryz.prog 94 2 = some (2, 3) := by kernel_rfl
@[go_sem] theorem fd_94_3 : fieldOf Tryz.prog 94 3 = some (3, 3) := by kernel_rfl
@[go_sem] theorem fd_94_4 : fieldOf Tryz.prog 94 4 = some (4, 3) := by kernel_rfl
@[go_sem] theorem fd_94_5 : fieldOf Tryz.prog 94 5 = some (5, 3) := by kernel_rfl
@[go_sem] theorem fd_94_6 : fieldOf Tryz.prog 94 6 = some (6, 3) := by kernel_rfl
@[go_sem] theorem el_94 : Go.PA.elemOf Tryz.prog 94 = none := by kernel_rfl
@[go_sem] theorem ar_94 : arrOf Tryz.prog 94 = none := by kernel_rfl
@[go_sem] theorem fk_94 : fieldsKnown Tryz.prog 94 = true := by kernel_rfl
@[go_sem] theorem sg_94 : sigOf Tryz.prog 94 = some [.int, .int, .int, .int, .int, .int, .int] := by kernel_rfl
@[go_sem] theorem ze_94 : zeros Tryz.prog 94 = some [.sc (.int .i64 0), .sc (.int .i64 0), .sc (.int .i64 0), .sc (.int .i64 0), .sc (.int .i64 0), .sc (.int .i64 0), .sc (.int .i64 0)] := by kernel_rfl
@[go_sem] theorem by_94 : bytesOf Tryz.prog 94 = 56 := by kernel_rfl
@[go_sem] theorem sz_95 : szOf Tryz.prog 95 = 7 := by kernel_rfl
@[go_sem] theorem kn_95 : knownT Tryz.prog 95 = true := by kernel_rfl
@[go_sem] theorem ag_95 : aggOf Tryz.prog 95 = true := by kernel_rfl
@[go_sem] theorem us_95 : (Tryz.prog.underlying 95).isSome = true := by kernel_rfl
@[go_sem] theorem fd_95_0 : fieldOf Tryz.prog 95 0 = some (0, 3) := by kernel_rfl
@[go_sem] theorem fd_95_1 : fieldOf Tryz.prog 95 1 = some (1, 3) := by kernel_rfl
@[go_sem] theorem fd_95_2 : fieldOf Tryz.prog 95 2 = some (2, 3) := by kernel_rfl
@[go_sem] theorem fd_95_3 : fieldOf Tryz.prog 95 3 = some (3, 3) := by kernel_rfl
@[go_sem] theorem fd_95_4 : fieldOf Tryz.prog 95 4 = some (4, 3) := by kernel_rfl
@[go_sem] theorem fd_95_5 : fieldOf Tryz.prog 95 5 = some (5, 3) := by kernel_rfl
@[go_sem] theorem fd_95_6 : fieldOf Tryz.prog 95 6 = some (6, 3) := by kernel_rfl
@[go_sem] theorem el_95 : Go.PA.elemOf Tryz.prog 95 = none := by kernel_rfl
@[go_sem] theorem ar_95 : arrOf Tryz.prog 95 = none := by kernel_rfl
@[go_sem] theorem fk_95 : fieldsKnown Tryz.prog 95 = true := by kernel_rfl
@[go_sem] theorem sg_95 : sigOf Tryz.prog 95 = some [.int, .int, .int, .int, .int, .int, .int] := by kernel_rfl
@[go_sem] theorem ze_95 : zeros Tryz.prog 95 = some [.sc (.int .i64 0), .sc (.int .i64 0), .sc (.int .i64 0), .sc (.int .i64 0), .sc (.int .i64 0), .sc (.int .i64 0), .sc (.int .i64 0)] := by kernel_rfl
@[go_sem] theorem by_95 : bytesOf Tryz.prog 95 = 56 := by kernel_rfl
@[go_sem] theorem sz_96 : szOf Tryz.prog 96 = 1 := by kernel_rfl
@[go_sem] theorem kn_96 : knownT Tryz.prog 96 = true := by kernel_rfl
@[go_sem] theorem ag_96 : aggOf Tryz.prog 96 = false := by kernel_rfl
@[go_sem] theorem us_96 : (Tryz.prog.underlying 96).isSome = true := by kernel_rfl
@[go_sem] theorem el_96 : Go.PA.elemOf Tryz.prog 96 = some 95 := by kernel_rfl
@[go_sem] theorem un_96 : Tryz.prog.underlying 96 = some (.slice 95) := by kernel_rfl
@[go_sem] theorem ze_96 : zeros Tryz.prog 96 = some [.nil] := by kernel_rfl
@[go_sem] theorem az_96 : azero1 Tryz.prog 96 = some (.nil) := by kernel_rfl
@[go_sem] theorem by_96 : bytesOf Tryz.prog 96 = 24 := by kernel_rfl
@[go_sem] theorem sz_100 : szOf Tryz.prog 100 = 1 := by kernel_rfl
@[go_sem] theorem kn_100 : knownT Tryz.prog 100 = true := by kernel_rfl
@[go_sem] theorem ag_100 : aggOf Tryz.prog 100 = false := by kernel_rfl
@[go_sem] theorem us_100 : (Tryz.prog.underlying 100).isSome = true := by kernel_rfl
@[go_sem] theorem el_100 : Go.PA.elemOf Tryz.prog 100 = some 9 := by kernel_rfl
@[go_sem] theorem un_100 : Tryz.prog.underlying 100 = some (.slice 9) := by kernel_rfl
@[go_sem] theorem ze_100 : zeros Tryz.prog 100 = some [.nil] := by kernel_rfl
@[go_sem] theorem az_100 : azero1 Tryz.prog 100 = some (.nil) := by kernel_rfl
@[go_sem] theorem by_100 : bytesOf Tryz.prog 100 = 24 := by kernel_rfl
@[go_sem] theorem sz_101 : szOf Tryz.prog 101 = 1 := by kernel_rfl
@[go_sem] theorem kn_101 : knownT Tryz.prog 101 = true := by kernel_rfl
@[go_sem] theorem ag_101 : aggOf Tryz.prog 101 = false := by kernel_rfl
@[go_sem] theorem us_101 : (Tryz.prog.underlying 101).isSome = true := by kernel_rfl
@[go_sem] theorem im_101 : isMapT Tryz.prog 101 = true := by kernel_rfl
@[go_sem] theorem by_101 : bytesOf Tryz.prog 101 = 8 := by kernel_rfl
@[go_sem] theorem sz_102 : szOf Tryz.prog 102 = 2 := by kernel_rfl
@[go_sem] theorem kn_102 : knownT Tryz.prog 102 = true := by kernel_rfl
@[go_sem] theorem ag_102 : aggOf Tryz.prog 102 = true := by kernel_rfl
@[go_sem] theorem us_102 : (Tryz.prog.underlying 102).isSome = true := by kernel_rfl
@[go_sem] theorem fd_102_0 : fieldOf Tryz.prog 102 0 = some (0, 3) := by kernel_rfl
@[go_sem] theorem fd_102_1 : fieldOf Tryz.prog 102 1 = some (1, 3) := by kernel_rfl
@[go_sem] theorem el_102 : Go.PA.elemOf Tryz.prog 102 = none := by kernel_rfl
@[go_sem] theorem ar_102 : arrOf Tryz.prog 102 = none := by kernel_rfl
@[go_sem] theorem fk_102 : fieldsKnown Tryz.prog 102 = true := by kernel_rfl
@[go_sem] theorem sg_102 : sigOf Tryz.prog 102 = some [.int, .int] := by kernel_rfl
@[go_sem] theorem ze_102 : zeros Tryz.prog 102 = some [.sc (.int .i64 0), .sc (.int .i64 0)] := by kernel_rfl
@[go_sem] theorem by_102 : bytesOf Tryz.prog 102 = 16 := by kernel_rfl
@[go_sem] theorem sz_103 : szOf Tryz.prog 103 = 2 := by kernel_rfl
@[go_sem] theorem kn_103 : knownT Tryz.prog 103 = true := by kernel_rfl
@[go_sem] theorem ag_103 : aggOf Tryz.prog 103 = true := by kernel_rfl
@[go_sem] theorem us_103 : (Tryz.prog.underlying 103).isSome = true := by kernel_rfl
@[go_sem] theorem fd_103_0 : fieldOf Tryz.prog 103 0 = some (0, 3) := by kernel_rfl
@[go_sem] theorem fd_103_1 : fieldOf Tryz.prog 103 1 = some (1, 3) := by kernel_rfl
@[go_sem] theorem el_103 : Go.PA.elemOf Tryz.prog 103 = none := by kernel_rfl
@[go_sem] theorem ar_103 : arrOf Tryz.prog 103 = none := by kernel_rfl
@[go_sem] theorem fk_103 : fieldsKnown Tryz.prog 103 = true := by kernel_rfl
@[go_sem] theorem sg_103 : sigOf Tryz.prog 103 = some [.int, .int] := by kernel_rfl
@[go_sem] theorem ze_103 : zeros Tryz.prog 103 = some [.sc (.int .i64 0), .sc (.int .i64 0)] := by kernel_rfl
@[go_sem] theorem by_103 : bytesOf Tryz.prog 103 = 16 := by kernel_rfl
@[go_sem] theorem sz_107 : szOf Tryz.prog 107 = 1 := by kernel_rfl
@[go_sem] theorem kn_107 : knownT Tryz.prog 107 = true := by kernel_rfl
@[go_sem] theorem ag_107 : aggOf Tryz.prog 107 = false := by kernel_rfl
@[go_sem] theorem us_107 : (Tryz.prog.underlying 107).isSome = true := by kernel_rfl
@[go_sem] theorem un_107 : Tryz.prog.underlying 107 = some (.int .u64) := by kernel_rfl
@[go_sem] theorem ze_107 : zeros Tryz.prog 107 = some [.sc (.int .u64 0)] := by kernel_rfl
@[go_sem] theorem az_107 : azero1 Tryz.prog 107 = some (.sc (.int .u64 0)) := by kernel_rfl
@[go_sem] theorem by_107 : bytesOf Tryz.prog 107 = 8 := by kernel_rfl
@[go_sem] theorem sz_115 : szOf Tryz.prog 115 = 7 := by kernel_rfl
@[go_sem] theorem kn_115 : knownT Tryz.prog 115 = true := by kernel_rfl
@[go_sem] theorem ag_115 : aggOf Tryz.prog 115 = true := by kernel_rfl
@[go_sem] theorem us_115 : (Tryz.prog.underlying 115).isSome = true := by kernel_rfl
@[go_sem] theorem fd_115_0 : fieldOf Tryz.prog 115 0 = some (0, 3) := by kernel_rfl
@[go_sem] theorem fd_115_1 : fieldOf Tryz.prog 115 1 = some (1, 3) := by kernel_rfl
@[go_sem] theorem fd_115_2 : fieldOf Tryz.prog 115 2 = some (2, 3) := by kernel_rfl
@[go_sem] theorem fd_115_3 : fieldOf Tryz.prog 115 3 = some (3, 3) := by kernel_rfl
@[go_sem] theorem fd_115_4 : fieldOf Tryz.prog 115 4 = some (4, 3) := by kernel_rfl
@[go_sem] theorem fd_115_5 : fieldOf Tryz.prog 115 5 = some (5, 3) := by kernel_rfl
@[go_sem] theorem fd_115_6 : fieldOf Tryz.prog 115 6 = some (6, 4) := by kernel_rfl
@[go_sem] theorem el_115 : Go.PA.elemOf Tryz.prog 115 = none := by kernel_rfl
@[go_sem] theorem ar_115 : arrOf Tryz.prog 115 = none := by kernel_rfl
@[go_sem] theorem fk_115 : fieldsKnown Tryz.prog 115 = true := by kernel_rfl
@[go_sem] theorem sg_115 : sigOf Tryz.prog 115 = some [.int, .int, .int, .int, .int, .int, .bool] := by kernel_rfl
@[go_sem] theorem ze_115 : zeros Tryz.prog 115 = some [.sc (.int .i64 0), .sc (.int .i64 0), .sc (.int .i64 0), .sc (.int .i64 0), .sc (.int .i64 0), .sc (.int .i64 0), .sc (.bool false)] := by kernel_rfl
@[go_sem] theorem by_115 : bytesOf Tryz.prog 115 = 56 := by kernel_rfl
@[go_sem] theorem sz_116 : szOf Tryz.prog 116 = 7 := by kernel_rfl
@[go_sem] theorem kn_116 : knownT Tryz.prog 116 = true := by kernel_rfl
@[go_sem] theorem ag_116 : aggOf Tryz.prog 116 = true := by kernel_rfl
@[go_sem] theorem us_116 : (Tryz.prog.underlying 116).isSome = true := by kernel_rfl
@[go_sem] theorem fd_116_0 : fieldOf Tryz.prog 116 0 = some (0, 3) := by kernel_rfl
@[go_sem] theorem fd_116_1 : fieldOf Tryz.prog 116 1 = some (1, 3) := by kernel_rfl
@[go_sem] theorem fd_116_2 : fieldOf Tryz.prog 116 2 = some (2, 3) := by kernel_rfl
@[go_sem] theorem fd_116_3 : fieldOf Tryz.prog 116 3 = some (3, 3) := by kernel_rfl
@[go_sem] theorem fd_116_4 : fieldOf Tryz.prog 116 4 = some (4, 3) := by kernel_rfl
@[go_sem] theorem fd_116_5 : fieldOf Tryz.prog 116 5 = some (5, 3) := by kernel_rfl
@[go_sem] theorem fd_116_6 : fieldOf Tryz.prog 116 6 = some (6, 4) := by kernel_rfl
@[go_sem] theorem el_116 : Go.PA.elemOf Tryz.prog 116 = none := by kernel_rfl
@[go_sem] theorem ar_116 : arrOf Tryz.prog 116 = none := by kernel_rfl
@[go_sem] theorem fk_116 : fieldsKnown Tryz.prog 116 = true := by kernel_rfl
@[go_sem] theorem sg_116 : sigOf Tryz.prog 116 = some [.int, .int, .int, .int, .int, .int, .bool] := by kernel_rfl
@[go_sem] theorem ze_116 : zeros Tryz.prog 116 = some [.sc (.int .i64 0), .sc (.int .i64 0), .sc (.int .i64 0), .sc (.int .i64 0), .sc (.int .i64 0), .sc (.int .i64 0), .sc (.bool false)] := by kernel_rfl
@[go_sem] theorem by_116 : bytesOf Tryz.prog 116 = 56 := by kernel_rfl
@[go_sem] theorem sz_122 : szOf Tryz.prog 122 = 2 := by kernel_rfl
@[go_sem] theorem kn_122 : knownT Tryz.prog 122 = true := by kernel_rfl
@[go_sem] theorem ag_122 : aggOf Tryz.prog 122 = true := by kernel_rfl
@[go_sem] theorem us_122 : (Tryz.prog.underlying 122).isSome = true := by kernel_rfl
@[go_sem] theorem fd_122_0 : fieldOf Tryz.prog 122 0 = some (0, 3) := by kernel_rfl
@[go_sem] theorem fd_122_1 : fieldOf Tryz.prog 122 1 = some (1, 3) := by kernel_rfl
@[go_sem] theorem el_122 : Go.PA.elemOf Tryz.prog 122 = none := by kernel_rfl
@[go_sem] theorem ar_122 : arrOf Tryz.prog 122 = none := by kernel_rfl
@[go_sem] theorem fk_122 : fieldsKnown Tryz.prog 122 = true := by kernel_rfl
@[go_sem] theorem sg_122 : sigOf Tryz.prog 122 = some [.int, .int] := by kernel_rfl
@[go_sem] theorem ze_122 : zeros Tryz.prog 122 = some [.sc (.int .i64 0), .sc (.int .i64 0)] := by kernel_rfl
@[go_sem] theorem by_122 : bytesOf Tryz.prog 122 = 16 := by kernel_rfl
@[go_sem] theorem sz_123 : szOf Tryz.prog 123 = 2 := by kernel_rfl
@[go_sem] theorem kn_123 : knownT Tryz.prog 123 = true := by kernel_rfl
@[go_sem] theorem ag_123 : aggOf Tryz.prog 123 = true := by kernel_rfl
@[go_sem] theorem us_123 : (Tryz.prog.underlying 123).isSome = true := by kernel_rfl
@[go_sem] theorem fd_123_0 : fieldOf Tryz.prog 123 0 = some (0, 3) := by kernel_rfl
@[go_sem] theorem fd_123_1 : fieldOf Tryz.prog 123 1 = some (1, 3) := by kernel_rfl
@[go_sem] theorem el_123 : Go.PA.elemOf Tryz.prog 123 = none := by kernel_rfl
@[go_sem] theorem ar_123 : arrOf Tryz.prog 123 = none := by kernel_rfl
@[go_sem] theorem fk_123 : fieldsKnown Tryz.prog 123 = true := by kernel_rfl
@[go_sem] theorem sg_123 : sigOf Tryz.prog 123 = some [.int, .int] := by kernel_rfl
@[go_sem] theorem ze_123 : zeros Tryz.prog 123 = some [.sc (.int .i64 0), .sc (.int .i64 0)] := by kernel_rfl
@[go_sem] theorem by_123 : bytesOf Tryz.prog 123 = 16 := by kernel_rfl
@[go_sem] theorem sz_125 : szOf Tryz.prog 125 = 1 := by kernel_rfl
@[go_sem] theorem kn_125 : knownT Tryz.prog 125 = true := by kernel_rfl
@[go_sem] theorem ag_125 : aggOf Tryz.prog 125 = false := by kernel_rfl
@[go_sem] theorem us_125 : (Tryz.prog.underlying 125).isSome = true := by kernel_rfl
@[go_sem] theorem mp_125 : mapOf Tryz.prog 125 = some (3, .int .i64, 3) := by kernel_rfl
@[go_sem] theorem mi_125 : IMap Tryz.prog 125 (.sc (.int .i64 0)) := ⟨_, _, mp_125, by kernel_rfl⟩
@[go_sem] theorem im_125 : isMapT Tryz.prog 125 = true := by kernel_rfl
@[go_sem] theorem by_125 : bytesOf Tryz.prog 125 = 8 := by kernel_rfl
@[go_sem] theorem sz_129 : szOf Tryz.prog 129 = 1 := by kernel_rfl
@[go_sem] theorem kn_129 : knownT Tryz.prog 129 = true := by kernel_rfl
@[go_sem] theorem ag_129 : aggOf Tryz.prog 129 = false := by kernel_rfl
@[go_sem] theorem us_129 : (Tryz.prog.underlying 129).isSome = true := by kernel_rfl
@[go_sem] theorem el_129 : Go.PA.elemOf Tryz.prog 129 = some 203 := by kernel_rfl
@[go_sem] theorem un_129 : Tryz.prog.underlying 129 = some (.slice 203) := by kernel_rfl
@[go_sem] theorem ze_129 : zeros Tryz.prog 129 = some [.nil] := by kernel_rfl
@[go_sem] theorem az_129 : azero1 Tryz.prog 129 = some (.nil) := by kernel_rfl
@[go_sem] theorem by_129 : bytesOf Tryz.prog 129 = 24 := by kernel_rfl
@[go_sem] theorem sz_132 : szOf Tryz.prog 132 = 1 := by kernel_rfl
@[go_sem] theorem kn_132 : knownT Tryz.prog 132 = true := by kernel_rfl
@[go_sem] theorem ag_132 : aggOf Tryz.prog 132 = false := by kernel_rfl
@[go_sem] theorem us_132 : (Tryz.prog.underlying 132).isSome = true := by kernel_rfl
@[go_sem] theorem un_132 : Tryz.prog.underlying 132 = some (.int .i64) := by kernel_rfl
@[go_sem] theorem ze_132 : zeros Tryz.prog 132 = some [.sc (.int .i64 0)] := by kernel_rfl
@[go_sem] theorem az_132 : azero1 Tryz.prog 132 = some (.sc (.int .i64 0)) := by kernel_rfl
@[go_sem] theorem by_132 : bytesOf Tryz.prog 132 = 8 := by kernel_rfl
@[go_sem] theorem sz_140 : szOf Tryz.prog 140 = 1 := by kernel_rfl
@[go_sem] theorem kn_140 : knownT Tryz.prog 140 = true := by kernel_rfl
@[go_sem] theorem ag_140 : aggOf Tryz.prog 140 = false := by kernel_rfl
@[go_sem] theorem us_140 : (Tryz.prog.underlying 140).isSome = true := by kernel_rfl
@[go_sem] theorem un_140 : Tryz.prog.underlying 140 = some (.int .u32) := by kernel_rfl
@[go_sem] theorem ze_140 : zeros Tryz.prog 140 = some [.sc (.int .u32 0)] := by kernel_rfl
@[go_sem] theorem az_140 : azero1 Tryz.prog 140 = some (.sc (.int .u32 0)) := by kernel_rfl
@[go_sem] theorem by_140 : bytesOf Tryz.prog 140 = 4 := by kernel_rfl
@[go_sem] theorem sz_142 : szOf Tryz.prog 142 = 1 := by kernel_rfl
@[go_sem] theorem kn_142 : knownT Tryz.prog 142 = true := by kernel_rfl
@[go_sem] theorem ag_142 : aggOf Tryz.prog 142 = false := by kernel_rfl
@[go_sem] theorem us_142 : (Tryz.prog.underlying 142).isSome = true := by kernel_rfl
@[go_sem] theorem un_142 : Tryz.prog.underlying 142 = some (.int .u64) := by kernel_rfl
@[go_sem] theorem ze_142 : zeros Tryz.prog 142 = some [.sc (.int .u64 0)] := by kernel_rfl
@[go_sem] theorem az_142 : azero1 Tryz.prog 142 = some (.sc (.int .u64 0)) := by kernel_rfl
@[go_sem] theorem by_142 : bytesOf Tryz.prog 142 = 8 := by kernel_rfl
@[go_sem] theorem sz_157 : szOf Tryz.prog 157 = 1 := by kernel_rfl
@[go_sem] theorem kn_157 : knownT Tryz.prog 157 = true := by kernel_rfl
@[go_sem] theorem ag_157 : aggOf Tryz.prog 157 = false := by kernel_rfl
@[go_sem] theorem us_157 : (Tryz.prog.underlying 157).isSome = true := by kernel_rfl
@[go_sem] theorem ze_157 : zeros Tryz.prog 157 = some [.sc (.pointer none)] := by kernel_rfl
@[go_sem] theorem by_157 : bytesOf Tryz.prog 157 = 8 := by kernel_rfl
@[go_sem] theorem sz_158 : szOf Tryz.prog 158 = 1 := by kernel_rfl
@[go_sem] theorem kn_158 : knownT Tryz.prog 158 = true := by kernel_rfl
@[go_sem] theorem ag_158 : aggOf Tryz.prog 158 = false := by kernel_rfl
@[go_sem] theorem us_158 : (Tryz.prog.underlying 158).isSome = true := by kernel_rfl
@[go_sem] theorem ze_158 : zeros Tryz.prog 158 = some [.sc (.pointer none)] := by kernel_rfl
@[go_sem] theorem by_158 : bytesOf Tryz.prog 158 = 8 := by kernel_rfl
@[go_sem] theorem sz_161 : szOf Tryz.prog 161 = 6 := by kernel_rfl
@[go_sem] theorem kn_161 : knownT Tryz.prog 161 = true := by kernel_rfl
@[go_sem] theorem ag_161 : aggOf Tryz.prog 161 = true := by kernel_rfl
@[go_sem] theorem us_161 : (Tryz.prog.underlying 161).isSome = true := by kernel_rfl
@[go_sem] theorem fd_161_0 : fieldOf Tryz.prog 161 0 = some (0, 3) := by kernel_rfl
@[go_sem] theorem fd_161_1 : fieldOf Tryz.prog 161 1 = some (1, 3) := by kernel_rfl
@[go_sem] theorem fd_161_2 : fieldOf Tryz.prog 161 2 = some (2, 3) := by kernel_rfl
@[go_sem] theorem fd_161_3 : fieldOf Tryz.prog 161 3 = some (3, 3) := by kernel_rfl
@[go_sem] theorem fd_161_4 : fieldOf Tryz.prog 161 4 = some (4, 3) := by kernel_rfl
@[go_sem] theorem fd_161_5 : fieldOf Tryz.prog 161 5 = some (5, 3) := by kernel_rfl
@[go_sem] theorem el_161 : Go.PA.elemOf Tryz.prog 161 = none := by kernel_rfl
@[go_sem] theorem ar_161 : arrOf Tryz.prog 161 = none := by kernel_rfl
@[go_sem] theorem fk_161 : fieldsKnown Tryz.prog 161 = true := by kernel_rfl
@[go_sem] theorem sg_161 : sigOf Tryz.prog 161 = some [.int, .int, .int, .int, .int, .int] := by kernel_rfl
@[go_sem] theorem ze_161 : zeros Tryz.prog 161 = some [.sc (.int .i64 0), .sc (.int .i64 0), .sc (.int .i64 0), .sc (.int .i64 0), .sc (.int .i64 0), .sc (.int .i64 0)] := by kernel_rfl
@[go_sem] theorem by_161 : bytesOf Tryz.prog 161 = 48 := by kernel_rfl
@[go_sem] theorem sz_162 : szOf Tryz.prog 162 = 6 := by kernel_rfl
@[go_sem] theorem kn_162 : knownT Tryz.prog 162 = true := by kernel_rfl
@[go_sem] theorem ag_162 : aggOf Tryz.prog 162 = true := by kernel_rfl
@[go_sem] theorem us_162 : (Tryz.prog.underlying 162).isSome = true := by kernel_rfl
@[go_sem] theorem fd_162_0 : fieldOf Tryz.prog 162 0 = some (0, 3) := by kernel_rfl
@[go_sem] theorem fd_162_1 : fieldOf Tryz.prog 162 1 = some (1, 3) := by kernel_rfl
@[go_sem] theorem fd_162_2 : fieldOf Tryz.prog 162 2 = some (2, 3) := by kernel_rfl
@[go_sem] theorem fd_162_3 : fieldOf Tryz.prog 162 3 = some (3, 3) := by kernel_rfl
@[go_sem] theorem fd_162_4 : fieldOf Tryz.prog 162 4 = some (4, 3) := by kernel_rfl
@[go_sem] theorem fd_162_5 : fieldOf Tryz.prog 162 5 = some (5, 3) := by kernel_rfl
@[go_sem] theorem el_162 : Go.PA.elemOf Tryz.prog 162 = none := by kernel_rfl
@[go_sem] theorem ar_162 : arrOf Tryz.prog 162 = none := by kernel_rfl
@[go_sem] theorem fk_162 : fieldsKnown Tryz.prog 162 = true := by kernel_rfl
@[go_sem] theorem sg_162 : sigOf Tryz.prog 162 = some [.int, .int, .int, .int, .int, .int] := by kernel_rfl
@[go_sem] theorem ze_162 : zeros Tryz.prog 162 = some [.sc (.int .i64 0), .sc (.int .i64 0), .sc (.int .i64 0), .sc (.int .i64 0), .sc (.int .i64 0), .sc (.int .i64 0)] := by kernel_rfl
@[go_sem] theorem by_162 : bytesOf Tryz.prog 162 = 48 := by kernel_rfl
@[go_sem] theorem sz_164 : szOf Tryz.prog 164 = 5 := by kernel_rfl
@[go_sem] theorem kn_164 : knownT Tryz.prog 164 = true := by kernel_rfl
@[go_sem] theorem ag_164 : aggOf Tryz.prog 164 = true := by kernel_rfl
@[go_sem] theorem us_164 : (Tryz.prog.underlying 164).isSome = true := by kernel_rfl
@[go_sem] theorem fd_164_0 : fieldOf Tryz.prog 164 0 = some (0, 3) := by kernel_rfl
@[go_sem] theorem fd_164_1 : fieldOf Tryz.prog 164 1 = some (1, 3) := by kernel_rfl
@[go_sem] theorem fd_164_2 : fieldOf Tryz.prog 164 2 = some (2, 3) := by kernel_rfl
@[go_sem] theorem fd_164_3 : fieldOf Tryz.prog 164 3 = some (3, 3) := by kernel_rfl
@[go_sem] theorem fd_164_4 : fieldOf Tryz.prog 164 4 = some (4, 3) := by kernel_rfl
@[go_sem] theorem el_164 : Go.PA.elemOf Tryz.prog 164 = none := by kernel_rfl
@[go_sem] theorem ar_164 : arrOf Tryz.prog 164 = none := by kernel_rfl
@[go_sem] theorem fk_164 : fieldsKnown Tryz.prog 164 = true := by kernel_rfl
@[go_sem] theorem sg_164 : sigOf Tryz.prog 164 = some [.int, .int, .int, .int, .int] := by kernel_rfl
@[go_sem] theorem ze_164 : zeros Tryz.prog 164 = some [.sc (.int .i64 0), .sc (.int .i64 0), .sc (.int .i64 0), .sc (.int .i64 0), .sc (.int .i64 0)] := by kernel_rfl
@[go_sem] theorem by_164 : bytesOf Tryz.prog 164 = 40 := by kernel_rfl
@[go_sem] theorem sz_165 : szOf Tryz.prog 165 = 5 := by kernel_rfl
@[go_sem] theorem kn_165 : knownT Tryz.prog 165 = true := by kernel_rfl
@[go_sem] theorem ag_165 : aggOf Tryz.prog 165 = true := by kernel_rfl
@[go_sem] theorem us_165 : (Tryz.prog.underlying 165).isSome = true := by kernel_rfl
@[go_sem] theorem fd_165_0 : fieldOf Tryz.prog 165 0 = some (0, 3) := by kernel_rfl
@[go_sem] theorem fd_165_1 : fieldOf Tryz.prog 165 1 = some (1, 3) := by kernel_rfl
@[go_sem] theorem fd_165_2 : fieldOf Tryz.prog 165 2 = some (2, 3) := by kernel_rfl
@[go_sem] theorem fd_165_3 : fieldOf Tryz.prog 165 3 = some (3, 3) := by kernel_rfl
@[go_sem] theorem fd_165_4 : fieldOf Tryz.prog 165 4 = some (4, 3) := by kernel_rfl
@[go_sem] theorem el_165 : Go.PA.elemOf Tryz.prog 165 = none := by kernel_rfl
@[go_sem] theorem ar_165 : arrOf Tryz.prog 165 = none := by kernel_rfl
@[go_sem] theorem fk_165 : fieldsKnown Tryz.prog 165 = true := by kernel_rfl
@[go_sem] theorem sg_165 : sigOf Tryz.prog 165 = some [.int, .int, .int, .int, .int] := by kernel_rfl
@[go_sem] theorem ze_165 : zeros Tryz.prog 165 = some [.sc (.int .i64 0), .sc (.int .i64 0), .sc (.int .i64 0), .sc (.int .i64 0), .sc (.int .i64 0)] := by kernel_rfl
@[go_sem] theorem by_165 : bytesOf Tryz.prog 165 = 40 := by kernel_rfl
@[go_sem] theorem sz_167 : szOf Tryz.prog 167 = 3 := by kernel_rfl
@[go_sem] theorem kn_167 : knownT Tryz.prog 167 = true := by kernel_rfl
@[go_sem] theorem ag_167 : aggOf Tryz.prog 167 = true := by kernel_rfl
@[go_sem] theorem us_167 : (Tryz.prog.underlying 167).isSome = true := by kernel_rfl
@[go_sem] theorem fd_167_0 : fieldOf Tryz.prog 167 0 = some (0, 3) := by kernel_rfl
@[go_sem] theorem fd_167_1 : fieldOf Tryz.prog 167 1 = some (1, 3) := by kernel_rfl
@[go_sem] theorem fd_167_2 : fieldOf Tryz.prog 167 2 = some (2, 68) := by kernel_rfl
@[go_sem] theorem el_167 : Go.PA.elemOf Tryz.prog 167 = none := by kernel_rfl
@[go_sem] theorem ar_167 : arrOf Tryz.prog 167 = none := by kernel_rfl
@[go_sem] theorem fk_167 : fieldsKnown Tryz.prog 167 = true := by kernel_rfl
@[go_sem] theorem ze_167 : zeros Tryz.prog 167 = some [.sc (.int .i64 0), .sc (.int .i64 0), .nil] := by kernel_rfl
@[go_sem] theorem by_167 : bytesOf Tryz.prog 167 = 40 := by kernel_rfl
@[go_sem] theorem sz_168 : szOf Tryz.prog 168 = 3 := by kernel_rfl
@[go_sem] theorem kn_168 : knownT Tryz.prog 168 = true := by kernel_rfl
@[go_sem] theorem ag_168 : aggOf Tryz.prog 168 = true := by kernel_rfl
@[go_sem] theorem us_168 : (Tryz.prog.underlying 168).isSome = true := by kernel_rfl
@[go_sem] theorem fd_168_0 : fieldOf Tryz.prog 168 0 = some (0, 3) := by kernel_rfl
@[go_sem] theorem fd_168_1 : fieldOf Tryz.prog 168 1 = some (1, 3) := by kernel_rfl
@[go_sem] theorem fd_168_2 : fieldOf Tryz.prog 168 2 = some (2, 68) := by kernel_rfl
@[go_sem] theorem el_168 : Go.PA.elemOf Tryz.prog 168 = none := by kernel_rfl
@[go_sem] theorem ar_168 : arrOf Tryz.prog 168 = none := by kernel_rfl
@[go_sem] theorem fk_168 : fieldsKnown Tryz.prog 168 = true := by kernel_rfl
@[go_sem] theorem ze_168 : zeros Tryz.prog 168 = some [.sc (.int .i64 0), .sc (.int .i64 0), .nil] := by kernel_rfl
@[go_sem] theorem by_168 : bytesOf Tryz.prog 168 = 40 := by kernel_rfl
@[go_sem] theorem sz_170 : szOf Tryz.prog 170 = 7 := by kernel_rfl
@[go_sem] theorem kn_170 : knownT Tryz.prog 170 = true := by kernel_rfl
@[go_sem] theorem ag_170 : aggOf Tryz.prog 170 = true := by kernel_rfl
@[go_sem] theorem us_170 : (Tryz.prog.underlying 170).isSome = true := by kernel_rfl
@[go_sem] theorem fd_170_0 : fieldOf Tryz.prog 170 0 = some (0, 165) := by kernel_rfl
@[go_sem] theorem fd_170_1 : fieldOf Tryz.prog 170 1 = some (5, 3) := by kernel_rfl
@[go_sem] theorem fd_170_2 : fieldOf Tryz.prog 170 2 = some (6, 3) := by kernel_rfl
@[go_sem] theorem el_170 : Go.PA.elemOf Tryz.prog 170 = none := by kernel_rfl
@[go_sem] theorem ar_170 : arrOf Tryz.prog 170 = none := by kernel_rfl
@[go_sem] theorem fk_170 : fieldsKnown Tryz.prog 170 = true := by kernel_rfl
@[go_sem] theorem sg_170 : sigOf Tryz.prog 170 = some [.int, .int, .int, .int, .int, .int, .int] := by kernel_rfl
@[go_sem] theorem ze_170 : zeros Tryz.prog 170 = some [.sc (.int .i64 0), .sc (.int .i64 0), .sc (.int .i64 0), .sc (.int .i64 0), .sc (.int .i64 0), .sc (.int .i64 0), .sc (.int .i64 0)] := by kernel_rfl
@[go_sem] theorem by_170 : bytesOf Tryz.prog 170 = 56 := by kernel_rfl
@[go_sem] theorem sz_171 : szOf Tryz.prog 171 = 7 := by kernel_rfl
@[go_sem] theorem kn_171 : knownT Tryz.prog 171 = true := by kernel_rfl
@[go_sem] theorem ag_171 : aggOf Tryz.prog 171 = true := by kernel_rfl
@[go_sem] theorem us_171 : (Tryz.prog.underlying 171).isSome = true := by kernel_rfl
@[go_sem] theorem fd_171_0 : fieldOf Tryz.prog 171 0 = some (0, 165) := by kernel_rfl
@[go_sem] theorem fd_171_1 : fieldOf Tryz.prog 171 1 = some (5, 3) := by kernel_rfl
@[go_sem] theorem fd_171_2 : fieldOf Tryz.prog 171 2 = some (6, 3) := by kernel_rfl
@[go_sem] theorem el_171 : Go.PA.elemOf Tryz.prog 171 = none := by kernel_rfl
@[go_sem] theorem ar_171 : arrOf Tryz.prog 171 = none := by kernel_rfl
@[go_sem] theorem fk_171 : fieldsKnown Tryz.prog 171 = true := by kernel_rfl
@[go_sem] theorem sg_171 : sigOf Tryz.prog 171 = some [.int, .int, .int, .int, .int, .int, .int] := by kernel_rfl
@[go_sem] theorem ze_171 : zeros Tryz.prog 171 = some [.sc (.int .i64 0), .sc (.int .i64 0), .sc (.int .i64 0), .sc (.int .i64 0), .sc (.int .i64 0), .sc (.int .i64 0), .sc (.int .i64 0)] := by kernel_rfl
@[go_sem] theorem by_171 : bytesOf Tryz.prog 171 = 56 := by kernel_rfl
@[go_sem] theorem sz_172 : szOf Tryz.prog 172 = 1 := by kernel_rfl
@[go_sem] theorem kn_172 : knownT Tryz.prog 172 = true := by kernel_rfl
@[go_sem] theorem ag_172 : aggOf Tryz.prog 172 = false := by kernel_rfl
@[go_sem] theorem us_172 : (Tryz.prog.underlying 172).isSome = true := by kernel_rfl
@[go_sem] theorem ze_172 : zeros Tryz.prog 172 = some [.sc (.pointer none)] := by kernel_rfl
@[go_sem] theorem by_172 : bytesOf Tryz.prog 172 = 8 := by kernel_rfl
@[go_sem] theorem sz_174 : szOf Tryz.prog 174 = 6 := by kernel_rfl
@[go_sem] theorem kn_174 : knownT Tryz.prog 174 = true := by kernel_rfl
@[go_sem] theorem ag_174 : aggOf Tryz.prog 174 = true := by kernel_rfl
@[go_sem] theorem us_174 : (Tryz.prog.underlying 174).isSome = true := by kernel_rfl
@[go_sem] theorem fd_174_0 : fieldOf Tryz.prog 174 0 = some (0, 3) := by kernel_rfl
@[go_sem] theorem fd_174_1 : fieldOf Tryz.prog 174 1 = some (1, 3) := by kernel_rfl
@[go_sem] theorem fd_174_2 : fieldOf Tryz.prog 174 2 = some (2, 3) := by kernel_rfl
@[go_sem] theorem fd_174_3 : fieldOf Tryz.prog 174 3 = some (3, 3) := by kernel_rfl
@[go_sem] theorem fd_174_4 : fieldOf Tryz.prog 174 4 = some (4, 3) := by kernel_rfl
@[go_sem] theorem fd_174_5 : fieldOf Tryz.prog 174 5 = some (5, 9) := by kernel_rfl
@[go_sem] theorem el_174 : Go.PA.elemOf Tryz.prog 174 = none := by kernel_rfl
@[go_sem] theorem ar_174 : arrOf Tryz.prog 174 = none := by kernel_rfl
@[go_sem] theorem fk_174 : fieldsKnown Tryz.prog 174 = true := by kernel_rfl
@[go_sem] theorem sg_174 : sigOf Tryz.prog 174 = some [.int, .int, .int, .int, .int, .str] := by kernel_rfl
@[go_sem] theorem ze_174 : zeros Tryz.prog 174 = some [.sc (.int .i64 0), .sc (.int .i64 0), .sc (.int .i64 0), .sc (.int .i64 0), .sc (.int .i64 0), .sc (.string ByteArray.empty)] := by kernel_rfl
@[go_sem] theorem by_174 : bytesOf Tryz.prog 174 = 56 := by kernel_rfl
@[go_sem] theorem sz_175 : szOf Tryz.prog 175 = 6 := by kernel_rfl
@[go_sem] theorem kn_175 : knownT Tryz.prog 175 = true := by kernel_rfl
@[go_sem] theorem ag_175 : aggOf Tryz.prog 175 = true := by kernel_rfl
@[go_sem] theorem us_175 : (Tryz.prog.underlying 175).isSome = true := by kernel_rfl
@[go_sem] theorem fd_175_0 : fieldOf Tryz.prog 175 0 = some (0, 3) := by kernel_rfl
@[go_sem] theorem fd_175_1 : fieldOf Tryz.prog 175 1 = some (1, 3) := by kernel_rfl
@[go_sem] theorem fd_175_2 : fieldOf Tryz.prog 175 2 = some (2, 3) := by kernel_rfl
@[go_sem] theorem fd_175_3 : fieldOf Tryz.prog 175 3 = some (3, 3) := by kernel_rfl
@[go_sem] theorem fd_175_4 : fieldOf Tryz.prog 175 4 = some (4, 3) := by kernel_rfl
@[go_sem] theorem fd_175_5 : fieldOf Tryz.prog 175 5 = some (5, 9) := by kernel_rfl
@[go_sem] theorem el_175 : Go.PA.elemOf Tryz.prog 175 = none := by kernel_rfl
@[go_sem] theorem ar_175 : arrOf Tryz.prog 175 = none := by kernel_rfl
@[go_sem] theorem fk_175 : fieldsKnown Tryz.prog 175 = true := by kernel_rfl
@[go_sem] theorem sg_175 : sigOf Tryz.prog 175 = some [.int, .int, .int, .int, .int, .str] := by kernel_rfl
@[go_sem] theorem ze_175 : zeros Tryz.prog 175 = some [.sc (.int .i64 0), .sc (.int .i64 0), .sc (.int .i64 0), .sc (.int .i64 0), .sc (.int .i64 0), .sc (.string ByteArray.empty)] := by kernel_rfl
@[go_sem] theorem by_175 : bytesOf Tryz.prog 175 = 56 := by kernel_rfl
@[go_sem] theorem sz_177 : szOf Tryz.prog 177 = 5 := by kernel_rfl
@[go_sem] theorem kn_177 : knownT Tryz.prog 177 = true := by kernel_rfl
@[go_sem] theorem ag_177 : aggOf Tryz.prog 177 = true := by kernel_rfl
@[go_sem] theorem us_177 : (Tryz.prog.underlying 177).isSome = true := by kernel_rfl
@[go_sem] theorem fd_177_0 : fieldOf Tryz.prog 177 0 = some (0, 3) := by kernel_rfl
@[go_sem] theorem fd_177_1 : fieldOf Tryz.prog 177 1 = some (1, 3) := by kernel_rfl
@[go_sem] theorem fd_177_2 : fieldOf Tryz.prog 177 2 = some (2, 3) := by kernel_rfl
@[go_sem] theorem fd_177_3 : fieldOf Tryz.prog 177 3 = some (3, 3) := by kernel_rfl
@[go_sem] theorem fd_177_4 : fieldOf Tryz.prog 177 4 = some (4, 3) := by kernel_rfl
@[go_sem] theorem el_177 : Go.PA.elemOf Tryz.prog 177 = none := by kernel_rfl
@[go_sem] theorem ar_177 : arrOf Tryz.prog 177 = none := by kernel_rfl
@[go_sem] theorem fk_177 : fieldsKnown Tryz.prog 177 = true := by kernel_rfl
@[go_sem] theorem sg_177 : sigOf Tryz.prog 177 = some [.int, .int, .int, .int, .int] := by kernel_rfl
@[go_sem] theorem ze_177 : zeros Tryz.prog 177 = some [.sc (.int .i64 0), .sc (.int .i64 0), .sc (.int .i64 0), .sc (.int .i64 0), .sc (.int .i64 0)] := by kernel_rfl
@[go_sem] theorem by_177 : bytesOf Tryz.prog 177 = 40 := by kernel_rfl
@[go_sem] theorem sz_178 : szOf Tryz.prog 178 = 5 := by kernel_rfl
@[go_sem] theorem kn_178 : knownT Tryz.prog 178 = true := by kernel_rfl
@[go_sem] theorem ag_178 : aggOf Tryz.prog 178 = true := by kernel_rfl
@[go_sem] theorem us_178 : (Tryz.prog.underlying 178).isSome = true := by kernel_rfl
@[go_sem] theorem fd_178_0 : fieldOf Tryz.prog 178 0 = some (0, 3) := by kernel_rfl
@[go_sem] theorem fd_178_1 : fieldOf Tryz.prog 178 1 = some (1, 3) := by kernel_rfl
@[go_sem] theorem fd_178_2 : fieldOf Tryz.prog 178 2 = some (2, 3) := by kernel_rfl
@[go_sem] theorem fd_178_3 : fieldOf Tryz.prog 178 3 = some (3, 3) := by kernel_rfl
@[go_sem] theorem fd_178_4 : fieldOf Tryz.prog 178 4 = some (4, 3) := by kernel_rfl
@[go_sem] theorem el_178 : Go.PA.elemOf Tryz.prog 178 = none := by kernel_rfl
@[go_sem] theorem ar_178 : arrOf Tryz.prog 178 = none := by kernel_rfl
@[go_sem] theorem fk_178 : fieldsKnown Tryz.prog 178 = true := by kernel_rfl
@[go_sem] theorem sg_178 : sigOf Tryz.prog 178 = some [.int, .int, .int, .int, .int] := by kernel_rfl
@[go_sem] theorem ze_178 : zeros Tryz.prog 178 = some [.sc (.int .i64 0), .sc (.int .i64 0), .sc (.int .i64 0), .sc (.int .i64 0), .sc (.int .i64 0)] := by kernel_rfl
@[go_sem] theorem by_178 : bytesOf Tryz.prog 178 = 40 := by kernel_rfl
@[go_sem] theorem sz_180 : szOf Tryz.prog 180 = 3 := by kernel_rfl
@[go_sem] theorem kn_180 : knownT Tryz.prog 180 = true := by kernel_rfl
@[go_sem] theorem ag_180 : aggOf Tryz.prog 180 = true := by kernel_rfl
@[go_sem] theorem us_180 : (Tryz.prog.underlying 180).isSome = true := by kernel_rfl
@[go_sem] theorem fd_180_0 : fieldOf Tryz.prog 180 0 = some (0, 3) := by kernel_rfl
@[go_sem] theorem fd_180_1 : fieldOf Tryz.prog 180 1 = some (1, 3) := by kernel_rfl
@[go_sem] theorem fd_180_2 : fieldOf Tryz.prog 180 2 = some (2, 3) := by kernel_rfl
@[go_sem] theorem el_180 : Go.PA.elemOf Tryz.prog 180 = none := by kernel_rfl
@[go_sem] theorem ar_180 : arrOf Tryz.prog 180 = none := by kernel_rfl
@[go_sem] theorem fk_180 : fieldsKnown Tryz.prog 180 = true := by kernel_rfl
@[go_sem] theorem sg_180 : sigOf Tryz.prog 180 = some [.int, .int, .int] := by kernel_rfl
@[go_sem] theorem ze_180 : zeros Tryz.prog 180 = some [.sc (.int .i64 0), .sc (.int .i64 0), .sc (.int .i64 0)] := by kernel_rfl
@[go_sem] theorem by_180 : bytesOf Tryz.prog 180 = 24 := by kernel_rfl
@[go_sem] theorem sz_181 : szOf Tryz.prog 181 = 3 := by kernel_rfl
@[go_sem] theorem kn_181 : knownT Tryz.prog 181 = true := by kernel_rfl
@[go_sem] theorem ag_181 : aggOf Tryz.prog 181 = true := by kernel_rfl
@[go_sem] theorem us_181 : (Tryz.prog.underlying 181).isSome = true := by kernel_rfl
@[go_sem] theorem fd_181_0 : fieldOf Tryz.prog 181 0 = some (0, 3) := by kernel_rfl
@[go_sem] theorem fd_181_1 : fieldOf Tryz.prog 181 1 = some (1, 3) := by kernel_rfl
@[go_sem] theorem fd_181_2 : fieldOf Tryz.prog 181 2 = some (2, 3) := by kernel_rfl
@[go_sem] theorem el_181 : Go.PA.elemOf Tryz.prog 181 = none := by kernel_rfl
@[go_sem] theorem ar_181 : arrOf Tryz.prog 181 = none := by kernel_rfl
@[go_sem] theorem fk_181 : fieldsKnown Tryz.prog 181 = true := by kernel_rfl
@[go_sem] theorem sg_181 : sigOf Tryz.prog 181 = some [.int, .int, .int] := by kernel_rfl
@[go_sem] theorem ze_181 : zeros Tryz.prog 181 = some [.sc (.int .i64 0), .sc (.int .i64 0), .sc (.int .i64 0)] := by kernel_rfl
@[go_sem] theorem by_181 : bytesOf Tryz.prog 181 = 24 := by kernel_rfl
@[go_sem] theorem sz_183 : szOf Tryz.prog 183 = 8 := by kernel_rfl
@[go_sem] theorem kn_183 : knownT Tryz.prog 183 = true := by kernel_rfl
@[go_sem] theorem ag_183 : aggOf Tryz.prog 183 = true := by kernel_rfl
@[go_sem] theorem us_183 : (Tryz.prog.underlying 183).isSome = true := by kernel_rfl
@[go_sem] theorem fd_183_0 : fieldOf Tryz.prog 183 0 = some (0, 3) := by kernel_rfl
@[go_sem] theorem fd_183_1 : fieldOf Tryz.prog 183 1 = some (1, 3) := by kernel_rfl
@[go_sem] theorem fd_183_2 : fieldOf Tryz.prog 183 2 = some (2, 3) := by kernel_rfl
@[go_sem] theorem fd_183_3 : fieldOf Tryz.prog 183 3 = some (3, 3) := by kernel_rfl
@[go_sem] theorem fd_183_4 : fieldOf Tryz.prog 183 4 = some (4, 3) := by kernel_rfl
@[go_sem] theorem fd_183_5 : fieldOf Tryz.prog 183 5 = some (5, 3) := by kernel_rfl
@[go_sem] theorem fd_183_6 : fieldOf Tryz.prog 183 6 = some (6, 3) := by kernel_rfl
@[go_sem] theorem fd_183_7 : fieldOf Tryz.prog 183 7 = some (7, 3) := by kernel_rfl
@[go_sem] theorem el_183 : Go.PA.elemOf Tryz.prog 183 = none := by kernel_rfl
@[go_sem] theorem ar_183 : arrOf Tryz.prog 183 = none := by kernel_rfl
@[go_sem] theorem fk_183 : fieldsKnown Tryz.prog 183 = true := by kernel_rfl
@[go_sem] theorem sg_183 : sigOf Tryz.prog 183 = some [.int, .int, .int, .int, .int, .int, .int, .int] := by kernel_rfl
@[go_sem] theorem ze_183 : zeros Tryz.prog 183 = some [.sc (.int .i64 0), .sc (.int .i64 0), .sc (.int .i64 0), .sc (.int .i64 0), .sc (.int .i64 0), .sc (.int .i64 0), .sc (.int .i64 0), .sc (.int .i64 0)] := by kernel_rfl
@[go_sem] theorem by_183 : bytesOf Tryz.prog 183 = 64 := by kernel_rfl
@[go_sem] theorem sz_184 : szOf Tryz.prog 184 = 8 := by kernel_rfl
@[go_sem] theorem kn_184 : knownT Tryz.prog 184 = true := by kernel_rfl
@[go_sem] theorem ag_184 : aggOf Tryz.prog 184 = true := by kernel_rfl
@[go_sem] theorem us_184 : (Tryz.prog.underlying 184).isSome = true := by kernel_rfl
@[go_sem] theorem fd_184_0 : fieldOf Tryz.prog 184 0 = some (0, 3) := by kernel_rfl
@[go_sem] theorem fd_184_1 : fieldOf Tryz.prog 184 1 = some (1, 3) := by kernel_rfl
@[go_sem] theorem fd_184_2 : fieldOf Tryz.prog 184 2 = some (2, 3) := by kernel_rfl
@[go_sem] theorem fd_184_3 : fieldOf Tryz.prog 184 3 = some (3, 3) := by kernel_rfl
@[go_sem] theorem fd_184_4 : fieldOf Tryz.prog 184 4 = some (4, 3) := by kernel_rfl
@[go_sem] theorem fd_184_5 : fieldOf Tryz.prog 184 5 = some (5, 3) := by kernel_rfl
@[go_sem] theorem fd_184_6 : fieldOf Tryz.prog 184 6 = some (6, 3) := by kernel_rfl
@[go_sem] theorem fd_184_7 : fieldOf Tryz.prog 184 7 = some (7, 3) := by kernel_rfl
@[go_sem] theorem el_184 : Go.PA.elemOf Tryz.prog 184 = none := by kernel_rfl
@[go_sem] theorem ar_184 : arrOf Tryz.prog 184 = none := by kernel_rfl
@[go_sem] theorem fk_184 : fieldsKnown Tryz.prog 184 = true := by kernel_rfl
@[go_sem] theorem sg_184 : sigOf Tryz.prog 184 = some [.int, .int, .int, .int, .int, .int, .int, .int] := by kernel_rfl
@[go_sem] theorem ze_184 : zeros Tryz.prog 184 = some [.sc (.int .i64 0), .sc (.int .i64 0), .sc (.int .i64 0), .sc (.int .i64 0), .sc (.int .i64 0), .sc (.int .i64 0), .sc (.int .i64 0), .sc (.int .i64 0)] := by kernel_rfl
@[go_sem] theorem by_184 : bytesOf Tryz.prog 184 = 64 := by kernel_rfl
@[go_sem] theorem sz_185 : szOf Tryz.prog 185 = 1 := by kernel_rfl
@[go_sem] theorem kn_185 : knownT Tryz.prog 185 = true := by kernel_rfl
@[go_sem] theorem ag_185 : aggOf Tryz.prog 185 = false := by kernel_rfl
@[go_sem] theorem us_185 : (Tryz.prog.underlying 185).isSome = true := by kernel_rfl
@[go_sem] theorem ze_185 : zeros Tryz.prog 185 = some [.sc (.pointer none)] := by kernel_rfl
@[go_sem] theorem by_185 : bytesOf Tryz.prog 185 = 8 := by kernel_rfl
@[go_sem] theorem sz_186 : szOf Tryz.prog 186 = 16 := by kernel_rfl
@[go_sem] theorem kn_186 : knownT Tryz.prog 186 = true := by kernel_rfl
@[go_sem] theorem ag_186 : aggOf Tryz.prog 186 = true := by kernel_rfl
@[go_sem] theorem us_186 : (Tryz.prog.underlying 186).isSome = true := by kernel_rfl
@[go_sem] theorem fd_186_0 : fieldOf Tryz.prog 186 0 = some (0, 89) := by kernel_rfl
@[go_sem] theorem fd_186_1 : fieldOf Tryz.prog 186 1 = some (15, 3) := by kernel_rfl
@[go_sem] theorem el_186 : Go.PA.elemOf Tryz.prog 186 = none := by kernel_rfl
@[go_sem] theorem ar_186 : arrOf Tryz.prog 186 = none := by kernel_rfl
@[go_sem] theorem fk_186 : fieldsKnown Tryz.prog 186 = true := by kernel_rfl
@[go_sem] theorem ze_186 : zeros Tryz.prog 186 = some [.sc (.int .i64 0), .nil, .nil, .nil, .nil, .nil, .nil, .nil, .nil, .nil, .nil, .nil, .nil, .nil, .nil, .sc (.int .i64 0)] := by kernel_rfl
@[go_sem] theorem by_186 : bytesOf Tryz.prog 186 = 352 := by kernel_rfl
@[go_sem] theorem sz_187 : szOf Tryz.prog 187 = 16 := by kernel_rfl
@[go_sem] theorem kn_187 : knownT Tryz.prog 187 = true := by kernel_rfl
@[go_sem] theorem ag_187 : aggOf Tryz.prog 187 = true := by kernel_rfl
@[go_sem] theorem us_187 : (Tryz.prog.underlying 187).isSome = true := by kernel_rfl
@[go_sem] theorem fd_187_0 : fieldOf Tryz.prog 187 0 = some (0, 89) := by kernel_rfl
@[go_sem] theorem fd_187_1 : fieldOf Tryz.prog 187 1 = some (15, 3) := by kernel_rfl
@[go_sem] theorem el_187 : Go.PA.elemOf Tryz.prog 187 = none := by kernel_rfl
@[go_sem] theorem ar_187 : arrOf Tryz.prog 187 = none := by kernel_rfl
@[go_sem] theorem fk_187 : fieldsKnown Tryz.prog 187 = true := by kernel_rfl
@[go_sem] theorem ze_187 : zeros Tryz.prog 187 = some [.sc (.int .i64 0), .nil, .nil, .nil, .nil, .nil, .nil, .nil, .nil, .nil, .nil, .nil, .nil, .nil, .nil, .sc (.int .i64 0)] := by kernel_rfl
@[go_sem] theorem by_187 : bytesOf Tryz.prog 187 = 352 := by kernel_rfl
@[go_sem] theorem sz_191 : szOf Tryz.prog 191 = 1 := by kernel_rfl
@[go_sem] theorem kn_191 : knownT Tryz.prog 191 = true := by kernel_rfl
@[go_sem] theorem ag_191 : aggOf Tryz.prog 191 = false := by kernel_rfl
@[go_sem] theorem us_191 : (Tryz.prog.underlying 191).isSome = true := by kernel_rfl
@[go_sem] theorem ze_191 : zeros Tryz.prog 191 = some [.sc (.pointer none)] := by kernel_rfl
@[go_sem] theorem by_191 : bytesOf Tryz.prog 191 = 8 := by kernel_rfl
@[go_sem] theorem sz_196 : szOf Tryz.prog 196 = 4 := by kernel_rfl
@[go_sem] theorem kn_196 : knownT Tryz.prog 196 = true := by kernel_rfl
@[go_sem] theorem ag_196 : aggOf Tryz.prog 196 = true := by kernel_rfl
@[go_sem] theorem us_196 : (Tryz.prog.underlying 196).isSome = true := by kernel_rfl
@[go_sem] theorem fd_196_0 : fieldOf Tryz.prog 196 0 = some (0, 3) := by kernel_rfl
@[go_sem] theorem fd_196_1 : fieldOf Tryz.prog 196 1 = some (1, 3) := by kernel_rfl
@[go_sem] theorem fd_196_2 : fieldOf Tryz.prog 196 2 = some (2, 3) := by kernel_rfl
@[go_sem] theorem fd_196_3 : fieldOf Tryz.prog 196 3 = some (3, 64) := by kernel_rfl
@[go_sem] theorem el_196 : Go.PA.elemOf Tryz.prog 196 = none := by kernel_rfl
@[go_sem] theorem ar_196 : arrOf Tryz.prog 196 = none := by kernel_rfl
@[go_sem] theorem fk_196 : fieldsKnown Tryz.prog 196 = true := by kernel_rfl
@[go_sem] theorem ze_196 : zeros Tryz.prog 196 = some [.sc (.int .i64 0), .sc (.int .i64 0), .sc (.int .i64 0), .nil] := by kernel_rfl
@[go_sem] theorem by_196 : bytesOf Tryz.prog 196 = 48 := by kernel_rfl
@[go_sem] theorem sz_197 : szOf Tryz.prog 197 = 4 := by kernel_rfl
@[go_sem] theorem kn_197 : knownT Tryz.prog 197 = true := by kernel_rfl
@[go_sem] theorem ag_197 : aggOf Tryz.prog 197 = true := by kernel_rfl
@[go_sem] theorem us_197 : (Tryz.prog.underlying 197).isSome = true := by kernel_rfl
@[go_sem] theorem fd_197_0 : fieldOf Tryz.prog 197 0 = some (0, 3) := by kernel_rfl
@[go_sem] theorem fd_197_1 : fieldOf Tryz.prog 197 1 = some (1, 3) := by kernel_rfl
@[go_sem] theorem fd_197_2 : fieldOf Tryz.prog 197 2 = some (2, 3) := by kernel_rfl
@[go_sem] theorem fd_197_3 : fieldOf Tryz.prog 197 3 = some (3, 64) := by kernel_rfl
@[go_sem] theorem el_197 : Go.PA.elemOf Tryz.prog 197 = none := by kernel_rfl
@[go_sem] theorem ar_197 : arrOf Tryz.prog 197 = none := by kernel_rfl
@[go_sem] theorem fk_197 : fieldsKnown Tryz.prog 197 = true := by kernel_rfl
@[go_sem] theorem ze_197 : zeros Tryz.prog 197 = some [.sc (.int .i64 0), .sc (.int .i64 0), .sc (.int .i64 0), .nil] := by kernel_rfl
@[go_sem] theorem by_197 : bytesOf Tryz.prog 197 = 48 := by kernel_rfl
@[go_sem] theorem sz_202 : szOf Tryz.prog 202 = 2 := by kernel_rfl
@[go_sem] theorem kn_202 : knownT Tryz.prog 202 = true := by kernel_rfl
@[go_sem] theorem ag_202 : aggOf Tryz.prog 202 = true := by kernel_rfl
@[go_sem] theorem us_202 : (Tryz.prog.underlying 202).isSome = true := by kernel_rfl
@[go_sem] theorem fd_202_0 : fieldOf Tryz.prog 202 0 = some (0, 3) := by kernel_rfl
@[go_sem] theorem fd_202_1 : fieldOf Tryz.prog 202 1 = some (1, 3) := by kernel_rfl
@[go_sem] theorem el_202 : Go.PA.elemOf Tryz.prog 202 = none := by kernel_rfl
@[go_sem] theorem ar_202 : arrOf Tryz.prog 202 = none := by kernel_rfl
@[go_sem] theorem fk_202 : fieldsKnown Tryz.prog 202 = true := by kernel_rfl
@[go_sem] theorem sg_202 : sigOf Tryz.prog 202 = some [.int, .int] := by kernel_rfl
@[go_sem] theorem ze_202 : zeros Tryz.prog 202 = some [.sc (.int .i64 0), .sc (.int .i64 0)] := by kernel_rfl
@[go_sem] theorem by_202 : bytesOf Tryz.prog 202 = 16 := by kernel_rfl
@[go_sem] theorem sz_203 : szOf Tryz.prog 203 = 2 := by kernel_rfl
@[go_sem] theorem kn_203 : knownT Tryz.prog 203 = true := by kernel_rfl
@[go_sem] theorem ag_203 : aggOf Tryz.prog 203 = true := by kernel_rfl
@[go_sem] theorem us_203 : (Tryz.prog.underlying 203).isSome = true := by kernel_rfl
@[go_sem] theorem fd_203_0 : fieldOf Tryz.prog 203 0 = some (0, 3) := by kernel_rfl
@[go_sem] theorem fd_203_1 : fieldOf Tryz.prog 203 1 = some (1, 3) := by kernel_rfl
@[go_sem] theorem el_203 : Go.PA.elemOf Tryz.prog 203 = none := by kernel_rfl
@[go_sem] theorem ar_203 : arrOf Tryz.prog 203 = none := by kernel_rfl
@[go_sem] theorem fk_203 : fieldsKnown Tryz.prog 203 = true := by kernel_rfl
@[go_sem] theorem sg_203 : sigOf Tryz.prog 203 = some [.int, .int] := by kernel_rfl
@[go_sem] theorem ze_203 : zeros Tryz.prog 203 = some [.sc (.int .i64 0), .sc (.int .i64 0)] := by kernel_rfl
@[go_sem] theorem by_203 : bytesOf Tryz.prog 203 = 16 := by kernel_rfl
@[go_sem] theorem sz_205 : szOf Tryz.prog 205 = 7 := by kernel_rfl
@[go_sem] theorem kn_205 : knownT Tryz.prog 205 = true := by kernel_rfl
@[go_sem] theorem ag_205 : aggOf Tryz.prog 205 = true := by kernel_rfl
@[go_sem] theorem us_205 : (Tryz.prog.underlying 205).isSome = true := by kernel_rfl
@[go_sem] theorem fd_205_0 : fieldOf Tryz.prog 205 0 = some (0, 3) := by kernel_rfl
@[go_sem] theorem fd_205_1 : fieldOf Tryz.prog 205 1 = some (1, 3) := by kernel_rfl
@[go_sem] theorem fd_205_2 : fieldOf Tryz.prog 205 2 = some (2, 3) := by kernel_rfl
@[go_sem] theorem fd_205_3 : fieldOf Tryz.prog 205 3 = some (3, 3) := by kernel_rfl
@[go_sem] theorem fd_205_4 : fieldOf Tryz.prog 205 4 = some (4, 3) := by kernel_rfl
@[go_sem] theorem fd_205_5 : fieldOf Tryz.prog 205 5 = some (5, 3) := by kernel_rfl
@[go_sem] theorem fd_205_6 : fieldOf Tryz.prog 205 6 = some (6, 3) := by kernel_rfl
@[go_sem] theorem el_205 : Go.PA.elemOf Tryz.prog 205 = none := by kernel_rfl
@[go_sem] theorem ar_205 : arrOf Tryz.prog 205 = none := by kernel_rfl
@[go_sem] theorem fk_205 : fieldsKnown Tryz.prog 205 = true := by kernel_rfl
@[go_sem] theorem sg_205 : sigOf Tryz.prog 205 = some [.int, .int, .int, .int, .int, .int, .int] := by kernel_rfl
@[go_sem] theorem ze_205 : zeros Tryz.prog 205 = some [.sc (.int .i64 0), .sc (.int .i64 0), .sc (.int .i64 0), .sc (.int .i64 0), .sc (.int .i64 0), .sc (.int .i64 0), .sc (.int .i64 0)] := by kernel_rfl
@[go_sem] theorem by_205 : bytesOf Tryz.prog 205 = 56 := by kernel_rfl
@[go_sem] theorem sz_206 : szOf Tryz.prog 206 = 7 := by kernel_rfl
@[go_sem] theorem kn_206 : knownT Tryz.prog 206 = true := by kernel_rfl
@[go_sem] theorem ag_206 : aggOf Tryz.prog 206 = true := by kernel_rfl
@[go_sem] theorem us_206 : (Tryz.prog.underlying 206).isSome = true := by kernel_rfl
@[go_sem] theorem fd_206_0 : fieldOf Tryz.prog 206 0 = some (0, 3) := by kernel_rfl
@[go_sem] theorem fd_206_1 : fieldOf Tryz.prog 206 1 = some (1, 3) := by kernel_rfl
@[go_sem] theorem fd_206_2 : fieldOf Tryz.prog 206 2 = some (2, 3) := by kernel_rfl
@[go_sem] theorem fd_206_3 : fieldOf Tryz.prog 206 3 = some (3, 3) := by kernel_rfl
@[go_sem] theorem fd_206_4 : fieldOf Tryz.prog 206 4 = some (4, 3) := by kernel_rfl
@[go_sem] theorem fd_206_5 : fieldOf Tryz.prog 206 5 = some (5, 3) := by kernel_rfl
@[go_sem] theorem fd_206_6 : fieldOf Tryz.prog 206 6 = some (6, 3) := by kernel_rfl
@[go_sem] theorem el_206 : Go.PA.elemOf Tryz.prog 206 = none := by kernel_rfl
@[go_sem] theorem ar_206 : arrOf Tryz.prog 206 = none := by kernel_rfl
@[go_sem] theorem fk_206 : fieldsKnown Tryz.prog 206 = true := by kernel_rfl
@[go_sem] theorem sg_206 : sigOf Tryz.prog 206 = some [.int, .int, .int, .int, .int, .int, .int] := by kernel_rfl
@[go_sem] theorem ze_206 : zeros Tryz.prog 206 = some [.sc (.int .i64 0), .sc (.int .i64 0), .sc (.int .i64 0), .sc (.int .i64 0), .sc (.int .i64 0), .sc (.int .i64 0), .sc (.int .i64 0)] := by kernel_rfl
@[go_sem] theorem by_206 : bytesOf Tryz.prog 206 = 56 := by kernel_rfl
@[go_sem] theorem sz_214 : szOf Tryz.prog 214 = 1 := by kernel_rfl
@[go_sem] theorem kn_214 : knownT Tryz.prog 214 = true := by kernel_rfl
@[go_sem] theorem ag_214 : aggOf Tryz.prog 214 = false := by kernel_rfl
@[go_sem] theorem us_214 : (Tryz.prog.underlying 214).isSome = true := by kernel_rfl
@[go_sem] theorem un_214 : Tryz.prog.underlying 214 = some (.int .u64) := by kernel_rfl
@[go_sem] theorem ze_214 : zeros Tryz.prog 214 = some [.sc (.int .u64 0)] := by kernel_rfl
@[go_sem] theorem az_214 : azero1 Tryz.prog 214 = some (.sc (.int .u64 0)) := by kernel_rfl
@[go_sem] theorem by_214 : bytesOf Tryz.prog 214 = 8 := by kernel_rfl
@[go_sem] theorem sz_218 : szOf Tryz.prog 218 = 1 := by kernel_rfl
@[go_sem] theorem kn_218 : knownT Tryz.prog 218 = true := by kernel_rfl
@[go_sem] theorem ag_218 : aggOf Tryz.prog 218 = false := by kernel_rfl
@[go_sem] theorem us_218 : (Tryz.prog.underlying 218).isSome = true := by kernel_rfl
@[go_sem] theorem ze_218 : zeros Tryz.prog 218 = some [.sc (.pointer none)] := by kernel_rfl
@[go_sem] theorem by_218 : bytesOf Tryz.prog 218 = 8 := by kernel_rfl
@[go_sem] theorem sz_222 : szOf Tryz.prog 222 = 1 := by kernel_rfl
@[go_sem] theorem kn_222 : knownT Tryz.prog 222 = true := by kernel_rfl
@[go_sem] theorem ag_222 : aggOf Tryz.prog 222 = false := by kernel_rfl
@[go_sem] theorem us_222 : (Tryz.prog.underlying 222).isSome = true := by kernel_rfl
@[go_sem] theorem ze_222 : zeros Tryz.prog 222 = some [.sc (.pointer none)] := by kernel_rfl
@[go_sem] theorem by_222 : bytesOf Tryz.prog 222 = 8 := by kernel_rfl
@[go_sem] theorem sz_226 : szOf Tryz.prog 226 = 3 := by kernel_rfl
@[go_sem] theorem kn_226 : knownT Tryz.prog 226 = true := by kernel_rfl
@[go_sem] theorem ag_226 : aggOf Tryz.prog 226 = true := by kernel_rfl
@[go_sem] theorem us_226 : (Tryz.prog.underlying 226).isSome = true := by kernel_rfl
@[go_sem] theorem fd_226_0 : fieldOf Tryz.prog 226 0 = some (0, 3) := by kernel_rfl
@[go_sem] theorem fd_226_1 : fieldOf Tryz.prog 226 1 = some (1, 3) := by kernel_rfl
@[go_sem] theorem fd_226_2 : fieldOf Tryz.prog 226 2 = some (2, 3) := by kernel_rfl
@[go_sem] theorem el_226 : Go.PA.elemOf Tryz.prog 226 = none := by kernel_rfl
@[go_sem] theorem ar_226 : arrOf Tryz.prog 226 = none := by kernel_rfl
@[go_sem] theorem fk_226 : fieldsKnown Tryz.prog 226 = true := by kernel_rfl
@[go_sem] theorem sg_226 : sigOf Tryz.prog 226 = some [.int, .int, .int] := by kernel_rfl
@[go_sem] theorem ze_226 : zeros Tryz.prog 226 = some [.sc (.int .i64 0), .sc (.int .i64 0), .sc (.int .i64 0)] := by kernel_rfl
@[go_sem] theorem by_226 : bytesOf Tryz.prog 226 = 24 := by kernel_rfl
@[go_sem] theorem sz_227 : szOf Tryz.prog 227 = 3 := by kernel_rfl
@[go_sem] theorem kn_227 : knownT Tryz.prog 227 = true := by kernel_rfl
@[go_sem] theorem ag_227 : aggOf Tryz.prog 227 = true := by kernel_rfl
@[go_sem] theorem us_227 : (Tryz.prog.underlying 227).isSome = true := by kernel_rfl
@[go_sem] theorem fd_227_0 : fieldOf Tryz.prog 227 0 = some (0, 3) := by kernel_rfl
@[go_sem] theorem fd_227_1 : fieldOf Tryz.prog 227 1 = some (1, 3) := by kernel_rfl
@[go_sem] theorem fd_227_2 : fieldOf Tryz.prog 227 2 = some (2, 3) := by kernel_rfl
@[go_sem] theorem el_227 : Go.PA.elemOf Tryz.prog 227 = none := by kernel_rfl
@[go_sem] theorem ar_227 : arrOf Tryz.prog 227 = none := by kernel_rfl
@[go_sem] theorem fk_227 : fieldsKnown Tryz.prog 227 = true := by kernel_rfl
@[go_sem] theorem sg_227 : sigOf Tryz.prog 227 = some [.int, .int, .int] := by kernel_rfl
@[go_sem] theorem ze_227 : zeros Tryz.prog 227 = some [.sc (.int .i64 0), .sc (.int .i64 0), .sc (.int .i64 0)] := by kernel_rfl
@[go_sem] theorem by_227 : bytesOf Tryz.prog 227 = 24 := by kernel_rfl
@[go_sem] theorem sz_228 : szOf Tryz.prog 228 = 4 := by kernel_rfl
@[go_sem] theorem kn_228 : knownT Tryz.prog 228 = true := by kernel_rfl
@[go_sem] theorem ag_228 : aggOf Tryz.prog 228 = true := by kernel_rfl
@[go_sem] theorem us_228 : (Tryz.prog.underlying 228).isSome = true := by kernel_rfl
@[go_sem] theorem fd_228_0 : fieldOf Tryz.prog 228 0 = some (0, 80) := by kernel_rfl
@[go_sem] theorem fd_228_1 : fieldOf Tryz.prog 228 1 = some (1, 81) := by kernel_rfl
@[go_sem] theorem fd_228_2 : fieldOf Tryz.prog 228 2 = some (2, 3) := by kernel_rfl
@[go_sem] theorem fd_228_3 : fieldOf Tryz.prog 228 3 = some (3, 3) := by kernel_rfl
@[go_sem] theorem el_228 : Go.PA.elemOf Tryz.prog 228 = none := by kernel_rfl
@[go_sem] theorem ar_228 : arrOf Tryz.prog 228 = none := by kernel_rfl
@[go_sem] theorem fk_228 : fieldsKnown Tryz.prog 228 = true := by kernel_rfl
@[go_sem] theorem ze_228 : zeros Tryz.prog 228 = some [.nil, .nil, .sc (.int .i64 0), .sc (.int .i64 0)] := by kernel_rfl
@[go_sem] theorem by_228 : bytesOf Tryz.prog 228 = 64 := by kernel_rfl
@[go_sem] theorem sz_229 : szOf Tryz.prog 229 = 4 := by kernel_rfl
@[go_sem] theorem kn_229 : knownT Tryz.prog 229 = true := by kernel_rfl
@[go_sem] theorem ag_229 : aggOf Tryz.prog 229 = true := by kernel_rfl
@[go_sem] theorem us_229 : (Tryz.prog.underlying 229).isSome = true := by kernel_rfl
@[go_sem] theorem fd_229_0 : fieldOf Tryz.prog 229 0 = some (0, 80) := by kernel_rfl
@[go_sem] theorem fd_229_1 : fieldOf Tryz.prog 229 1 = some (1, 81) := by kernel_rfl
@[go_sem] theorem fd_229_2 : fieldOf Tryz.prog 229 2 = some (2, 3) := by kernel_rfl
@[go_sem] theorem fd_229_3 : fieldOf Tryz.prog 229 3 = some (3, 3) := by kernel_rfl
@[go_sem] theorem el_229 : Go.PA.elemOf Tryz.prog 229 = none := by kernel_rfl
@[go_sem] theorem ar_229 : arrOf Tryz.prog 229 = none := by kernel_rfl
@[go_sem] theorem fk_229 : fieldsKnown Tryz.prog 229 = true := by kernel_rfl
@[go_sem] theorem ze_229 : zeros Tryz.prog 229 = some [.nil, .nil, .sc (.int .i64 0), .sc (.int .i64 0)] := by kernel_rfl
@[go_sem] theorem by_229 : bytesOf Tryz.prog 229 = 64 := by kernel_rfl
@[go_sem] theorem sz_249 : szOf Tryz.prog 249 = 2 := by kernel_rfl
@[go_sem] theorem kn_249 : knownT Tryz.prog 249 = true := by kernel_rfl
@[go_sem] theorem ag_249 : aggOf Tryz.prog 249 = true := by kernel_rfl
@[go_sem] theorem us_249 : (Tryz.prog.underlying 249).isSome = true := by kernel_rfl
@[go_sem] theorem fd_249_0 : fieldOf Tryz.prog 249 0 = some (0, 3) := by kernel_rfl
@[go_sem] theorem fd_249_1 : fieldOf Tryz.prog 249 1 = some (1, 31) := by kernel_rfl
@[go_sem] theorem el_249 : Go.PA.elemOf Tryz.prog 249 = none := by kernel_rfl
@[go_sem] theorem ar_249 : arrOf Tryz.prog 249 = none := by kernel_rfl
@[go_sem] theorem fk_249 : fieldsKnown Tryz.prog 249 = true := by kernel_rfl
@[go_sem] theorem sg_249 : sigOf Tryz.prog 249 = some [.int, .int] := by kernel_rfl
@[go_sem] theorem ze_249 : zeros Tryz.prog 249 = some [.sc (.int .i64 0), .sc (.int .i64 0)] := by kernel_rfl
@[go_sem] theorem by_249 : bytesOf Tryz.prog 249 = 16 := by kernel_rfl
@[go_sem] theorem sz_252 : szOf Tryz.prog 252 = 1 := by kernel_rfl
@[go_sem] theorem kn_252 : knownT Tryz.prog 252 = true := by kernel_rfl
@[go_sem] theorem ag_252 : aggOf Tryz.prog 252 = false := by kernel_rfl
@[go_sem] theorem us_252 : (Tryz.prog.underlying 252).isSome = true := by kernel_rfl
@[go_sem] theorem el_252 : Go.PA.elemOf Tryz.prog 252 = some 249 := by kernel_rfl
@[go_sem] theorem un_252 : Tryz.prog.underlying 252 = some (.slice 249) := by kernel_rfl
@[go_sem] theorem ze_252 : zeros Tryz.prog 252 = some [.nil] := by kernel_rfl
@[go_sem] theorem az_252 : azero1 Tryz.prog 252 = some (.nil) := by kernel_rfl
@[go_sem] theorem by_252 : bytesOf Tryz.prog 252 = 24 := by kernel_rfl
@[go_sem] theorem sz_256 : szOf Tryz.prog 256 = 1 := by kernel_rfl
@[go_sem] theorem kn_256 : knownT Tryz.prog 256 = true := by kernel_rfl
@[go_sem] theorem ag_256 : aggOf Tryz.prog 256 = false := by kernel_rfl
@[go_sem] theorem us_256 : (Tryz.prog.underlying 256).isSome = true := by kernel_rfl
@[go_sem] theorem ze_256 : zeros Tryz.prog 256 = some [.sc (.pointer none)] := by kernel_rfl
@[go_sem] theorem by_256 : bytesOf Tryz.prog 256 = 8 := by kernel_rfl
@[go_sem] theorem sz_262 : szOf Tryz.prog 262 = 1 := by kernel_rfl
@[go_sem] theorem kn_262 : knownT Tryz.prog 262 = true := by kernel_rfl
@[go_sem] theorem ag_262 : aggOf Tryz.prog 262 = false := by kernel_rfl
@[go_sem] theorem us_262 : (Tryz.prog.underlying 262).isSome = true := by kernel_rfl
@[go_sem] theorem el_262 : Go.PA.elemOf Tryz.prog 262 = some 5 := by kernel_rfl
@[go_sem] theorem un_262 : Tryz.prog.underlying 262 = some (.slice 5) := by kernel_rfl
@[go_sem] theorem ze_262 : zeros Tryz.prog 262 = some [.nil] := by kernel_rfl
@[go_sem] theorem az_262 : azero1 Tryz.prog 262 = some (.nil) := by kernel_rfl
@[go_sem] theorem by_262 : bytesOf Tryz.prog 262 = 24 := by kernel_rfl
@[go_sem] theorem sz_265 : szOf Tryz.prog 265 = 1 := by kernel_rfl
@[go_sem] theorem kn_265 : knownT Tryz.prog 265 = true := by kernel_rfl
@[go_sem] theorem ag_265 : aggOf Tryz.prog 265 = false := by kernel_rfl
@[go_sem] theorem us_265 : (Tryz.prog.underlying 265).isSome = true := by kernel_rfl
@[go_sem] theorem ze_265 : zeros Tryz.prog 265 = some [.sc (.pointer none)] := by kernel_rfl
@[go_sem] theorem by_265 : bytesOf Tryz.prog 265 = 8 := by kernel_rfl
@[go_sem] theorem sz_285 : szOf Tryz.prog 285 = 1 := by kernel_rfl
@[go_sem] theorem kn_285 : knownT Tryz.prog 285 = true := by kernel_rfl
@[go_sem] theorem ag_285 : aggOf Tryz.prog 285 = false := by kernel_rfl
@[go_sem] theorem us_285 : (Tryz.prog.underlying 285).isSome = true := by kernel_rfl
@[go_sem] theorem ze_285 : zeros Tryz.prog 285 = some [.sc (.pointer none)] := by kernel_rfl
@[go_sem] theorem by_285 : bytesOf Tryz.prog 285 = 8 := by kernel_rfl
@[go_sem] theorem sz_286 : szOf Tryz.prog 286 = 1 := by kernel_rfl
@[go_sem] theorem kn_286 : knownT Tryz.prog 286 = true := by kernel_rfl
@[go_sem] theorem ag_286 : aggOf Tryz.prog 286 = false := by kernel_rfl
@[go_sem] theorem us_286 : (Tryz.prog.underlying 286).isSome = true := by kernel_rfl
@[go_sem] theorem ze_286 : zeros Tryz.prog 286 = some [.sc (.pointer none)] := by kernel_rfl
@[go_sem] theorem by_286 : bytesOf Tryz.prog 286 = 8 := by kernel_rfl
@[go_sem] theorem sz_302 : szOf Tryz.prog 302 = 3 := by kernel_rfl
@[go_sem] theorem kn_302 : knownT Tryz.prog 302 = true := by kernel_rfl
@[go_sem] theorem ag_302 : aggOf Tryz.prog 302 = true := by kernel_rfl
@[go_sem] theorem us_302 : (Tryz.prog.underlying 302).isSome = true := by kernel_rfl
@[go_sem] theorem fd_302_0 : fieldOf Tryz.prog 302 0 = some (0, 9) := by kernel_rfl
@[go_sem] theorem fd_302_1 : fieldOf Tryz.prog 302 1 = some (1, 9) := by kernel_rfl
@[go_sem] theorem fd_302_2 : fieldOf Tryz.prog 302 2 = some (2, 147) := by kernel_rfl
@[go_sem] theorem el_302 : Go.PA.elemOf Tryz.prog 302 = none := by kernel_rfl
@[go_sem] theorem ar_302 : arrOf Tryz.prog 302 = none := by kernel_rfl
@[go_sem] theorem fk_302 : fieldsKnown Tryz.prog 302 = true := by kernel_rfl
@[go_sem] theorem by_302 : bytesOf Tryz.prog 302 = 48 := by kernel_rfl
@[go_sem] theorem sz_303 : szOf Tryz.prog 303 = 3 := by kernel_rfl
@[go_sem] theorem kn_303 : knownT Tryz.prog 303 = true := by kernel_rfl
@[go_sem] theorem ag_303 : aggOf Tryz.prog 303 = true := by kernel_rfl
@[go_sem] theorem us_303 : (Tryz.prog.underlying 303).isSome = true := by kernel_rfl
@[go_sem] theorem fd_303_0 : fieldOf Tryz.prog 303 0 = some (0, 9) := by kernel_rfl
@[go_sem] theorem fd_303_1 : fieldOf Tryz.prog 303 1 = some (1, 9) := by kernel_rfl
@[go_sem] theorem fd_303_2 : fieldOf Tryz.prog 303 2 = some (2, 147) := by kernel_rfl
@[go_sem] theorem el_303 : Go.PA.elemOf Tryz.prog 303 = none := by kernel_rfl
@[go_sem] theorem ar_303 : arrOf Tryz.prog 303 = none := by kernel_rfl
@[go_sem] theorem fk_303 : fieldsKnown Tryz.prog 303 = true := by kernel_rfl
@[go_sem] theorem by_303 : bytesOf Tryz.prog 303 = 48 := by kernel_rfl
@[go_sem] theorem sz_305 : szOf Tryz.prog 305 = 24 := by kernel_rfl
@[go_sem] theorem kn_305 : knownT Tryz.prog 305 = true := by kernel_rfl
@[go_sem] theorem ag_305 : aggOf Tryz.prog 305 = true := by kernel_rfl
@[go_sem] theorem us_305 : (Tryz.prog.underlying 305).isSome = true := by kernel_rfl
@[go_sem] theorem el_305 : Go.PA.elemOf Tryz.prog 305 = none := by kernel_rfl
@[go_sem] theorem ar_305 : arrOf Tryz.prog 305 = some (24, 5) := by kernel_rfl
@[go_sem] theorem fk_305 : fieldsKnown Tryz.prog 305 = true := by kernel_rfl
@[go_sem] theorem fd_305_0 : fieldOf Tryz.prog 305 0 = none := by kernel_rfl
@[go_sem] theorem fd_305_1 : fieldOf Tryz.prog 305 1 = none := by kernel_rfl
@[go_sem] theorem fd_305_2 : fieldOf Tryz.prog 305 2 = none := by kernel_rfl
@[go_sem] theorem fd_305_3 : fieldOf Tryz.prog 305 3 = none := by kernel_rfl
@[go_sem] theorem fd_305_4 : fieldOf Tryz.prog 305 4 = none := by kernel_rfl
@[go_sem] theorem fd_305_5 : fieldOf Tryz.prog 305 5 = none := by kernel_rfl
@[go_sem] theorem fd_305_6 : fieldOf Tryz.prog 305 6 = none := by kernel_rfl
@[go_sem] theorem fd_305_7 : fieldOf Tryz.prog 305 7 = none := by kernel_rfl
@[go_sem] theorem ze_305 : zeros Tryz.prog 305 = some [.sc (.int .u8 0), .sc (.int .u8 0), .sc (.int .u8 0), .sc (.int .u8 0), .sc (.int .u8 0), .sc (.int .u8 0), .sc (.int .u8 0), .sc (.int .u8 0), .sc (.int .u8 0), .sc (.int .u8 0), .sc (.int .u8 0), .sc (.int .u8 0), .sc (.int .u8 0), .sc (.int .u8 0), .sc (.int .u8 0), .sc (.int .u8 0), .sc (.int .u8 0), .sc (.int .u8 0), .sc (.int .u8 0), .sc (.int .u8 0), .sc (.int .u8 0), .sc (.int .u8 0), .sc (.int .u8 0), .sc (.int .u8 0)] := by kernel_rfl
@[go_sem] theorem by_305 : bytesOf Tryz.prog 305 = 24 := by kernel_rfl
@[go_sem] theorem sz_335 : szOf Tryz.prog 335 = 1 := by kernel_rfl
@[go_sem] theorem kn_335 : knownT Tryz.prog 335 = true := by kernel_rfl
@[go_sem] theorem ag_335 : aggOf Tryz.prog 335 = false := by kernel_rfl
@[go_sem] theorem us_335 : (Tryz.prog.underlying 335).isSome = true := by kernel_rfl
@[go_sem] theorem ze_335 : zeros Tryz.prog 335 = some [.sc (.pointer none)] := by kernel_rfl
@[go_sem] theorem by_335 : bytesOf Tryz.prog 335 = 8 := by kernel_rfl
@[go_sem] theorem sz_342 : szOf Tryz.prog 342 = 256 := by kernel_rfl
@[go_sem] theorem kn_342 : knownT Tryz.prog 342 = true := by kernel_rfl
@[go_sem] theorem ag_342 : aggOf Tryz.prog 342 = true := by kernel_rfl
@[go_sem] theorem us_342 : (Tryz.prog.underlying 342).isSome = true := by kernel_rfl
@[go_sem] theorem el_342 : Go.PA.elemOf Tryz.prog 342 = none := by kernel_rfl
@[go_sem] theorem ar_342 : arrOf Tryz.prog 342 = some (256, 5) := by kernel_rfl
@[go_sem] theorem fk_342 : fieldsKnown Tryz.prog 342 = true := by kernel_rfl
@[go_sem] theorem fd_342_0 : fieldOf Tryz.prog 342 0 = none := by kernel_rfl
@[go_sem] theorem fd_342_1 : fieldOf Tryz.prog 342 1 = none := by kernel_rfl
@[go_sem] theorem fd_342_2 : fieldOf Tryz.prog 342 2 = none := by kernel_rfl
@[go_sem] theorem fd_342_3 : fieldOf Tryz.prog 342 3 = none := by kernel_rfl
@[go_sem] theorem fd_342_4 : fieldOf Tryz.prog 342 4 = none := by kernel_rfl
@[go_sem] theorem fd_342_5 : fieldOf Tryz.prog 342 5 = none := by kernel_rfl
@[go_sem] theorem fd_342_6 : fieldOf Tryz.prog 342 6 = none := by kernel_rfl
@[go_sem] theorem fd_342_7 : fieldOf Tryz.prog 342 7 = none := by kernel_rfl
theorem ze_342 : zeros Tryz.prog 342 = some (List.replicate 256 (.sc (.int .u8 0))) := by kernel_rfl
@[go_sem] theorem by_342 : bytesOf Tryz.prog 342 = 256 := by kernel_rfl
@[go_sem] theorem sz_343 : szOf Tryz.prog 343 = 2 := by kernel_rfl
@[go_sem] theorem kn_343 : knownT Tryz.prog 343 = true := by kernel_rfl
@[go_sem] theorem ag_343 : aggOf Tryz.prog 343 = true := by kernel_rfl
@[go_sem] theorem us_343 : (Tryz.prog.underlying 343).isSome = true := by kernel_rfl
@[go_sem] theorem fd_343_0 : fieldOf Tryz.prog 343 0 = some (0, 5) := by kernel_rfl
@[go_sem] theorem fd_343_1 : fieldOf Tryz.prog 343 1 = some (1, 5) := by kernel_rfl
@[go_sem] theorem el_343 : Go.PA.elemOf Tryz.prog 343 = none := by kernel_rfl
@[go_sem] theorem ar_343 : arrOf Tryz.prog 343 = none := by kernel_rfl
@[go_sem] theorem fk_343 : fieldsKnown Tryz.prog 343 = true := by kernel_rfl
@[go_sem] theorem sg_343 : sigOf Tryz.prog 343 = some [.int, .int] := by kernel_rfl
@[go_sem] theorem ze_343 : zeros Tryz.prog 343 = some [.sc (.int .u8 0), .sc (.int .u8 0)] := by kernel_rfl
@[go_sem] theorem by_343 : bytesOf Tryz.prog 343 = 2 := by kernel_rfl
@[go_sem] theorem sz_344 : szOf Tryz.prog 344 = 2 := by kernel_rfl
@[go_sem] theorem kn_344 : knownT Tryz.prog 344 = true := by kernel_rfl
@[go_sem] theorem ag_344 : aggOf Tryz.prog 344 = true := by kernel_rfl
@[go_sem] theorem us_344 : (Tryz.prog.underlying 344).isSome = true := by kernel_rfl
@[go_sem] theorem fd_344_0 : fieldOf Tryz.prog 344 0 = some (0, 5) := by kernel_rfl
@[go_sem] theorem fd_344_1 : fieldOf Tryz.prog 344 1 = some (1, 5) := by kernel_rfl
@[go_sem] theorem el_344 : Go.PA.elemOf Tryz.prog 344 = none := by kernel_rfl
@[go_sem] theorem ar_344 : arrOf Tryz.prog 344 = none := by kernel_rfl
@[go_sem] theorem fk_344 : fieldsKnown Tryz.prog 344 = true := by kernel_rfl
@[go_sem] theorem sg_344 : sigOf Tryz.prog 344 = some [.int, .int] := by kernel_rfl
@[go_sem] theorem ze_344 : zeros Tryz.prog 344 = some [.sc (.int .u8 0), .sc (.int .u8 0)] := by kernel_rfl
@[go_sem] theorem by_344 : bytesOf Tryz.prog 344 = 2 := by kernel_rfl
@[go_sem] theorem sz_345 : szOf Tryz.prog 345 = 32 := by kernel_rfl
@[go_sem] theorem kn_345 : knownT Tryz.prog 345 = true := by kernel_rfl
@[go_sem] theorem ag_345 : aggOf Tryz.prog 345 = true := by kernel_rfl
@[go_sem] theorem us_345 : (Tryz.prog.underlying 345).isSome = true := by kernel_rfl
@[go_sem] theorem el_345 : Go.PA.elemOf Tryz.prog 345 = none := by kernel_rfl
@[go_sem] theorem ar_345 : arrOf Tryz.prog 345 = some (16, 344) := by kernel_rfl
@[go_sem] theorem fk_345 : fieldsKnown Tryz.prog 345 = true := by kernel_rfl
@[go_sem] theorem fd_345_0 : fieldOf Tryz.prog 345 0 = none := by kernel_rfl
@[go_sem] theorem fd_345_1 : fieldOf Tryz.prog 345 1 = none := by kernel_rfl
@[go_sem] theorem fd_345_2 : fieldOf Tryz.prog 345 2 = none := by kernel_rfl
@[go_sem] theorem fd_345_3 : fieldOf Tryz.prog 345 3 = none := by kernel_rfl
@[go_sem] theorem fd_345_4 : fieldOf Tryz.prog 345 4 = none := by kernel_rfl
@[go_sem] theorem fd_345_5 : fieldOf Tryz.prog 345 5 = none := by kernel_rfl
@[go_sem] theorem fd_345_6 : fieldOf Tryz.prog 345 6 = none := by kernel_rfl
@[go_sem] theorem fd_345_7 : fieldOf Tryz.prog 345 7 = none := by kernel_rfl
@[go_sem] theorem ze_345 : zeros Tryz.prog 345 = some [.sc (.int .u8 0), .sc (.int .u8 0), .sc (.int .u8 0), .sc (.int .u8 0), .sc (.int .u8 0), .sc (.int .u8 0), .sc (.int .u8 0), .sc (.int .u8 0), .sc (.int .u8 0), .sc (.int .u8 0), .sc (.int .u8 0), .sc (.int .u8 0), .sc (.int .u8 0), .sc (.int .u8 0), .sc (.int .u8 0), .sc (.int .u8 0), .sc (.int .u8 0), .sc (.int .u8 0), .sc (.int .u8 0), .sc (.int .u8 0), .sc (.int .u8 0), .sc (.int .u8 0), .sc (.int .u8 0), .sc (.int .u8 0), .sc (.int .u8 0), .sc (.int .u8 0), .sc (.int .u8 0), .sc (.int .u8 0), .sc (.int .u8 0), .sc (.int .u8 0), .sc (.int .u8 0), .sc (.int .u8 0)] := by kernel_rfl
@[go_sem] theorem by_345 : bytesOf Tryz.prog 345 = 32 := by kernel_rfl
@[go_sem] theorem sz_348 : szOf Tryz.prog 348 = 1 := by kernel_rfl
@[go_sem] theorem kn_348 : knownT Tryz.prog 348 = true := by kernel_rfl
@[go_sem] theorem ag_348 : aggOf Tryz.prog 348 = false := by kernel_rfl
@[go_sem] theorem us_348 : (Tryz.prog.underlying 348).isSome = true := by kernel_rfl
@[go_sem] theorem ze_348 : zeros Tryz.prog 348 = some [.sc (.pointer none)] := by kernel_rfl
@[go_sem] theorem by_348 : bytesOf Tryz.prog 348 = 8 := by kernel_rfl
@[go_sem] theorem sz_349 : szOf Tryz.prog 349 = 1 := by kernel_rfl
@[go_sem] theorem kn_349 : knownT Tryz.prog 349 = true := by kernel_rfl
@[go_sem] theorem ag_349 : aggOf Tryz.prog 349 = false := by kernel_rfl
@[go_sem] theorem us_349 : (Tryz.prog.underlying 349).isSome = true := by kernel_rfl
@[go_sem] theorem ze_349 : zeros Tryz.prog 349 = some [.sc (.pointer none)] := by kernel_rfl
@[go_sem] theorem by_349 : bytesOf Tryz.prog 349 = 8 := by kernel_rfl
@[go_sem] theorem sz_350 : szOf Tryz.prog 350 = 1 := by kernel_rfl
@[go_sem] theorem kn_350 : knownT Tryz.prog 350 = true := by kernel_rfl
@[go_sem] theorem ag_350 : aggOf Tryz.prog 350 = true := by kernel_rfl
@[go_sem] theorem us_350 : (Tryz.prog.underlying 350).isSome = true := by kernel_rfl
@[go_sem] theorem fd_350_0 : fieldOf Tryz.prog 350 0 = some (0, 9) := by kernel_rfl
@[go_sem] theorem el_350 : Go.PA.elemOf Tryz.prog 350 = none := by kernel_rfl
@[go_sem] theorem ar_350 : arrOf Tryz.prog 350 = none := by kernel_rfl
@[go_sem] theorem fk_350 : fieldsKnown Tryz.prog 350 = true := by kernel_rfl
@[go_sem] theorem sg_350 : sigOf Tryz.prog 350 = some [.str] := by kernel_rfl
@[go_sem] theorem ze_350 : zeros Tryz.prog 350 = some [.sc (.string ByteArray.empty)] := by kernel_rfl
@[go_sem] theorem by_350 : bytesOf Tryz.prog 350 = 16 := by kernel_rfl
@[go_sem] theorem sz_351 : szOf Tryz.prog 351 = 1 := by kernel_rfl
@[go_sem] theorem kn_351 : knownT Tryz.prog 351 = true := by kernel_rfl
@[go_sem] theorem ag_351 : aggOf Tryz.prog 351 = true := by kernel_rfl
@[go_sem] theorem us_351 : (Tryz.prog.underlying 351).isSome = true := by kernel_rfl
@[go_sem] theorem fd_351_0 : fieldOf Tryz.prog 351 0 = some (0, 9) := by kernel_rfl
@[go_sem] theorem el_351 : Go.PA.elemOf Tryz.prog 351 = none := by kernel_rfl
@[go_sem] theorem ar_351 : arrOf Tryz.prog 351 = none := by kernel_rfl
@[go_sem] theorem fk_351 : fieldsKnown Tryz.prog 351 = true := by kernel_rfl
@[go_sem] theorem sg_351 : sigOf Tryz.prog 351 = some [.str] := by kernel_rfl
@[go_sem] theorem ze_351 : zeros Tryz.prog 351 = some [.sc (.string ByteArray.empty)] := by kernel_rfl
@[go_sem] theorem by_351 : bytesOf Tryz.prog 351 = 16 := by kernel_rfl
@[go_sem] theorem sz_353 : szOf Tryz.prog 353 = 20 := by kernel_rfl
@[go_sem] theorem kn_353 : knownT Tryz.prog 353 = true := by kernel_rfl
@[go_sem] theorem ag_353 : aggOf Tryz.prog 353 = true := by kernel_rfl
@[go_sem] theorem us_353 : (Tryz.prog.underlying 353).isSome = true := by kernel_rfl
@[go_sem] theorem el_353 : Go.PA.elemOf Tryz.prog 353 = none := by kernel_rfl
@[go_sem] theorem ar_353 : arrOf Tryz.prog 353 = some (20, 142) := by kernel_rfl
@[go_sem] theorem fk_353 : fieldsKnown Tryz.prog 353 = true := by kernel_rfl
@[go_sem] theorem fd_353_0 : fieldOf Tryz.prog 353 0 = none := by kernel_rfl
@[go_sem] theorem fd_353_1 : fieldOf Tryz.prog 353 1 = none := by kernel_rfl
@[go_sem] theorem fd_353_2 : fieldOf Tryz.prog 353 2 = none := by kernel_rfl
@[go_sem] theorem fd_353_3 : fieldOf Tryz.prog 353 3 = none := by kernel_rfl
@[go_sem] theorem fd_353_4 : fieldOf Tryz.prog 353 4 = none := by kernel_rfl
@[go_sem] theorem fd_353_5 : fieldOf Tryz.prog 353 5 = none := by kernel_rfl
@[go_sem] theorem fd_353_6 : fieldOf Tryz.prog 353 6 = none := by kernel_rfl
@[go_sem] theorem fd_353_7 : fieldOf Tryz.prog 353 7 = none := by kernel_rfl
@[go_sem] theorem ze_353 : zeros Tryz.prog 353 = some [.sc (.int .u64 0), .sc (.int .u64 0), .sc (.int .u64 0), .sc (.int .u64 0), .sc (.int .u64 0), .sc (.int .u64 0), .sc (.int .u64 0), .sc (.int .u64 0), .sc (.int .u64 0), .sc (.int .u64 0), .sc (.int .u64 0), .sc (.int .u64 0), .sc (.int .u64 0), .sc (.int .u64 0), .sc (.int .u64 0), .sc (.int .u64 0), .sc (.int .u64 0), .sc (.int .u64 0), .sc (.int .u64 0), .sc (.int .u64 0)] := by kernel_rfl
@[go_sem] theorem by_353 : bytesOf Tryz.prog 353 = 160 := by kernel_rfl
@[go_sem] theorem sz_354 : szOf Tryz.prog 354 = 65 := by kernel_rfl
@[go_sem] theorem kn_354 : knownT Tryz.prog 354 = true := by kernel_rfl
@[go_sem] theorem ag_354 : aggOf Tryz.prog 354 = true := by kernel_rfl
@[go_sem] theorem us_354 : (Tryz.prog.underlying 354).isSome = true := by kernel_rfl
@[go_sem] theorem el_354 : Go.PA.elemOf Tryz.prog 354 = none := by kernel_rfl
@[go_sem] theorem ar_354 : arrOf Tryz.prog 354 = some (65, 5) := by kernel_rfl
@[go_sem] theorem fk_354 : fieldsKnown Tryz.prog 354 = true := by kernel_rfl
@[go_sem] theorem fd_354_0 : fieldOf Tryz.prog 354 0 = none := by kernel_rfl
@[go_sem] theorem fd_354_1 : fieldOf Tryz.prog 354 1 = none := by kernel_rfl
@[go_sem] theorem fd_354_2 : fieldOf Tryz.prog 354 2 = none := by kernel_rfl
@[go_sem] theorem fd_354_3 : fieldOf Tryz.prog 354 3 = none := by kernel_rfl
@[go_sem] theorem fd_354_4 : fieldOf Tryz.prog 354 4 = none := by kernel_rfl
@[go_sem] theorem fd_354_5 : fieldOf Tryz.prog 354 5 = none := by kernel_rfl
@[go_sem] theorem fd_354_6 : fieldOf Tryz.prog 354 6 = none := by kernel_rfl
@[go_sem] theorem fd_354_7 : fieldOf Tryz.prog 354 7 = none := by kernel_rfl
theorem ze_354 : zeros Tryz.prog 354 = some (List.replicate 65 (.sc (.int .u8 0))) := by kernel_rfl
@[go_sem] theorem by_354 : bytesOf Tryz.prog 354 = 65 := by kernel_rfl
@[go_sem] theorem sz_357 : szOf Tryz.prog 357 = 2 := by kernel_rfl
@[go_sem] theorem kn_357 : knownT Tryz.prog 357 = true := by kernel_rfl
@[go_sem] theorem ag_357 : aggOf Tryz.prog 357 = true := by kernel_rfl
@[go_sem] theorem us_357 : (Tryz.prog.underlying 357).isSome = true := by kernel_rfl
@[go_sem] theorem fd_357_0 : fieldOf Tryz.prog 357 0 = some (0, 3) := by kernel_rfl
@[go_sem] theorem fd_357_1 : fieldOf Tryz.prog 357 1 = some (1, 3) := by kernel_rfl
@[go_sem] theorem el_357 : Go.PA.elemOf Tryz.prog 357 = none := by kernel_rfl
@[go_sem] theorem ar_357 : arrOf Tryz.prog 357 = none := by kernel_rfl
@[go_sem] theorem fk_357 : fieldsKnown Tryz.prog 357 = true := by kernel_rfl
@[go_sem] theorem sg_357 : sigOf Tryz.prog 357 = some [.int, .int] := by kernel_rfl
@[go_sem] theorem ze_357 : zeros Tryz.prog 357 = some [.sc (.int .i64 0), .sc (.int .i64 0)] := by kernel_rfl
@[go_sem] theorem by_357 : bytesOf Tryz.prog 357 = 16 := by kernel_rfl
@[go_sem] theorem sz_358 : szOf Tryz.prog 358 = 2 := by kernel_rfl
@[go_sem] theorem kn_358 : knownT Tryz.prog 358 = true := by kernel_rfl
@[go_sem] theorem ag_358 : aggOf Tryz.prog 358 = true := by kernel_rfl
@[go_sem] theorem us_358 : (Tryz.prog.underlying 358).isSome = true := by kernel_rfl
@[go_sem] theorem fd_358_0 : fieldOf Tryz.prog 358 0 = some (0, 3) := by kernel_rfl
@[go_sem] theorem fd_358_1 : fieldOf Tryz.prog 358 1 = some (1, 3) := by kernel_rfl
@[go_sem] theorem el_358 : Go.PA.elemOf Tryz.prog 358 = none := by kernel_rfl
@[go_sem] theorem ar_358 : arrOf Tryz.prog 358 = none := by kernel_rfl
@[go_sem] theorem fk_358 : fieldsKnown Tryz.prog 358 = true := by kernel_rfl
@[go_sem] theorem sg_358 : sigOf Tryz.prog 358 = some [.int, .int] := by kernel_rfl
@[go_sem] theorem ze_358 : zeros Tryz.prog 358 = some [.sc (.int .i64 0), .sc (.int .i64 0)] := by kernel_rfl
@[go_sem] theorem by_358 : bytesOf Tryz.prog 358 = 16 := by kernel_rfl
@[go_sem] theorem sz_371 : szOf Tryz.prog 371 = 1 := by kernel_rfl
@[go_sem] theorem kn_371 : knownT Tryz.prog 371 = true := by kernel_rfl
@[go_sem] theorem ag_371 : aggOf Tryz.prog 371 = false := by kernel_rfl
@[go_sem] theorem us_371 : (Tryz.prog.underlying 371).isSome = true := by kernel_rfl
@[go_sem] theorem mp_371 : mapOf Tryz.prog 371 = some (3, .int .i64, 4) := by kernel_rfl
@[go_sem] theorem mi_371 : IMap Tryz.prog 371 (.sc (.bool false)) := ⟨_, _, mp_371, by kernel_rfl⟩
@[go_sem] theorem im_371 : isMapT Tryz.prog 371 = true := by kernel_rfl
@[go_sem] theorem by_371 : bytesOf Tryz.prog 371 = 8 := by kernel_rfl
@[go_sem] theorem sz_373 : szOf Tryz.prog 373 = 3 := by kernel_rfl
@[go_sem] theorem kn_373 : knownT Tryz.prog 373 = true := by kernel_rfl
@[go_sem] theorem ag_373 : aggOf Tryz.prog 373 = true := by kernel_rfl
@[go_sem] theorem us_373 : (Tryz.prog.underlying 373).isSome = true := by kernel_rfl
@[go_sem] theorem fd_373_0 : fieldOf Tryz.prog 373 0 = some (0, 3) := by kernel_rfl
@[go_sem] theorem fd_373_1 : fieldOf Tryz.prog 373 1 = some (1, 3) := by kernel_rfl
@[go_sem] theorem fd_373_2 : fieldOf Tryz.prog 373 2 = some (2, 3) := by kernel_rfl
@[go_sem] theorem el_373 : Go.PA.elemOf Tryz.prog 373 = none := by kernel_rfl
@[go_sem] theorem ar_373 : arrOf Tryz.prog 373 = none := by kernel_rfl
@[go_sem] theorem fk_373 : fieldsKnown Tryz.prog 373 = true := by kernel_rfl
@[go_sem] theorem sg_373 : sigOf Tryz.prog 373 = some [.int, .int, .int] := by kernel_rfl
@[go_sem] theorem ze_373 : zeros Tryz.prog 373 = some [.sc (.int .i64 0), .sc (.int .i64 0), .sc (.int .i64 0)] := by kernel_rfl
@[go_sem] theorem by_373 : bytesOf Tryz.prog 373 = 24 := by kernel_rfl
@[go_sem] theorem sz_374 : szOf Tryz.prog 374 = 3 := by kernel_rfl
@[go_sem] theorem kn_374 : knownT Tryz.prog 374 = true := by kernel_rfl
@[go_sem] theorem ag_374 : aggOf Tryz.prog 374 = true := by kernel_rfl
@[go_sem] theorem us_374 : (Tryz.prog.underlying 374).isSome = true := by kernel_rfl
@[go_sem] theorem fd_374_0 : fieldOf Tryz.prog 374 0 = some (0, 3) := by kernel_rfl
@[go_sem] theorem fd_374_1 : fieldOf Tryz.prog 374 1 = some (1, 3) := by kernel_rfl
@[go_sem] theorem fd_374_2 : fieldOf Tryz.prog 374 2 = some (2, 3) := by kernel_rfl
@[go_sem] theorem el_374 : Go.PA.elemOf Tryz.prog 374 = none := by kernel_rfl
@[go_sem] theorem ar_374 : arrOf Tryz.prog 374 = none := by kernel_rfl
@[go_sem] theorem fk_374 : fieldsKnown Tryz.prog 374 = true := by kernel_rfl
@[go_sem] theorem sg_374 : sigOf Tryz.prog 374 = some [.int, .int, .int] := by kernel_rfl
@[go_sem] theorem ze_374 : zeros Tryz.prog 374 = some [.sc (.int .i64 0), .sc (.int .i64 0), .sc (.int .i64 0)] := by kernel_rfl
@[go_sem] theorem by_374 : bytesOf Tryz.prog 374 = 24 := by kernel_rfl
@[go_sem] theorem sz_389 : szOf Tryz.prog 389 = 32 := by kernel_rfl
@[go_sem] theorem kn_389 : knownT Tryz.prog 389 = true := by kernel_rfl
@[go_sem] theorem ag_389 : aggOf Tryz.prog 389 = true := by kernel_rfl
@[go_sem] theorem us_389 : (Tryz.prog.underlying 389).isSome = true := by kernel_rfl
@[go_sem] theorem el_389 : Go.PA.elemOf Tryz.prog 389 = none := by kernel_rfl
@[go_sem] theorem ar_389 : arrOf Tryz.prog 389 = some (32, 5) := by kernel_rfl
@[go_sem] theorem fk_389 : fieldsKnown Tryz.prog 389 = true := by kernel_rfl
@[go_sem] theorem fd_389_0 : fieldOf Tryz.prog 389 0 = none := by kernel_rfl
@[go_sem] theorem fd_389_1 : fieldOf Tryz.prog 389 1 = none := by kernel_rfl
@[go_sem] theorem fd_389_2 : fieldOf Tryz.prog 389 2 = none := by kernel_rfl
@[go_sem] theorem fd_389_3 : fieldOf Tryz.prog 389 3 = none := by kernel_rfl
@[go_sem] theorem fd_389_4 : fieldOf Tryz.prog 389 4 = none := by kernel_rfl
@[go_sem] theorem fd_389_5 : fieldOf Tryz.prog 389 5 = none := by kernel_rfl
@[go_sem] theorem fd_389_6 : fieldOf Tryz.prog 389 6 = none := by kernel_rfl
@[go_sem] theorem fd_389_7 : fieldOf Tryz.prog 389 7 = none := by kernel_rfl
@[go_sem] theorem ze_389 : zeros Tryz.prog 389 = some [.sc (.int .u8 0), .sc (.int .u8 0), .sc (.int .u8 0), .sc (.int .u8 0), .sc (.int .u8 0), .sc (.int .u8 0), .sc (.int .u8 0), .sc (.int .u8 0), .sc (.int .u8 0), .sc (.int .u8 0), .sc (.int .u8 0), .sc (.int .u8 0), .sc (.int .u8 0), .sc (.int .u8 0), .sc (.int .u8 0), .sc (.int .u8 0), .sc (.int .u8 0), .sc (.int .u8 0), .sc (.int .u8 0), .sc (.int .u8 0), .sc (.int .u8 0), .sc (.int .u8 0), .sc (.int .u8 0), .sc (.int .u8 0), .sc (.int .u8 0), .sc (.int .u8 0), .sc (.int .u8 0), .sc (.int .u8 0), .sc (.int .u8 0), .sc (.int .u8 0), .sc (.int .u8 0), .sc (.int .u8 0)] := by kernel_rfl
@[go_sem] theorem by_389 : bytesOf Tryz.prog 389 = 32 := by kernel_rfl
@[go_sem] theorem sz_390 : szOf Tryz.prog 390 = 64 := by kernel_rfl
@[go_sem] theorem kn_390 : knownT Tryz.prog 390 = true := by kernel_rfl
@[go_sem] theorem ag_390 : aggOf Tryz.prog 390 = true := by kernel_rfl
@[go_sem] theorem us_390 : (Tryz.prog.underlying 390).isSome = true := by kernel_rfl
@[go_sem] theorem el_390 : Go.PA.elemOf Tryz.prog 390 = none := by kernel_rfl
@[go_sem] theorem ar_390 : arrOf Tryz.prog 390 = some (64, 5) := by kernel_rfl
@[go_sem] theorem fk_390 : fieldsKnown Tryz.prog 390 = true := by kernel_rfl
@[go_sem] theorem fd_390_0 : fieldOf Tryz.prog 390 0 = none := by kernel_rfl
@[go_sem] theorem fd_390_1 : fieldOf Tryz.prog 390 1 = none := by kernel_rfl
@[go_sem] theorem fd_390_2 : fieldOf Tryz.prog 390 2 = none := by kernel_rfl
@[go_sem] theorem fd_390_3 : fieldOf Tryz.prog 390 3 = none := by kernel_rfl
@[go_sem] theorem fd_390_4 : fieldOf Tryz.prog 390 4 = none := by kernel_rfl
@[go_sem] theorem fd_390_5 : fieldOf Tryz.prog 390 5 = none := by kernel_rfl
@[go_sem] theorem fd_390_6 : fieldOf Tryz.prog 390 6 = none := by kernel_rfl
@[go_sem] theorem fd_390_7 : fieldOf Tryz.prog 390 7 = none := by kernel_rfl
theorem ze_390 : zeros Tryz.prog 390 = some (List.replicate 64 (.sc (.int .u8 0))) := by kernel_rfl
@[go_sem] theorem by_390 : bytesOf Tryz.prog 390 = 64 := by kernel_rfl
@[go_sem] theorem en_3 : enterable Tryz.prog 3 = true := by kernel_rfl -- treasury/treasurytop.TopCarries
@[go_sem] theorem en_4 : enterable Tryz.prog 4 = true := by kernel_rfl -- treasury/treasuryplay.New
@[go_sem] theorem en_5 : enterable Tryz.prog 5 = true := by kernel_rfl -- (*treasury/treasuryplay.Src).Opens
@[go_sem] theorem en_6 : enterable Tryz.prog 6 = true := by kernel_rfl -- (*treasury/treasuryplay.Src).Lefts
@[go_sem] theorem en_7 : enterable Tryz.prog 7 = true := by kernel_rfl -- treasury/carryover.Carry
@[go_sem] theorem en_8 : enterable Tryz.prog 8 = true := by kernel_rfl -- treasury/carryover.Lines
@[go_sem] theorem en_9 : enterable Tryz.prog 9 = true := by kernel_rfl -- treasury/treasurytop.awake45
@[go_sem] theorem en_10 : enterable Tryz.prog 10 = true := by kernel_rfl -- (*treasury/treasuryplay.Src).N
@[go_sem] theorem en_11 : enterable Tryz.prog 11 = true := by kernel_rfl -- (*treasury/treasuryplay.Src).Range
@[go_sem] theorem en_12 : enterable Tryz.prog 12 = true := by kernel_rfl -- (*treasury/treasuryplay.Src).Text
@[go_sem] theorem en_13 : enterable Tryz.prog 13 = true := by kernel_rfl -- (*treasury/treasuryplay.Src).Pick
@[go_sem] theorem en_14 : enterable Tryz.prog 14 = true := by kernel_rfl -- treasury/carryover.Check
@[go_sem] theorem en_15 : enterable Tryz.prog 15 = true := by kernel_rfl -- slices.Clone[[]treasury/api.Open,treasury/api.Open]
@[go_sem] theorem en_16 : enterable Tryz.prog 16 = true := by kernel_rfl -- slices.SortFunc[[]treasury/api.Open,treasury/api.Open]
@[go_sem] theorem en_17 : enterable Tryz.prog 17 = true := by kernel_rfl -- treasury/carryover.compare
@[go_sem] theorem en_18 : enterable Tryz.prog 18 = true := by kernel_rfl -- treasury/carryover.among
@[go_sem] theorem en_19 : enterable Tryz.prog 19 = true := by kernel_rfl -- slices.ContainsFunc[[]treasury/api.Open,treasury/api.Open]
@[go_sem] theorem en_20 : enterable Tryz.prog 20 = true := by kernel_rfl -- treasury/carryover.Lines$1
@[go_sem] theorem en_21 : enterable Tryz.prog 21 = true := by kernel_rfl -- treasury/carryover.open
@[go_sem] theorem en_22 : enterable Tryz.prog 22 = true := by kernel_rfl -- slices.SortStableFunc[[]treasury/api.Open,treasury/api.Open]
@[go_sem] theorem en_23 : enterable Tryz.prog 23 = true := by kernel_rfl -- treasury/carryover.Lines$2
@[go_sem] theorem en_24 : enterable Tryz.prog 24 = true := by kernel_rfl -- treasury/classification.Compare
@[go_sem] theorem en_25 : enterable Tryz.prog 25 = true := by kernel_rfl -- slices.ContainsFunc[[]treasury/api.Carry,treasury/api.Carry]
@[go_sem] theorem en_26 : enterable Tryz.prog 26 = true := by kernel_rfl -- treasury/carryover.Lines$3
@[go_sem] theorem en_27 : enterable Tryz.prog 27 = true := by kernel_rfl -- treasury/money.Valid
@[go_sem] theorem en_28 : enterable Tryz.prog 28 = true := by kernel_rfl -- treasury/court.Start
@[go_sem] theorem en_29 : enterable Tryz.prog 29 = true := by kernel_rfl -- treasury/court.Run
@[go_sem] theorem en_30 : enterable Tryz.prog 30 = true := by kernel_rfl -- treasury/account.Total
@[go_sem] theorem en_31 : enterable Tryz.prog 31 = true := by kernel_rfl -- treasury/ledger.Of
@[go_sem] theorem en_32 : enterable Tryz.prog 32 = true := by kernel_rfl -- treasury/court.Clean
@[go_sem] theorem en_33 : enterable Tryz.prog 33 = true := by kernel_rfl -- treasury/carryover.code
@[go_sem] theorem en_34 : enterable Tryz.prog 34 = true := by kernel_rfl -- slices.pdqsortCmpFunc[treasury/api.Open]
@[go_sem] theorem en_35 : enterable Tryz.prog 35 = true := by kernel_rfl -- math/bits.Len
@[go_sem] theorem en_36 : enterable Tryz.prog 36 = true := by kernel_rfl -- cmp.Or[int]
@[go_sem] theorem en_37 : enterable Tryz.prog 37 = true := by kernel_rfl -- cmp.Compare[int]
@[go_sem] theorem en_38 : enterable Tryz.prog 38 = true := by kernel_rfl -- slices.IndexFunc[[]treasury/api.Open,treasury/api.Open]
@[go_sem] theorem en_39 : enterable Tryz.prog 39 = true := by kernel_rfl -- slices.stableCmpFunc[treasury/api.Open]
@[go_sem] theorem en_40 : enterable Tryz.prog 40 = true := by kernel_rfl -- treasury/classification.Parts
@[go_sem] theorem en_41 : enterable Tryz.prog 41 = true := by kernel_rfl -- cmp.Compare[string]
@[go_sem] theorem en_42 : enterable Tryz.prog 42 = true := by kernel_rfl -- slices.Compare[[]int,int]
@[go_sem] theorem en_43 : enterable Tryz.prog 43 = true := by kernel_rfl -- slices.IndexFunc[[]treasury/api.Carry,treasury/api.Carry]
@[go_sem] theorem en_44 : enterable Tryz.prog 44 = true := by kernel_rfl -- treasury/account.Open
@[go_sem] theorem en_45 : enterable Tryz.prog 45 = true := by kernel_rfl -- treasury/register.Add
@[go_sem] theorem en_46 : enterable Tryz.prog 46 = true := by kernel_rfl -- treasury/court.copied
@[go_sem] theorem en_47 : enterable Tryz.prog 47 = true := by kernel_rfl -- treasury/court.Do
@[go_sem] theorem en_48 : enterable Tryz.prog 48 = true := by kernel_rfl -- treasury/account.Check
@[go_sem] theorem en_49 : enterable Tryz.prog 49 = true := by kernel_rfl -- treasury/ledger.Check
@[go_sem] theorem en_50 : enterable Tryz.prog 50 = true := by kernel_rfl -- treasury/ledger.Books
@[go_sem] theorem en_51 : enterable Tryz.prog 51 = true := by kernel_rfl -- treasury/ledger.of
@[go_sem] theorem en_52 : enterable Tryz.prog 52 = true := by kernel_rfl -- treasury/court.Audit
@[go_sem] theorem en_53 : enterable Tryz.prog 53 = true := by kernel_rfl -- slices.insertionSortCmpFunc[treasury/api.Open]
@[go_sem] theorem en_54 : enterable Tryz.prog 54 = true := by kernel_rfl -- slices.heapSortCmpFunc[treasury/api.Open]
@[go_sem] theorem en_55 : enterable Tryz.prog 55 = true := by kernel_rfl -- slices.breakPatternsCmpFunc[treasury/api.Open]
@[go_sem] theorem en_56 : enterable Tryz.prog 56 = true := by kernel_rfl -- slices.choosePivotCmpFunc[treasury/api.Open]
@[go_sem] theorem en_57 : enterable Tryz.prog 57 = true := by kernel_rfl -- slices.reverseRangeCmpFunc[treasury/api.Open]
@[go_sem] theorem en_58 : enterable Tryz.prog 58 = true := by kernel_rfl -- slices.partialInsertionSortCmpFunc[treasury/api.Open]
@[go_sem] theorem en_59 : enterable Tryz.prog 59 = true := by kernel_rfl -- slices.partitionEqualCmpFunc[treasury/api.Open]
@[go_sem] theorem en_60 : enterable Tryz.prog 60 = true := by kernel_rfl -- slices.partitionCmpFunc[treasury/api.Open]
@[go_sem] theorem en_61 : enterable Tryz.prog 61 = true := by kernel_rfl -- math/bits.Len32
@[go_sem] theorem en_62 : enterable Tryz.prog 62 = true := by kernel_rfl -- math/bits.Len64
@[go_sem] theorem en_63 : enterable Tryz.prog 63 = true := by kernel_rfl -- cmp.isNaN[int]
@[go_sem] theorem en_64 : enterable Tryz.prog 64 = true := by kernel_rfl -- slices.symMergeCmpFunc[treasury/api.Open]
@[go_sem] theorem en_65 : enterable Tryz.prog 65 = true := by kernel_rfl -- strings.SplitSeq
@[go_sem] theorem en_66 : enterable Tryz.prog 66 = true := by kernel_rfl -- strconv.Atoi
@[go_sem] theorem en_67 : enterable Tryz.prog 67 = true := by kernel_rfl -- strconv.Itoa
@[go_sem] theorem en_68 : enterable Tryz.prog 68 = true := by kernel_rfl -- cmp.isNaN[string]
@[go_sem] theorem en_69 : enterable Tryz.prog 69 = true := by kernel_rfl -- treasury/account.numbered
@[go_sem] theorem en_70 : enterable Tryz.prog 70 = true := by kernel_rfl -- treasury/register.Check
@[go_sem] theorem en_71 : enterable Tryz.prog 71 = true := by kernel_rfl -- slices.BinarySearchFunc[[]treasury/api.Security,treasury/api.Security,int]
@[go_sem] theorem en_72 : enterable Tryz.prog 72 = true := by kernel_rfl -- treasury/register.Add$1
@[go_sem] theorem en_73 : enterable Tryz.prog 73 = true := by kernel_rfl -- treasury/register.Security
@[go_sem] theorem en_74 : enterable Tryz.prog 74 = true := by kernel_rfl -- treasury/register.Copy
@[go_sem] theorem en_75 : enterable Tryz.prog 75 = true := by kernel_rfl -- slices.Insert[[]treasury/api.Security,treasury/api.Security]
@[go_sem] theorem en_76 : enterable Tryz.prog 76 = true := by kernel_rfl -- slices.Clone[[]treasury/api.Sub,treasury/api.Sub]
@[go_sem] theorem en_77 : enterable Tryz.prog 77 = true := by kernel_rfl -- slices.Clone[[]treasury/api.Entry,treasury/api.Entry]
@[go_sem] theorem en_78 : enterable Tryz.prog 78 = true := by kernel_rfl -- slices.Clone[[]treasury/api.Payment,treasury/api.Payment]
@[go_sem] theorem en_79 : enterable Tryz.prog 79 = true := by kernel_rfl -- slices.Clone[[]int,int]
@[go_sem] theorem en_80 : enterable Tryz.prog 80 = true := by kernel_rfl -- slices.Clone[[]treasury/api.Item,treasury/api.Item]
@[go_sem] theorem en_81 : enterable Tryz.prog 81 = true := by kernel_rfl -- slices.Clone[[]treasury/api.Claim,treasury/api.Claim]
@[go_sem] theorem en_82 : enterable Tryz.prog 82 = true := by kernel_rfl -- slices.Clone[[]treasury/api.Income,treasury/api.Income]
@[go_sem] theorem en_83 : enterable Tryz.prog 83 = true := by kernel_rfl -- slices.Clone[[]treasury/api.Match,treasury/api.Match]
@[go_sem] theorem en_84 : enterable Tryz.prog 84 = true := by kernel_rfl -- slices.Clone[[]treasury/api.Posting,treasury/api.Posting]
@[go_sem] theorem en_85 : enterable Tryz.prog 85 = true := by kernel_rfl -- (*treasury/court.clerk).do
@[go_sem] theorem en_86 : enterable Tryz.prog 86 = true := by kernel_rfl -- (*treasury/court.clerk).book
@[go_sem] theorem en_87 : enterable Tryz.prog 87 = true := by kernel_rfl -- treasury/account.numbers
@[go_sem] theorem en_88 : enterable Tryz.prog 88 = true := by kernel_rfl -- treasury/account.replay
@[go_sem] theorem en_89 : enterable Tryz.prog 89 = true := by kernel_rfl -- treasury/account.all
@[go_sem] theorem en_90 : enterable Tryz.prog 90 = true := by kernel_rfl -- slices.Equal[[]treasury/api.Sub,treasury/api.Sub]
@[go_sem] theorem en_91 : enterable Tryz.prog 91 = true := by kernel_rfl -- slices.ContainsFunc[[]treasury/api.Posting,treasury/api.Posting]
@[go_sem] theorem en_92 : enterable Tryz.prog 92 = true := by kernel_rfl -- treasury/ledger.Check$1
@[go_sem] theorem en_93 : enterable Tryz.prog 93 = true := by kernel_rfl -- treasury/ledger.Posting
@[go_sem] theorem en_94 : enterable Tryz.prog 94 = true := by kernel_rfl -- treasury/ledger.of$1
@[go_sem] theorem en_95 : enterable Tryz.prog 95 = true := by kernel_rfl -- treasury/ledger.among
@[go_sem] theorem en_96 : enterable Tryz.prog 96 = true := by kernel_rfl -- treasury/court.checks
@[go_sem] theorem en_97 : enterable Tryz.prog 97 = true := by kernel_rfl -- treasury/court.differ[treasury/api.Income,treasury/api.Entry]
@[go_sem] theorem en_98 : enterable Tryz.prog 98 = true := by kernel_rfl -- treasury/court.only
@[go_sem] theorem en_99 : enterable Tryz.prog 99 = true := by kernel_rfl -- treasury/court.income
@[go_sem] theorem en_100 : enterable Tryz.prog 100 = true := by kernel_rfl -- treasury/court.Audit$1
@[go_sem] theorem en_101 : enterable Tryz.prog 101 = true := by kernel_rfl -- slices.DeleteFunc[[]treasury/api.Move,treasury/api.Move]
@[go_sem] theorem en_102 : enterable Tryz.prog 102 = true := by kernel_rfl -- slices.Clone[[]treasury/api.Move,treasury/api.Move]
@[go_sem] theorem en_103 : enterable Tryz.prog 103 = true := by kernel_rfl -- treasury/court.Audit$2
@[go_sem] theorem en_104 : enterable Tryz.prog 104 = true := by kernel_rfl -- treasury/court.Audit$3
@[go_sem] theorem en_105 : enterable Tryz.prog 105 = true := by kernel_rfl -- treasury/court.differ[treasury/api.Move,treasury/api.Entry]
@[go_sem] theorem en_106 : enterable Tryz.prog 106 = true := by kernel_rfl -- treasury/court.security
@[go_sem] theorem en_107 : enterable Tryz.prog 107 = true := by kernel_rfl -- treasury/court.differ[treasury/api.Posting,treasury/api.Posting]
@[go_sem] theorem en_108 : enterable Tryz.prog 108 = true := by kernel_rfl -- treasury/court.postings
@[go_sem] theorem en_109 : enterable Tryz.prog 109 = true := by kernel_rfl -- treasury/court.Audit$4
@[go_sem] theorem en_110 : enterable Tryz.prog 110 = true := by kernel_rfl -- slices.siftDownCmpFunc[treasury/api.Open]
@[go_sem] theorem en_111 : enterable Tryz.prog 111 = true := by kernel_rfl -- slices.nextPowerOfTwo
@[go_sem] theorem en_112 : enterable Tryz.prog 112 = true := by kernel_rfl -- (*slices.xorshift).Next
@[go_sem] theorem en_113 : enterable Tryz.prog 113 = true := by kernel_rfl -- slices.medianAdjacentCmpFunc[treasury/api.Open]
@[go_sem] theorem en_114 : enterable Tryz.prog 114 = true := by kernel_rfl -- slices.medianCmpFunc[treasury/api.Open]
@[go_sem] theorem en_115 : enterable Tryz.prog 115 = true := by kernel_rfl -- slices.rotateCmpFunc[treasury/api.Open]
@[go_sem] theorem en_116 : enterable Tryz.prog 116 = true := by kernel_rfl -- strings.splitSeq
@[go_sem] theorem en_118 : enterable Tryz.prog 118 = true := by kernel_rfl -- strconv.toError
@[go_sem] theorem en_120 : enterable Tryz.prog 120 = true := by kernel_rfl -- treasury/account.among
@[go_sem] theorem en_121 : enterable Tryz.prog 121 = true := by kernel_rfl -- treasury/register.replay
@[go_sem] theorem en_122 : enterable Tryz.prog 122 = true := by kernel_rfl -- treasury/register.all
@[go_sem] theorem en_123 : enterable Tryz.prog 123 = true := by kernel_rfl -- slices.Equal[[]treasury/api.Holding,treasury/api.Holding]
@[go_sem] theorem en_124 : enterable Tryz.prog 124 = true := by kernel_rfl -- treasury/register.among
@[go_sem] theorem en_125 : enterable Tryz.prog 125 = true := by kernel_rfl -- slices.Clone[[]treasury/api.Security,treasury/api.Security]
@[go_sem] theorem en_126 : enterable Tryz.prog 126 = true := by kernel_rfl -- slices.Clone[[]treasury/api.Holding,treasury/api.Holding]
@[go_sem] theorem en_128 : enterable Tryz.prog 128 = true := by kernel_rfl -- slices.rotateRight[treasury/api.Security]
@[go_sem] theorem en_129 : enterable Tryz.prog 129 = true := by kernel_rfl -- (*treasury/court.clerk).receive
@[go_sem] theorem en_130 : enterable Tryz.prog 130 = true := by kernel_rfl -- (*treasury/court.clerk).desk
@[go_sem] theorem en_131 : enterable Tryz.prog 131 = true := by kernel_rfl -- treasury/recall.Order
@[go_sem] theorem en_132 : enterable Tryz.prog 132 = true := by kernel_rfl -- treasury/recall.Send
@[go_sem] theorem en_133 : enterable Tryz.prog 133 = true := by kernel_rfl -- treasury/recall.Settle
@[go_sem] theorem en_134 : enterable Tryz.prog 134 = true := by kernel_rfl -- treasury/recall.Return
@[go_sem] theorem en_135 : enterable Tryz.prog 135 = true := by kernel_rfl -- treasury/recall.Recall
@[go_sem] theorem en_136 : enterable Tryz.prog 136 = true := by kernel_rfl -- treasury/register.Issue
@[go_sem] theorem en_137 : enterable Tryz.prog 137 = true := by kernel_rfl -- (*treasury/court.clerk).debt
@[go_sem] theorem en_138 : enterable Tryz.prog 138 = true := by kernel_rfl -- treasury/register.Redeem
@[go_sem] theorem en_139 : enterable Tryz.prog 139 = true := by kernel_rfl -- (*treasury/court.clerk).move
@[go_sem] theorem en_140 : enterable Tryz.prog 140 = true := by kernel_rfl -- treasury/ledger.Post
@[go_sem] theorem en_141 : enterable Tryz.prog 141 = true := by kernel_rfl -- treasury/account.fresh
@[go_sem] theorem en_142 : enterable Tryz.prog 142 = true := by kernel_rfl -- (*treasury/account.teller).post
@[go_sem] theorem en_143 : enterable Tryz.prog 143 = true := by kernel_rfl -- slices.IndexFunc[[]treasury/api.Posting,treasury/api.Posting]
@[go_sem] theorem en_144 : enterable Tryz.prog 144 = true := by kernel_rfl -- treasury/ledger.entity
@[go_sem] theorem en_145 : enterable Tryz.prog 145 = true := by kernel_rfl -- treasury/ledger.Class
@[go_sem] theorem en_146 : enterable Tryz.prog 146 = true := by kernel_rfl -- treasury/recall.Check
@[go_sem] theorem en_147 : enterable Tryz.prog 147 = true := by kernel_rfl -- treasury/receipt.Check
@[go_sem] theorem en_148 : enterable Tryz.prog 148 = true := by kernel_rfl -- slices.DeleteFunc[[]treasury/api.Entry,treasury/api.Entry]
@[go_sem] theorem en_149 : enterable Tryz.prog 149 = true := by kernel_rfl -- treasury/court.only$1
@[go_sem] theorem en_150 : enterable Tryz.prog 150 = true := by kernel_rfl -- slices.IndexFunc[[]treasury/api.Move,treasury/api.Move]
@[go_sem] theorem en_151 : enterable Tryz.prog 151 = true := by kernel_rfl -- treasury/court.outside
@[go_sem] theorem en_152 : enterable Tryz.prog 152 = true := by kernel_rfl -- treasury/court.posting
@[go_sem] theorem en_153 : enterable Tryz.prog 153 = true := by kernel_rfl -- slices.order2CmpFunc[treasury/api.Open]
@[go_sem] theorem en_154 : enterable Tryz.prog 154 = true := by kernel_rfl -- slices.swapRangeCmpFunc[treasury/api.Open]
@[go_sem] theorem en_155 : enterable Tryz.prog 155 = true := by kernel_rfl -- strings.splitSeq$1
@[go_sem] theorem en_156 : enterable Tryz.prog 156 = true := by kernel_rfl -- unicode/utf8.DecodeRuneInString
@[go_sem] theorem en_157 : enterable Tryz.prog 157 = true := by kernel_rfl -- strings.Index
@[go_sem] theorem en_159 : enterable Tryz.prog 159 = true := by kernel_rfl -- strconv.syntaxError
@[go_sem] theorem en_160 : enterable Tryz.prog 160 = true := by kernel_rfl -- strconv.rangeError
@[go_sem] theorem en_161 : enterable Tryz.prog 161 = true := by kernel_rfl -- strconv.baseError
@[go_sem] theorem en_162 : enterable Tryz.prog 162 = true := by kernel_rfl -- strconv.bitSizeError
@[go_sem] theorem en_164 : enterable Tryz.prog 164 = true := by kernel_rfl -- (*treasury/register.clerk).do
@[go_sem] theorem en_165 : enterable Tryz.prog 165 = true := by kernel_rfl -- slices.rotateLeft[treasury/api.Security]
@[go_sem] theorem en_166 : enterable Tryz.prog 166 = true := by kernel_rfl -- treasury/receipt.Take
@[go_sem] theorem en_167 : enterable Tryz.prog 167 = true := by kernel_rfl -- treasury/batch.Add
@[go_sem] theorem en_168 : enterable Tryz.prog 168 = true := by kernel_rfl -- treasury/account.Balance
@[go_sem] theorem en_169 : enterable Tryz.prog 169 = true := by kernel_rfl -- slices.ContainsFunc[[]treasury/api.Entry,treasury/api.Entry]
@[go_sem] theorem en_170 : enterable Tryz.prog 170 = true := by kernel_rfl -- treasury/recall.Order$1
@[go_sem] theorem en_171 : enterable Tryz.prog 171 = true := by kernel_rfl -- treasury/recall.copied
@[go_sem] theorem en_172 : enterable Tryz.prog 172 = true := by kernel_rfl -- treasury/recall.place
@[go_sem] theorem en_173 : enterable Tryz.prog 173 = true := by kernel_rfl -- slices.Insert[[]treasury/api.Item,treasury/api.Item]
@[go_sem] theorem en_174 : enterable Tryz.prog 174 = true := by kernel_rfl -- treasury/recall.lastDay
@[go_sem] theorem en_175 : enterable Tryz.prog 175 = true := by kernel_rfl -- treasury/calendar.Business
@[go_sem] theorem en_176 : enterable Tryz.prog 176 = true := by kernel_rfl -- treasury/batch.Ready
@[go_sem] theorem en_177 : enterable Tryz.prog 177 = true := by kernel_rfl -- treasury/account.Post
@[go_sem] theorem en_178 : enterable Tryz.prog 178 = true := by kernel_rfl -- treasury/account.Next
@[go_sem] theorem en_179 : enterable Tryz.prog 179 = true := by kernel_rfl -- treasury/batch.Take
@[go_sem] theorem en_180 : enterable Tryz.prog 180 = true := by kernel_rfl -- treasury/recall.change
@[go_sem] theorem en_181 : enterable Tryz.prog 181 = true := by kernel_rfl -- treasury/recall.Settle$1
@[go_sem] theorem en_182 : enterable Tryz.prog 182 = true := by kernel_rfl -- treasury/recall.Return$1
@[go_sem] theorem en_183 : enterable Tryz.prog 183 = true := by kernel_rfl -- treasury/recall.Recall$1
@[go_sem] theorem en_184 : enterable Tryz.prog 184 = true := by kernel_rfl -- treasury/batch.Drop
@[go_sem] theorem en_185 : enterable Tryz.prog 185 = true := by kernel_rfl -- treasury/register.move
@[go_sem] theorem en_186 : enterable Tryz.prog 186 = true := by kernel_rfl -- treasury/ledger.Last
@[go_sem] theorem en_187 : enterable Tryz.prog 187 = true := by kernel_rfl -- treasury/account.positive
@[go_sem] theorem en_188 : enterable Tryz.prog 188 = true := by kernel_rfl -- (*treasury/account.teller).known
@[go_sem] theorem en_189 : enterable Tryz.prog 189 = true := by kernel_rfl -- (*treasury/account.teller).add
@[go_sem] theorem en_190 : enterable Tryz.prog 190 = true := by kernel_rfl -- treasury/batch.Check
@[go_sem] theorem en_191 : enterable Tryz.prog 191 = true := by kernel_rfl -- treasury/recall.right
@[go_sem] theorem en_192 : enterable Tryz.prog 192 = true := by kernel_rfl -- slices.Equal[[]int,int]
@[go_sem] theorem en_193 : enterable Tryz.prog 193 = true := by kernel_rfl -- treasury/receipt.claims
@[go_sem] theorem en_194 : enterable Tryz.prog 194 = true := by kernel_rfl -- treasury/receipt.incomes
@[go_sem] theorem en_195 : enterable Tryz.prog 195 = true := by kernel_rfl -- treasury/receipt.matched
@[go_sem] theorem en_196 : enterable Tryz.prog 196 = true := by kernel_rfl -- slices.IndexFunc[[]treasury/api.Entry,treasury/api.Entry]
@[go_sem] theorem en_197 : enterable Tryz.prog 197 = true := by kernel_rfl -- unicode/utf8.decodeRuneInStringSlow
@[go_sem] theorem en_201 : enterable Tryz.prog 201 = true := by kernel_rfl -- errors.New
@[go_sem] theorem en_206 : enterable Tryz.prog 206 = true := by kernel_rfl -- treasury/register.find
@[go_sem] theorem en_207 : enterable Tryz.prog 207 = true := by kernel_rfl -- treasury/register.strange
@[go_sem] theorem en_208 : enterable Tryz.prog 208 = true := by kernel_rfl -- (*treasury/register.clerk).held
@[go_sem] theorem en_209 : enterable Tryz.prog 209 = true := by kernel_rfl -- (*treasury/register.clerk).outstanding
@[go_sem] theorem en_210 : enterable Tryz.prog 210 = true := by kernel_rfl -- (*treasury/register.clerk).add
@[go_sem] theorem en_211 : enterable Tryz.prog 211 = true := by kernel_rfl -- slices.Reverse[[]treasury/api.Security,treasury/api.Security]
@[go_sem] theorem en_212 : enterable Tryz.prog 212 = true := by kernel_rfl -- treasury/receipt.income
@[go_sem] theorem en_213 : enterable Tryz.prog 213 = true := by kernel_rfl -- treasury/receipt.copied
@[go_sem] theorem en_214 : enterable Tryz.prog 214 = true := by kernel_rfl -- treasury/receipt.claimAt
@[go_sem] theorem en_215 : enterable Tryz.prog 215 = true := by kernel_rfl -- treasury/receipt.match
@[go_sem] theorem en_216 : enterable Tryz.prog 216 = true := by kernel_rfl -- treasury/receipt.exact
@[go_sem] theorem en_217 : enterable Tryz.prog 217 = true := by kernel_rfl -- treasury/receipt.open
@[go_sem] theorem en_218 : enterable Tryz.prog 218 = true := by kernel_rfl -- slices.BinarySearch[[]int,int]
@[go_sem] theorem en_219 : enterable Tryz.prog 219 = true := by kernel_rfl -- treasury/batch.Payment
@[go_sem] theorem en_220 : enterable Tryz.prog 220 = true := by kernel_rfl -- treasury/batch.wait
@[go_sem] theorem en_221 : enterable Tryz.prog 221 = true := by kernel_rfl -- treasury/batch.Copy
@[go_sem] theorem en_222 : enterable Tryz.prog 222 = true := by kernel_rfl -- slices.Insert[[]int,int]
@[go_sem] theorem en_223 : enterable Tryz.prog 223 = true := by kernel_rfl -- slices.IndexFunc[[]treasury/api.Sub,treasury/api.Sub]
@[go_sem] theorem en_224 : enterable Tryz.prog 224 = true := by kernel_rfl -- treasury/account.Balance$1
@[go_sem] theorem en_225 : enterable Tryz.prog 225 = true := by kernel_rfl -- treasury/recall.copyAccount
@[go_sem] theorem en_226 : enterable Tryz.prog 226 = true := by kernel_rfl -- slices.BinarySearchFunc[[]treasury/api.Item,treasury/api.Item,int]
@[go_sem] theorem en_227 : enterable Tryz.prog 227 = true := by kernel_rfl -- treasury/recall.place$1
@[go_sem] theorem en_229 : enterable Tryz.prog 229 = true := by kernel_rfl -- slices.rotateRight[treasury/api.Item]
@[go_sem] theorem en_230 : enterable Tryz.prog 230 = true := by kernel_rfl -- treasury/calendar.Valid
@[go_sem] theorem en_231 : enterable Tryz.prog 231 = true := by kernel_rfl -- slices.DeleteFunc[[]treasury/api.Payment,treasury/api.Payment]
@[go_sem] theorem en_232 : enterable Tryz.prog 232 = true := by kernel_rfl -- treasury/batch.Ready$1
@[go_sem] theorem en_233 : enterable Tryz.prog 233 = true := by kernel_rfl -- treasury/batch.Take$1
@[go_sem] theorem en_234 : enterable Tryz.prog 234 = true := by kernel_rfl -- slices.Contains[[]int,int]
@[go_sem] theorem en_235 : enterable Tryz.prog 235 = true := by kernel_rfl -- treasury/batch.Take$2
@[go_sem] theorem en_236 : enterable Tryz.prog 236 = true := by kernel_rfl -- treasury/batch.waits
@[go_sem] theorem en_237 : enterable Tryz.prog 237 = true := by kernel_rfl -- slices.Delete[[]treasury/api.Payment,treasury/api.Payment]
@[go_sem] theorem en_238 : enterable Tryz.prog 238 = true := by kernel_rfl -- (*treasury/account.teller).place
@[go_sem] theorem en_239 : enterable Tryz.prog 239 = true := by kernel_rfl -- treasury/batch.ordered
@[go_sem] theorem en_240 : enterable Tryz.prog 240 = true := by kernel_rfl -- treasury/batch.known
@[go_sem] theorem en_241 : enterable Tryz.prog 241 = true := by kernel_rfl -- treasury/batch.strange
@[go_sem] theorem en_242 : enterable Tryz.prog 242 = true := by kernel_rfl -- treasury/batch.twice
@[go_sem] theorem en_243 : enterable Tryz.prog 243 = true := by kernel_rfl -- treasury/batch.sent
@[go_sem] theorem en_244 : enterable Tryz.prog 244 = true := by kernel_rfl -- slices.Contains[[]treasury/api.Payment,treasury/api.Payment]
@[go_sem] theorem en_245 : enterable Tryz.prog 245 = true := by kernel_rfl -- treasury/recall.sent
@[go_sem] theorem en_246 : enterable Tryz.prog 246 = true := by kernel_rfl -- treasury/recall.moved
@[go_sem] theorem en_247 : enterable Tryz.prog 247 = true := by kernel_rfl -- treasury/receipt.Claim
@[go_sem] theorem en_248 : enterable Tryz.prog 248 = true := by kernel_rfl -- treasury/receipt.incomeAt
@[go_sem] theorem en_258 : enterable Tryz.prog 258 = true := by kernel_rfl -- math/bits.TrailingZeros
@[go_sem] theorem en_259 : enterable Tryz.prog 259 = true := by kernel_rfl -- slices.IndexFunc[[]treasury/api.Security,treasury/api.Security]
@[go_sem] theorem en_260 : enterable Tryz.prog 260 = true := by kernel_rfl -- treasury/register.find$1
@[go_sem] theorem en_261 : enterable Tryz.prog 261 = true := by kernel_rfl -- treasury/register.holder
@[go_sem] theorem en_262 : enterable Tryz.prog 262 = true := by kernel_rfl -- (*treasury/register.clerk).place
@[go_sem] theorem en_263 : enterable Tryz.prog 263 = true := by kernel_rfl -- slices.Insert[[]treasury/api.Holding,treasury/api.Holding]
@[go_sem] theorem en_264 : enterable Tryz.prog 264 = true := by kernel_rfl -- slices.Delete[[]treasury/api.Holding,treasury/api.Holding]
@[go_sem] theorem en_265 : enterable Tryz.prog 265 = true := by kernel_rfl -- treasury/receipt.among
@[go_sem] theorem en_266 : enterable Tryz.prog 266 = true := by kernel_rfl -- treasury/receipt.positive
@[go_sem] theorem en_267 : enterable Tryz.prog 267 = true := by kernel_rfl -- slices.IndexFunc[[]treasury/api.Claim,treasury/api.Claim]
@[go_sem] theorem en_268 : enterable Tryz.prog 268 = true := by kernel_rfl -- treasury/receipt.claimAt$1
@[go_sem] theorem en_269 : enterable Tryz.prog 269 = true := by kernel_rfl -- slices.DeleteFunc[[]int,int]
@[go_sem] theorem en_270 : enterable Tryz.prog 270 = true := by kernel_rfl -- treasury/receipt.exact$1
@[go_sem] theorem en_271 : enterable Tryz.prog 271 = true := by kernel_rfl -- slices.SortStableFunc[[]int,int]
@[go_sem] theorem en_272 : enterable Tryz.prog 272 = true := by kernel_rfl -- treasury/receipt.open$1
@[go_sem] theorem en_273 : enterable Tryz.prog 273 = true := by kernel_rfl -- cmp.Less[int]
@[go_sem] theorem en_274 : enterable Tryz.prog 274 = true := by kernel_rfl -- slices.isNaN[int]
@[go_sem] theorem en_275 : enterable Tryz.prog 275 = true := by kernel_rfl -- treasury/batch.among
@[go_sem] theorem en_276 : enterable Tryz.prog 276 = true := by kernel_rfl -- slices.BinarySearchFunc[[]treasury/api.Payment,treasury/api.Payment,treasury/api.Payment]
@[go_sem] theorem en_277 : enterable Tryz.prog 277 = true := by kernel_rfl -- treasury/batch.compare
@[go_sem] theorem en_278 : enterable Tryz.prog 278 = true := by kernel_rfl -- slices.Insert[[]treasury/api.Payment,treasury/api.Payment]
@[go_sem] theorem en_280 : enterable Tryz.prog 280 = true := by kernel_rfl -- slices.rotateRight[int]
@[go_sem] theorem en_281 : enterable Tryz.prog 281 = true := by kernel_rfl -- slices.rotateLeft[treasury/api.Item]
@[go_sem] theorem en_282 : enterable Tryz.prog 282 = true := by kernel_rfl -- slices.IndexFunc[[]treasury/api.Payment,treasury/api.Payment]
@[go_sem] theorem en_283 : enterable Tryz.prog 283 = true := by kernel_rfl -- slices.Index[[]int,int]
@[go_sem] theorem en_284 : enterable Tryz.prog 284 = true := by kernel_rfl -- treasury/batch.waits$1
@[go_sem] theorem en_285 : enterable Tryz.prog 285 = true := by kernel_rfl -- (*treasury/account.teller).place$1
@[go_sem] theorem en_286 : enterable Tryz.prog 286 = true := by kernel_rfl -- slices.ContainsFunc[[]treasury/api.Payment,treasury/api.Payment]
@[go_sem] theorem en_287 : enterable Tryz.prog 287 = true := by kernel_rfl -- treasury/batch.strange$1
@[go_sem] theorem en_288 : enterable Tryz.prog 288 = true := by kernel_rfl -- slices.Index[[]treasury/api.Payment,treasury/api.Payment]
@[go_sem] theorem en_289 : enterable Tryz.prog 289 = true := by kernel_rfl -- treasury/recall.sent$1
@[go_sem] theorem en_290 : enterable Tryz.prog 290 = true := by kernel_rfl -- treasury/recall.out
@[go_sem] theorem en_291 : enterable Tryz.prog 291 = true := by kernel_rfl -- slices.IndexFunc[[]treasury/api.Income,treasury/api.Income]
@[go_sem] theorem en_292 : enterable Tryz.prog 292 = true := by kernel_rfl -- treasury/receipt.incomeAt$1
@[go_sem] theorem en_295 : enterable Tryz.prog 295 = true := by kernel_rfl -- math/bits.TrailingZeros32
@[go_sem] theorem en_296 : enterable Tryz.prog 296 = true := by kernel_rfl -- math/bits.TrailingZeros64
@[go_sem] theorem en_297 : enterable Tryz.prog 297 = true := by kernel_rfl -- slices.BinarySearchFunc[[]treasury/api.Holding,treasury/api.Holding,treasury/register.key]
@[go_sem] theorem en_298 : enterable Tryz.prog 298 = true := by kernel_rfl -- (*treasury/register.clerk).place$1
@[go_sem] theorem en_299 : enterable Tryz.prog 299 = true := by kernel_rfl -- treasury/register.of
@[go_sem] theorem en_300 : enterable Tryz.prog 300 = true := by kernel_rfl -- (treasury/register.key).compare
@[go_sem] theorem en_302 : enterable Tryz.prog 302 = true := by kernel_rfl -- slices.rotateRight[treasury/api.Holding]
@[go_sem] theorem en_303 : enterable Tryz.prog 303 = true := by kernel_rfl -- slices.IndexFunc[[]int,int]
@[go_sem] theorem en_304 : enterable Tryz.prog 304 = true := by kernel_rfl -- slices.stableCmpFunc[int]
@[go_sem] theorem en_306 : enterable Tryz.prog 306 = true := by kernel_rfl -- slices.rotateRight[treasury/api.Payment]
@[go_sem] theorem en_307 : enterable Tryz.prog 307 = true := by kernel_rfl -- slices.rotateLeft[int]
@[go_sem] theorem en_308 : enterable Tryz.prog 308 = true := by kernel_rfl -- slices.Reverse[[]treasury/api.Item,treasury/api.Item]
@[go_sem] theorem en_309 : enterable Tryz.prog 309 = true := by kernel_rfl -- slices.rotateLeft[treasury/api.Holding]
@[go_sem] theorem en_310 : enterable Tryz.prog 310 = true := by kernel_rfl -- slices.insertionSortCmpFunc[int]
@[go_sem] theorem en_311 : enterable Tryz.prog 311 = true := by kernel_rfl -- slices.symMergeCmpFunc[int]
@[go_sem] theorem en_312 : enterable Tryz.prog 312 = true := by kernel_rfl -- slices.rotateLeft[treasury/api.Payment]
@[go_sem] theorem en_313 : enterable Tryz.prog 313 = true := by kernel_rfl -- slices.Reverse[[]int,int]
@[go_sem] theorem en_314 : enterable Tryz.prog 314 = true := by kernel_rfl -- slices.Reverse[[]treasury/api.Holding,treasury/api.Holding]
@[go_sem] theorem en_315 : enterable Tryz.prog 315 = true := by kernel_rfl -- slices.rotateCmpFunc[int]
@[go_sem] theorem en_316 : enterable Tryz.prog 316 = true := by kernel_rfl -- slices.Reverse[[]treasury/api.Payment,treasury/api.Payment]
@[go_sem] theorem en_317 : enterable Tryz.prog 317 = true := by kernel_rfl -- slices.swapRangeCmpFunc[int]
@[go_sem] theorem rs_3 : Tryz.f3.results.toList = [.tmp 2] := rfl
@[go_sem] theorem rs_4 : Tryz.f4.results.toList = [.tmp 2] := rfl
@[go_sem] theorem rs_5 : Tryz.f5.results.toList = [.tmp 4] := rfl
@[go_sem] theorem rs_6 : Tryz.f6.results.toList = [.tmp 2] := rfl
@[go_sem] theorem rs_7 : Tryz.f7.results.toList = [.cell 4 30, .tmp 5] := rfl
@[go_sem] theorem rs_8 : Tryz.f8.results.toList = [.tmp 4, .tmp 5] := rfl
@[go_sem] theorem rs_9 : Tryz.f9.results.toList = [.tmp 0] := rfl
@[go_sem] theorem rs_10 : Tryz.f10.results.toList = [.tmp 4] := rfl
@[go_sem] theorem rs_11 : Tryz.f11.results.toList = [.tmp 6] := rfl
@[go_sem] theorem rs_12 : Tryz.f12.results.toList = [.tmp 4] := rfl
@[go_sem] theorem rs_13 : Tryz.f13.results.toList = [.tmp 4] := rfl
@[go_sem] theorem rs_14 : Tryz.f14.results.toList = [.tmp 4] := rfl
@[go_sem] theorem rs_15 : Tryz.f15.results.toList = [.tmp 2] := rfl
@[go_sem] theorem rs_16 : Tryz.f16.results.toList = [] := rfl
@[go_sem] theorem rs_17 : Tryz.f17.results.toList = [.tmp 4] := rfl
@[go_sem] theorem rs_18 : Tryz.f18.results.toList = [.tmp 6] := rfl
@[go_sem] theorem rs_19 : Tryz.f19.results.toList = [.tmp 4] := rfl
@[go_sem] theorem rs_20 : Tryz.f20.results.toList = [.tmp 2] := rfl
@[go_sem] theorem rs_21 : Tryz.f21.results.toList = [.tmp 2] := rfl
@[go_sem] theorem rs_22 : Tryz.f22.results.toList = [] := rfl
@[go_sem] theorem rs_23 : Tryz.f23.results.toList = [.tmp 4] := rfl
@[go_sem] theorem rs_24 : Tryz.f24.results.toList = [.tmp 4] := rfl
@[go_sem] theorem rs_25 : Tryz.f25.results.toList = [.tmp 4] := rfl
@[go_sem] theorem rs_26 : Tryz.f26.results.toList = [.tmp 2] := rfl
@[go_sem] theorem rs_27 : Tryz.f27.results.toList = [.tmp 2] := rfl
@[go_sem] theorem rs_28 : Tryz.f28.results.toList = [.cell 6 89, .tmp 7] := rfl
@[go_sem] theorem rs_29 : Tryz.f29.results.toList = [.cell 4 89, .tmp 5, .tmp 6] := rfl
@[go_sem] theorem rs_30 : Tryz.f30.results.toList = [.tmp 2] := rfl
@[go_sem] theorem rs_31 : Tryz.f31.results.toList = [.tmp 8] := rfl
@[go_sem] theorem rs_32 : Tryz.f32.results.toList = [.tmp 2] := rfl
@[go_sem] theorem rs_33 : Tryz.f33.results.toList = [.tmp 2] := rfl
@[go_sem] theorem rs_34 : Tryz.f34.results.toList = [] := rfl
@[go_sem] theorem rs_35 : Tryz.f35.results.toList = [.tmp 2] := rfl
@[go_sem] theorem rs_36 : Tryz.f36.results.toList = [.tmp 2] := rfl
@[go_sem] theorem rs_37 : Tryz.f37.results.toList = [.tmp 4] := rfl
@[go_sem] theorem rs_38 : Tryz.f38.results.toList = [.tmp 4] := rfl
@[go_sem] theorem rs_39 : Tryz.f39.results.toList = [] := rfl
@[go_sem] theorem rs_40 : Tryz.f40.results.toList = [.cell 2 22] := rfl
@[go_sem] theorem rs_41 : Tryz.f41.results.toList = [.tmp 4] := rfl
@[go_sem] theorem rs_42 : Tryz.f42.results.toList = [.tmp 4] := rfl
@[go_sem] theorem rs_43 : Tryz.f43.results.toList = [.tmp 4] := rfl
@[go_sem] theorem rs_44 : Tryz.f44.results.toList = [.cell 4 67, .tmp 5] := rfl
@[go_sem] theorem rs_45 : Tryz.f45.results.toList = [.cell 4 84, .tmp 5] := rfl
@[go_sem] theorem rs_46 : Tryz.f46.results.toList = [.cell 2 89] := rfl
@[go_sem] theorem rs_47 : Tryz.f47.results.toList = [.cell 4 89, .tmp 5] := rfl
@[go_sem] theorem rs_48 : Tryz.f48.results.toList = [.tmp 2] := rfl
@[go_sem] theorem rs_49 : Tryz.f49.results.toList = [.tmp 2] := rfl
@[go_sem] theorem rs_50 : Tryz.f50.results.toList = [.tmp 4] := rfl
@[go_sem] theorem rs_51 : Tryz.f51.results.toList = [.tmp 6] := rfl
@[go_sem] theorem rs_52 : Tryz.f52.results.toList = [.tmp 2] := rfl
@[go_sem] theorem rs_53 : Tryz.f53.results.toList = [] := rfl
@[go_sem] theorem rs_54 : Tryz.f54.results.toList = [] := rfl
@[go_sem] theorem rs_55 : Tryz.f55.results.toList = [] := rfl
@[go_sem] theorem rs_56 : Tryz.f56.results.toList = [.tmp 8, .tmp 9] := rfl
@[go_sem] theorem rs_57 : Tryz.f57.results.toList = [] := rfl
@[go_sem] theorem rs_58 : Tryz.f58.results.toList = [.tmp 8] := rfl
@[go_sem] theorem rs_59 : Tryz.f59.results.toList = [.tmp 10] := rfl
@[go_sem] theorem rs_60 : Tryz.f60.results.toList = [.tmp 10, .tmp 11] := rfl
@[go_sem] theorem rs_61 : Tryz.f61.results.toList = [.tmp 2] := rfl
@[go_sem] theorem rs_62 : Tryz.f62.results.toList = [.tmp 2] := rfl
@[go_sem] theorem rs_63 : Tryz.f63.results.toList = [.tmp 2] := rfl
@[go_sem] theorem rs_64 : Tryz.f64.results.toList = [] := rfl
@[go_sem] theorem rs_65 : Tryz.f65.results.toList = [.tmp 4] := rfl
@[go_sem] theorem rs_66 : Tryz.f66.results.toList = [.tmp 2, .tmp 3] := rfl
@[go_sem] theorem rs_67 : Tryz.f67.results.toList = [.tmp 2] := rfl
@[go_sem] theorem rs_68 : Tryz.f68.results.toList = [.tmp 2] := rfl
@[go_sem] theorem rs_69 : Tryz.f69.results.toList = [.tmp 2] := rfl
@[go_sem] theorem rs_70 : Tryz.f70.results.toList = [.tmp 2] := rfl
@[go_sem] theorem rs_71 : Tryz.f71.results.toList = [.tmp 6, .tmp 7] := rfl
@[go_sem] theorem rs_72 : Tryz.f72.results.toList = [.tmp 4] := rfl
@[go_sem] theorem rs_73 : Tryz.f73.results.toList = [.tmp 2] := rfl
@[go_sem] theorem rs_74 : Tryz.f74.results.toList = [.cell 2 84] := rfl
@[go_sem] theorem rs_75 : Tryz.f75.results.toList = [.tmp 6] := rfl
@[go_sem] theorem rs_76 : Tryz.f76.results.toList = [.tmp 2] := rfl
@[go_sem] theorem rs_77 : Tryz.f77.results.toList = [.tmp 2] := rfl
@[go_sem] theorem rs_78 : Tryz.f78.results.toList = [.tmp 2] := rfl
@[go_sem] theorem rs_79 : Tryz.f79.results.toList = [.tmp 2] := rfl
@[go_sem] theorem rs_80 : Tryz.f80.results.toList = [.tmp 2] := rfl
@[go_sem] theorem rs_81 : Tryz.f81.results.toList = [.tmp 2] := rfl
@[go_sem] theorem rs_82 : Tryz.f82.results.toList = [.tmp 2] := rfl
@[go_sem] theorem rs_83 : Tryz.f83.results.toList = [.tmp 2] := rfl
@[go_sem] theorem rs_84 : Tryz.f84.results.toList = [.tmp 2] := rfl
@[go_sem] theorem rs_85 : Tryz.f85.results.toList = [.tmp 4] := rfl
@[go_sem] theorem rs_86 : Tryz.f86.results.toList = [.tmp 4] := rfl
@[go_sem] theorem rs_87 : Tryz.f87.results.toList = [.tmp 2] := rfl
@[go_sem] theorem rs_88 : Tryz.f88.results.toList = [.tmp 4, .tmp 5] := rfl
@[go_sem] theorem rs_89 : Tryz.f89.results.toList = [.tmp 2] := rfl
@[go_sem] theorem rs_90 : Tryz.f90.results.toList = [.tmp 4] := rfl
@[go_sem] theorem rs_91 : Tryz.f91.results.toList = [.tmp 4] := rfl
@[go_sem] theorem rs_92 : Tryz.f92.results.toList = [.tmp 2] := rfl
@[go_sem] theorem rs_93 : Tryz.f93.results.toList = [.tmp 2] := rfl
@[go_sem] theorem rs_94 : Tryz.f94.results.toList = [.tmp 5] := rfl
@[go_sem] theorem rs_95 : Tryz.f95.results.toList = [.tmp 6] := rfl
@[go_sem] theorem rs_96 : Tryz.f96.results.toList = [.tmp 2] := rfl
@[go_sem] theorem rs_97 : Tryz.f97.results.toList = [.tmp 6, .tmp 7] := rfl
@[go_sem] theorem rs_98 : Tryz.f98.results.toList = [.tmp 4] := rfl
@[go_sem] theorem rs_99 : Tryz.f99.results.toList = [.tmp 2] := rfl
@[go_sem] theorem rs_100 : Tryz.f100.results.toList = [.tmp 4] := rfl
@[go_sem] theorem rs_101 : Tryz.f101.results.toList = [.tmp 4] := rfl
@[go_sem] theorem rs_102 : Tryz.f102.results.toList = [.tmp 2] := rfl
@[go_sem] theorem rs_103 : Tryz.f103.results.toList = [.tmp 2] := rfl
@[go_sem] theorem rs_104 : Tryz.f104.results.toList = [.tmp 4] := rfl
@[go_sem] theorem rs_105 : Tryz.f105.results.toList = [.tmp 6, .tmp 7] := rfl
@[go_sem] theorem rs_106 : Tryz.f106.results.toList = [.tmp 2] := rfl
@[go_sem] theorem rs_107 : Tryz.f107.results.toList = [.tmp 6, .tmp 7] := rfl
@[go_sem] theorem rs_108 : Tryz.f108.results.toList = [.tmp 4] := rfl
@[go_sem] theorem rs_109 : Tryz.f109.results.toList = [.tmp 4] := rfl
@[go_sem] theorem rs_110 : Tryz.f110.results.toList = [] := rfl
@[go_sem] theorem rs_111 : Tryz.f111.results.toList = [.tmp 2] := rfl
@[go_sem] theorem rs_112 : Tryz.f112.results.toList = [.tmp 2] := rfl
@[go_sem] theorem rs_113 : Tryz.f113.results.toList = [.tmp 8] := rfl
@[go_sem] theorem rs_114 : Tryz.f114.results.toList = [.tmp 12] := rfl
@[go_sem] theorem rs_115 : Tryz.f115.results.toList = [] := rfl
@[go_sem] theorem rs_116 : Tryz.f116.results.toList = [.tmp 6] := rfl
@[go_sem] theorem rs_118 : Tryz.f118.results.toList = [.tmp 10] := rfl
@[go_sem] theorem rs_120 : Tryz.f120.results.toList = [.tmp 6] := rfl
@[go_sem] theorem rs_121 : Tryz.f121.results.toList = [.tmp 4, .tmp 5] := rfl
@[go_sem] theorem rs_122 : Tryz.f122.results.toList = [.tmp 2] := rfl
@[go_sem] theorem rs_123 : Tryz.f123.results.toList = [.tmp 4] := rfl
@[go_sem] theorem rs_124 : Tryz.f124.results.toList = [.tmp 6] := rfl
@[go_sem] theorem rs_125 : Tryz.f125.results.toList = [.tmp 2] := rfl
@[go_sem] theorem rs_126 : Tryz.f126.results.toList = [.tmp 2] := rfl
@[go_sem] theorem rs_127 : Tryz.f127.results.toList = [] := rfl
@[go_sem] theorem rs_128 : Tryz.f128.results.toList = [] := rfl
@[go_sem] theorem rs_129 : Tryz.f129.results.toList = [.tmp 4] := rfl
@[go_sem] theorem rs_130 : Tryz.f130.results.toList = [.tmp 6] := rfl
@[go_sem] theorem rs_131 : Tryz.f131.results.toList = [.cell 4 74, .tmp 5] := rfl
@[go_sem] theorem rs_132 : Tryz.f132.results.toList = [.cell 4 74, .cell 5 168, .tmp 6] := rfl
@[go_sem] theorem rs_133 : Tryz.f133.results.toList = [.cell 4 74, .tmp 5] := rfl
@[go_sem] theorem rs_134 : Tryz.f134.results.toList = [.cell 6 74, .tmp 7] := rfl
@[go_sem] theorem rs_135 : Tryz.f135.results.toList = [.cell 4 74, .tmp 5] := rfl
@[go_sem] theorem rs_136 : Tryz.f136.results.toList = [.cell 10 84, .tmp 11] := rfl
@[go_sem] theorem rs_137 : Tryz.f137.results.toList = [.tmp 12] := rfl
@[go_sem] theorem rs_138 : Tryz.f138.results.toList = [.cell 10 84, .tmp 11] := rfl
@[go_sem] theorem rs_139 : Tryz.f139.results.toList = [.tmp 8] := rfl
@[go_sem] theorem rs_140 : Tryz.f140.results.toList = [.cell 4 87, .tmp 5] := rfl
@[go_sem] theorem rs_141 : Tryz.f141.results.toList = [.tmp 2] := rfl
@[go_sem] theorem rs_142 : Tryz.f142.results.toList = [.tmp 4] := rfl
@[go_sem] theorem rs_143 : Tryz.f143.results.toList = [.tmp 4] := rfl
@[go_sem] theorem rs_144 : Tryz.f144.results.toList = [.tmp 2] := rfl
@[go_sem] theorem rs_145 : Tryz.f145.results.toList = [.tmp 2] := rfl
@[go_sem] theorem rs_146 : Tryz.f146.results.toList = [.tmp 2] := rfl
@[go_sem] theorem rs_147 : Tryz.f147.results.toList = [.tmp 2] := rfl
@[go_sem] theorem rs_148 : Tryz.f148.results.toList = [.tmp 4] := rfl
@[go_sem] theorem rs_149 : Tryz.f149.results.toList = [.tmp 3] := rfl
@[go_sem] theorem rs_150 : Tryz.f150.results.toList = [.tmp 4] := rfl
@[go_sem] theorem rs_151 : Tryz.f151.results.toList = [.tmp 2] := rfl
@[go_sem] theorem rs_152 : Tryz.f152.results.toList = [.cell 4 184] := rfl
@[go_sem] theorem rs_153 : Tryz.f153.results.toList = [.tmp 10, .tmp 11] := rfl
@[go_sem] theorem rs_154 : Tryz.f154.results.toList = [] := rfl
@[go_sem] theorem rs_155 : Tryz.f155.results.toList = [] := rfl
@[go_sem] theorem rs_156 : Tryz.f156.results.toList = [.tmp 2, .tmp 3] := rfl
@[go_sem] theorem rs_157 : Tryz.f157.results.toList = [.tmp 4] := rfl
@[go_sem] theorem rs_159 : Tryz.f159.results.toList = [.tmp 4] := rfl
@[go_sem] theorem rs_160 : Tryz.f160.results.toList = [.tmp 4] := rfl
@[go_sem] theorem rs_161 : Tryz.f161.results.toList = [.tmp 6] := rfl
@[go_sem] theorem rs_162 : Tryz.f162.results.toList = [.tmp 6] := rfl
@[go_sem] theorem rs_164 : Tryz.f164.results.toList = [.tmp 4] := rfl
@[go_sem] theorem rs_165 : Tryz.f165.results.toList = [] := rfl
@[go_sem] theorem rs_166 : Tryz.f166.results.toList = [.cell 4 79, .tmp 5, .tmp 6] := rfl
@[go_sem] theorem rs_167 : Tryz.f167.results.toList = [.cell 4 71, .tmp 5] := rfl
@[go_sem] theorem rs_168 : Tryz.f168.results.toList = [.tmp 4, .tmp 5] := rfl
@[go_sem] theorem rs_169 : Tryz.f169.results.toList = [.tmp 4] := rfl
@[go_sem] theorem rs_170 : Tryz.f170.results.toList = [.tmp 3] := rfl
@[go_sem] theorem rs_171 : Tryz.f171.results.toList = [.cell 2 74] := rfl
@[go_sem] theorem rs_172 : Tryz.f172.results.toList = [.tmp 4, .tmp 5] := rfl
@[go_sem] theorem rs_173 : Tryz.f173.results.toList = [.tmp 6] := rfl
@[go_sem] theorem rs_174 : Tryz.f174.results.toList = [.tmp 2] := rfl
@[go_sem] theorem rs_175 : Tryz.f175.results.toList = [.tmp 2] := rfl
@[go_sem] theorem rs_176 : Tryz.f176.results.toList = [.tmp 4] := rfl
@[go_sem] theorem rs_177 : Tryz.f177.results.toList = [.cell 4 67, .tmp 5] := rfl
@[go_sem] theorem rs_178 : Tryz.f178.results.toList = [.cell 12 162] := rfl
@[go_sem] theorem rs_179 : Tryz.f179.results.toList = [.cell 6 71, .cell 7 168, .tmp 8] := rfl
@[go_sem] theorem rs_180 : Tryz.f180.results.toList = [.cell 8 74, .tmp 9] := rfl
@[go_sem] theorem rs_181 : Tryz.f181.results.toList = [.tmp 4] := rfl
@[go_sem] theorem rs_182 : Tryz.f182.results.toList = [.tmp 6] := rfl
@[go_sem] theorem rs_183 : Tryz.f183.results.toList = [.tmp 5] := rfl
@[go_sem] theorem rs_184 : Tryz.f184.results.toList = [.cell 4 71, .tmp 5] := rfl
@[go_sem] theorem rs_185 : Tryz.f185.results.toList = [.cell 4 84, .tmp 5] := rfl
@[go_sem] theorem rs_186 : Tryz.f186.results.toList = [.tmp 2] := rfl
@[go_sem] theorem rs_187 : Tryz.f187.results.toList = [.tmp 2] := rfl
@[go_sem] theorem rs_188 : Tryz.f188.results.toList = [.tmp 4] := rfl
@[go_sem] theorem rs_189 : Tryz.f189.results.toList = [.tmp 6] := rfl
@[go_sem] theorem rs_190 : Tryz.f190.results.toList = [.tmp 2] := rfl
@[go_sem] theorem rs_191 : Tryz.f191.results.toList = [.tmp 4] := rfl
@[go_sem] theorem rs_192 : Tryz.f192.results.toList = [.tmp 4] := rfl
@[go_sem] theorem rs_193 : Tryz.f193.results.toList = [.tmp 2] := rfl
@[go_sem] theorem rs_194 : Tryz.f194.results.toList = [.tmp 2] := rfl
@[go_sem] theorem rs_195 : Tryz.f195.results.toList = [.tmp 2] := rfl
@[go_sem] theorem rs_196 : Tryz.f196.results.toList = [.tmp 4] := rfl
@[go_sem] theorem rs_197 : Tryz.f197.results.toList = [.tmp 2, .tmp 3] := rfl
@[go_sem] theorem rs_201 : Tryz.f201.results.toList = [.tmp 2] := rfl
@[go_sem] theorem rs_206 : Tryz.f206.results.toList = [.cell 4 116, .tmp 5] := rfl
@[go_sem] theorem rs_207 : Tryz.f207.results.toList = [.tmp 2] := rfl
@[go_sem] theorem rs_208 : Tryz.f208.results.toList = [.tmp 6] := rfl
@[go_sem] theorem rs_209 : Tryz.f209.results.toList = [.tmp 4] := rfl
@[go_sem] theorem rs_210 : Tryz.f210.results.toList = [] := rfl
@[go_sem] theorem rs_211 : Tryz.f211.results.toList = [] := rfl
@[go_sem] theorem rs_212 : Tryz.f212.results.toList = [.tmp 2] := rfl
@[go_sem] theorem rs_213 : Tryz.f213.results.toList = [.tmp 2] := rfl
@[go_sem] theorem rs_214 : Tryz.f214.results.toList = [.tmp 4] := rfl
@[go_sem] theorem rs_215 : Tryz.f215.results.toList = [] := rfl
@[go_sem] theorem rs_216 : Tryz.f216.results.toList = [.tmp 6] := rfl
@[go_sem] theorem rs_217 : Tryz.f217.results.toList = [.tmp 4] := rfl
@[go_sem] theorem rs_218 : Tryz.f218.results.toList = [.tmp 4, .tmp 5] := rfl
@[go_sem] theorem rs_219 : Tryz.f219.results.toList = [.tmp 2] := rfl
@[go_sem] theorem rs_220 : Tryz.f220.results.toList = [.cell 4 71] := rfl
@[go_sem] theorem rs_221 : Tryz.f221.results.toList = [.cell 2 71] := rfl
@[go_sem] theorem rs_222 : Tryz.f222.results.toList = [.tmp 6] := rfl
@[go_sem] theorem rs_223 : Tryz.f223.results.toList = [.tmp 4] := rfl
@[go_sem] theorem rs_224 : Tryz.f224.results.toList = [.tmp 3] := rfl
@[go_sem] theorem rs_225 : Tryz.f225.results.toList = [.cell 2 67] := rfl
@[go_sem] theorem rs_226 : Tryz.f226.results.toList = [.tmp 6, .tmp 7] := rfl
@[go_sem] theorem rs_227 : Tryz.f227.results.toList = [.tmp 4] := rfl
@[go_sem] theorem rs_228 : Tryz.f228.results.toList = [] := rfl
@[go_sem] theorem rs_229 : Tryz.f229.results.toList = [] := rfl
@[go_sem] theorem rs_230 : Tryz.f230.results.toList = [.tmp 2] := rfl
@[go_sem] theorem rs_231 : Tryz.f231.results.toList = [.tmp 4] := rfl
@[go_sem] theorem rs_232 : Tryz.f232.results.toList = [.tmp 3] := rfl
@[go_sem] theorem rs_233 : Tryz.f233.results.toList = [.tmp 3] := rfl
@[go_sem] theorem rs_234 : Tryz.f234.results.toList = [.tmp 4] := rfl
@[go_sem] theorem rs_235 : Tryz.f235.results.toList = [.tmp 3] := rfl
@[go_sem] theorem rs_236 : Tryz.f236.results.toList = [.tmp 4] := rfl
@[go_sem] theorem rs_237 : Tryz.f237.results.toList = [.tmp 6] := rfl
@[go_sem] theorem rs_238 : Tryz.f238.results.toList = [.tmp 4] := rfl
@[go_sem] theorem rs_239 : Tryz.f239.results.toList = [.tmp 2] := rfl
@[go_sem] theorem rs_240 : Tryz.f240.results.toList = [.tmp 2] := rfl
@[go_sem] theorem rs_241 : Tryz.f241.results.toList = [.tmp 4] := rfl
@[go_sem] theorem rs_242 : Tryz.f242.results.toList = [.tmp 2] := rfl
@[go_sem] theorem rs_243 : Tryz.f243.results.toList = [.tmp 2] := rfl
@[go_sem] theorem rs_244 : Tryz.f244.results.toList = [.tmp 4] := rfl
@[go_sem] theorem rs_245 : Tryz.f245.results.toList = [.tmp 4] := rfl
@[go_sem] theorem rs_246 : Tryz.f246.results.toList = [.tmp 4] := rfl
@[go_sem] theorem rs_247 : Tryz.f247.results.toList = [.tmp 2] := rfl
@[go_sem] theorem rs_248 : Tryz.f248.results.toList = [.tmp 4] := rfl
@[go_sem] theorem rs_258 : Tryz.f258.results.toList = [.tmp 2] := rfl
@[go_sem] theorem rs_259 : Tryz.f259.results.toList = [.tmp 4] := rfl
@[go_sem] theorem rs_260 : Tryz.f260.results.toList = [.tmp 3] := rfl
@[go_sem] theorem rs_261 : Tryz.f261.results.toList = [.tmp 2] := rfl
@[go_sem] theorem rs_262 : Tryz.f262.results.toList = [.tmp 4, .tmp 5] := rfl
@[go_sem] theorem rs_263 : Tryz.f263.results.toList = [.tmp 6] := rfl
@[go_sem] theorem rs_264 : Tryz.f264.results.toList = [.tmp 6] := rfl
@[go_sem] theorem rs_265 : Tryz.f265.results.toList = [.tmp 6] := rfl
@[go_sem] theorem rs_266 : Tryz.f266.results.toList = [.tmp 2] := rfl
@[go_sem] theorem rs_267 : Tryz.f267.results.toList = [.tmp 4] := rfl
@[go_sem] theorem rs_268 : Tryz.f268.results.toList = [.tmp 3] := rfl
@[go_sem] theorem rs_269 : Tryz.f269.results.toList = [.tmp 4] := rfl
@[go_sem] theorem rs_270 : Tryz.f270.results.toList = [.tmp 4] := rfl
@[go_sem] theorem rs_271 : Tryz.f271.results.toList = [] := rfl
@[go_sem] theorem rs_272 : Tryz.f272.results.toList = [.tmp 5] := rfl
@[go_sem] theorem rs_273 : Tryz.f273.results.toList = [.tmp 4] := rfl
@[go_sem] theorem rs_274 : Tryz.f274.results.toList = [.tmp 2] := rfl
@[go_sem] theorem rs_275 : Tryz.f275.results.toList = [.tmp 6] := rfl
@[go_sem] theorem rs_276 : Tryz.f276.results.toList = [.tmp 6, .tmp 7] := rfl
@[go_sem] theorem rs_277 : Tryz.f277.results.toList = [.tmp 4] := rfl
@[go_sem] theorem rs_278 : Tryz.f278.results.toList = [.tmp 6] := rfl
@[go_sem] theorem rs_279 : Tryz.f279.results.toList = [] := rfl
@[go_sem] theorem rs_280 : Tryz.f280.results.toList = [] := rfl
@[go_sem] theorem rs_281 : Tryz.f281.results.toList = [] := rfl
@[go_sem] theorem rs_282 : Tryz.f282.results.toList = [.tmp 4] := rfl
@[go_sem] theorem rs_283 : Tryz.f283.results.toList = [.tmp 4] := rfl
@[go_sem] theorem rs_284 : Tryz.f284.results.toList = [.tmp 3] := rfl
@[go_sem] theorem rs_285 : Tryz.f285.results.toList = [.tmp 3] := rfl
@[go_sem] theorem rs_286 : Tryz.f286.results.toList = [.tmp 4] := rfl
@[go_sem] theorem rs_287 : Tryz.f287.results.toList = [.tmp 3] := rfl
@[go_sem] theorem rs_288 : Tryz.f288.results.toList = [.tmp 4] := rfl
@[go_sem] theorem rs_289 : Tryz.f289.results.toList = [.tmp 3] := rfl
@[go_sem] theorem rs_290 : Tryz.f290.results.toList = [.tmp 2] := rfl
@[go_sem] theorem rs_291 : Tryz.f291.results.toList = [.tmp 4] := rfl
@[go_sem] theorem rs_292 : Tryz.f292.results.toList = [.tmp 3] := rfl
@[go_sem] theorem rs_295 : Tryz.f295.results.toList = [.tmp 2] := rfl
@[go_sem] theorem rs_296 : Tryz.f296.results.toList = [.tmp 2] := rfl
@[go_sem] theorem rs_297 : Tryz.f297.results.toList = [.tmp 6, .tmp 7] := rfl
@[go_sem] theorem rs_298 : Tryz.f298.results.toList = [.tmp 4] := rfl
@[go_sem] theorem rs_299 : Tryz.f299.results.toList = [.cell 2 358] := rfl
@[go_sem] theorem rs_300 : Tryz.f300.results.toList = [.tmp 4] := rfl
@[go_sem] theorem rs_301 : Tryz.f301.results.toList = [] := rfl
@[go_sem] theorem rs_302 : Tryz.f302.results.toList = [] := rfl
@[go_sem] theorem rs_303 : Tryz.f303.results.toList = [.tmp 4] := rfl
@[go_sem] theorem rs_304 : Tryz.f304.results.toList = [] := rfl
@[go_sem] theorem rs_305 : Tryz.f305.results.toList = [] := rfl
@[go_sem] theorem rs_306 : Tryz.f306.results.toList = [] := rfl
@[go_sem] theorem rs_307 : Tryz.f307.results.toList = [] := rfl
@[go_sem] theorem rs_308 : Tryz.f308.results.toList = [] := rfl
@[go_sem] theorem rs_309 : Tryz.f309.results.toList = [] := rfl
@[go_sem] theorem rs_310 : Tryz.f310.results.toList = [] := rfl
@[go_sem] theorem rs_311 : Tryz.f311.results.toList = [] := rfl
@[go_sem] theorem rs_312 : Tryz.f312.results.toList = [] := rfl
@[go_sem] theorem rs_313 : Tryz.f313.results.toList = [] := rfl
@[go_sem] theorem rs_314 : Tryz.f314.results.toList = [] := rfl
@[go_sem] theorem rs_315 : Tryz.f315.results.toList = [] := rfl
@[go_sem] theorem rs_316 : Tryz.f316.results.toList = [] := rfl
@[go_sem] theorem rs_317 : Tryz.f317.results.toList = [] := rfl
@[go_sem] theorem rs_333 : Tryz.f333.results.toList = [] := rfl
@[go_sem] theorem rs_335 : Tryz.f335.results.toList = [] := rfl
@[go_sem] theorem rs_336 : Tryz.f336.results.toList = [] := rfl
@[go_sem] theorem rs_340 : Tryz.f340.results.toList = [] := rfl
@[go_sem] theorem rs_341 : Tryz.f341.results.toList = [] := rfl
@[go_sem] theorem rs_342 : Tryz.f342.results.toList = [] := rfl
@[go_sem] theorem rs_343 : Tryz.f343.results.toList = [] := rfl
@[go_sem] theorem rs_345 : Tryz.f345.results.toList = [] := rfl
@[go_sem] theorem rs_346 : Tryz.f346.results.toList = [] := rfl

end Go.Proofs.YtmkhcmiplleghaaGreatDoor
