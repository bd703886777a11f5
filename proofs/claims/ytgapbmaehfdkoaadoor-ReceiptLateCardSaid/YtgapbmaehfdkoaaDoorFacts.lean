/- The types and functions of this seat's program, as PA reads them. Printed by wip/facts.py. -/
import Derived.Test.YtgapbmaehfdkoaaDoorPaB
import Derived.Test.YtgapbmaehfdkoaaDoorProg
import Derived.KernelRfl
namespace Go.Proofs.YtgapbmaehfdkoaaDoor
open Go.PA

@[go_sem] theorem sz_2 : szOf Tryd.prog 2 = 1 := by kernel_rfl
@[go_sem] theorem kn_2 : knownT Tryd.prog 2 = true := by kernel_rfl
@[go_sem] theorem ag_2 : aggOf Tryd.prog 2 = false := by kernel_rfl
@[go_sem] theorem us_2 : (Tryd.prog.underlying 2).isSome = true := by kernel_rfl
@[go_sem] theorem un_2 : Tryd.prog.underlying 2 = some (.int .i64) := by kernel_rfl
@[go_sem] theorem ze_2 : zeros Tryd.prog 2 = some [.sc (.int .i64 0)] := by kernel_rfl
@[go_sem] theorem az_2 : azero1 Tryd.prog 2 = some (.sc (.int .i64 0)) := by kernel_rfl
@[go_sem] theorem by_2 : bytesOf Tryd.prog 2 = 8 := by kernel_rfl
@[go_sem] theorem sz_3 : szOf Tryd.prog 3 = 1 := by kernel_rfl
@[go_sem] theorem kn_3 : knownT Tryd.prog 3 = true := by kernel_rfl
@[go_sem] theorem ag_3 : aggOf Tryd.prog 3 = false := by kernel_rfl
@[go_sem] theorem us_3 : (Tryd.prog.underlying 3).isSome = true := by kernel_rfl
@[go_sem] theorem un_3 : Tryd.prog.underlying 3 = some (.int .i64) := by kernel_rfl
@[go_sem] theorem ze_3 : zeros Tryd.prog 3 = some [.sc (.int .i64 0)] := by kernel_rfl
@[go_sem] theorem az_3 : azero1 Tryd.prog 3 = some (.sc (.int .i64 0)) := by kernel_rfl
@[go_sem] theorem by_3 : bytesOf Tryd.prog 3 = 8 := by kernel_rfl
@[go_sem] theorem sz_4 : szOf Tryd.prog 4 = 1 := by kernel_rfl
@[go_sem] theorem kn_4 : knownT Tryd.prog 4 = true := by kernel_rfl
@[go_sem] theorem ag_4 : aggOf Tryd.prog 4 = false := by kernel_rfl
@[go_sem] theorem us_4 : (Tryd.prog.underlying 4).isSome = true := by kernel_rfl
@[go_sem] theorem un_4 : Tryd.prog.underlying 4 = some .bool := by kernel_rfl
@[go_sem] theorem ze_4 : zeros Tryd.prog 4 = some [.sc (.bool false)] := by kernel_rfl
@[go_sem] theorem az_4 : azero1 Tryd.prog 4 = some (.sc (.bool false)) := by kernel_rfl
@[go_sem] theorem by_4 : bytesOf Tryd.prog 4 = 1 := by kernel_rfl
@[go_sem] theorem sz_5 : szOf Tryd.prog 5 = 1 := by kernel_rfl
@[go_sem] theorem kn_5 : knownT Tryd.prog 5 = true := by kernel_rfl
@[go_sem] theorem ag_5 : aggOf Tryd.prog 5 = false := by kernel_rfl
@[go_sem] theorem us_5 : (Tryd.prog.underlying 5).isSome = true := by kernel_rfl
@[go_sem] theorem un_5 : Tryd.prog.underlying 5 = some (.int .u8) := by kernel_rfl
@[go_sem] theorem ze_5 : zeros Tryd.prog 5 = some [.sc (.int .u8 0)] := by kernel_rfl
@[go_sem] theorem az_5 : azero1 Tryd.prog 5 = some (.sc (.int .u8 0)) := by kernel_rfl
@[go_sem] theorem by_5 : bytesOf Tryd.prog 5 = 1 := by kernel_rfl
@[go_sem] theorem sz_9 : szOf Tryd.prog 9 = 1 := by kernel_rfl
@[go_sem] theorem kn_9 : knownT Tryd.prog 9 = true := by kernel_rfl
@[go_sem] theorem ag_9 : aggOf Tryd.prog 9 = false := by kernel_rfl
@[go_sem] theorem us_9 : (Tryd.prog.underlying 9).isSome = true := by kernel_rfl
@[go_sem] theorem un_9 : Tryd.prog.underlying 9 = some .string := by kernel_rfl
@[go_sem] theorem ze_9 : zeros Tryd.prog 9 = some [.sc (.string ByteArray.empty)] := by kernel_rfl
@[go_sem] theorem az_9 : azero1 Tryd.prog 9 = some (.sc (.string ByteArray.empty)) := by kernel_rfl
@[go_sem] theorem by_9 : bytesOf Tryd.prog 9 = 16 := by kernel_rfl
@[go_sem] theorem sz_12 : szOf Tryd.prog 12 = 1 := by kernel_rfl
@[go_sem] theorem kn_12 : knownT Tryd.prog 12 = true := by kernel_rfl
@[go_sem] theorem ag_12 : aggOf Tryd.prog 12 = false := by kernel_rfl
@[go_sem] theorem us_12 : (Tryd.prog.underlying 12).isSome = true := by kernel_rfl
@[go_sem] theorem un_12 : Tryd.prog.underlying 12 = some (.int .u64) := by kernel_rfl
@[go_sem] theorem ze_12 : zeros Tryd.prog 12 = some [.sc (.int .u64 0)] := by kernel_rfl
@[go_sem] theorem az_12 : azero1 Tryd.prog 12 = some (.sc (.int .u64 0)) := by kernel_rfl
@[go_sem] theorem by_12 : bytesOf Tryd.prog 12 = 8 := by kernel_rfl
@[go_sem] theorem sz_17 : szOf Tryd.prog 17 = 1 := by kernel_rfl
@[go_sem] theorem kn_17 : knownT Tryd.prog 17 = true := by kernel_rfl
@[go_sem] theorem ag_17 : aggOf Tryd.prog 17 = false := by kernel_rfl
@[go_sem] theorem us_17 : (Tryd.prog.underlying 17).isSome = true := by kernel_rfl
@[go_sem] theorem ze_17 : zeros Tryd.prog 17 = some [.sc (.pointer none)] := by kernel_rfl
@[go_sem] theorem by_17 : bytesOf Tryd.prog 17 = 8 := by kernel_rfl
@[go_sem] theorem sz_21 : szOf Tryd.prog 21 = 1 := by kernel_rfl
@[go_sem] theorem kn_21 : knownT Tryd.prog 21 = true := by kernel_rfl
@[go_sem] theorem ag_21 : aggOf Tryd.prog 21 = false := by kernel_rfl
@[go_sem] theorem us_21 : (Tryd.prog.underlying 21).isSome = true := by kernel_rfl
@[go_sem] theorem un_21 : Tryd.prog.underlying 21 = some (.int .i32) := by kernel_rfl
@[go_sem] theorem ze_21 : zeros Tryd.prog 21 = some [.sc (.int .i32 0)] := by kernel_rfl
@[go_sem] theorem az_21 : azero1 Tryd.prog 21 = some (.sc (.int .i32 0)) := by kernel_rfl
@[go_sem] theorem by_21 : bytesOf Tryd.prog 21 = 4 := by kernel_rfl
@[go_sem] theorem sz_22 : szOf Tryd.prog 22 = 1 := by kernel_rfl
@[go_sem] theorem kn_22 : knownT Tryd.prog 22 = true := by kernel_rfl
@[go_sem] theorem ag_22 : aggOf Tryd.prog 22 = false := by kernel_rfl
@[go_sem] theorem us_22 : (Tryd.prog.underlying 22).isSome = true := by kernel_rfl
@[go_sem] theorem el_22 : Go.PA.elemOf Tryd.prog 22 = some 3 := by kernel_rfl
@[go_sem] theorem un_22 : Tryd.prog.underlying 22 = some (.slice 3) := by kernel_rfl
@[go_sem] theorem ze_22 : zeros Tryd.prog 22 = some [.nil] := by kernel_rfl
@[go_sem] theorem az_22 : azero1 Tryd.prog 22 = some (.nil) := by kernel_rfl
@[go_sem] theorem by_22 : bytesOf Tryd.prog 22 = 24 := by kernel_rfl
@[go_sem] theorem sz_23 : szOf Tryd.prog 23 = 1 := by kernel_rfl
@[go_sem] theorem kn_23 : knownT Tryd.prog 23 = true := by kernel_rfl
@[go_sem] theorem ag_23 : aggOf Tryd.prog 23 = false := by kernel_rfl
@[go_sem] theorem us_23 : (Tryd.prog.underlying 23).isSome = true := by kernel_rfl
@[go_sem] theorem ze_23 : zeros Tryd.prog 23 = some [.sc (.pointer none)] := by kernel_rfl
@[go_sem] theorem by_23 : bytesOf Tryd.prog 23 = 8 := by kernel_rfl
@[go_sem] theorem sz_25 : szOf Tryd.prog 25 = 1 := by kernel_rfl
@[go_sem] theorem kn_25 : knownT Tryd.prog 25 = true := by kernel_rfl
@[go_sem] theorem ag_25 : aggOf Tryd.prog 25 = false := by kernel_rfl
@[go_sem] theorem us_25 : (Tryd.prog.underlying 25).isSome = true := by kernel_rfl
@[go_sem] theorem el_25 : Go.PA.elemOf Tryd.prog 25 = some 40 := by kernel_rfl
@[go_sem] theorem un_25 : Tryd.prog.underlying 25 = some (.slice 40) := by kernel_rfl
@[go_sem] theorem ze_25 : zeros Tryd.prog 25 = some [.nil] := by kernel_rfl
@[go_sem] theorem az_25 : azero1 Tryd.prog 25 = some (.nil) := by kernel_rfl
@[go_sem] theorem by_25 : bytesOf Tryd.prog 25 = 24 := by kernel_rfl
@[go_sem] theorem sz_26 : szOf Tryd.prog 26 = 1 := by kernel_rfl
@[go_sem] theorem kn_26 : knownT Tryd.prog 26 = true := by kernel_rfl
@[go_sem] theorem ag_26 : aggOf Tryd.prog 26 = false := by kernel_rfl
@[go_sem] theorem us_26 : (Tryd.prog.underlying 26).isSome = true := by kernel_rfl
@[go_sem] theorem el_26 : Go.PA.elemOf Tryd.prog 26 = some 35 := by kernel_rfl
@[go_sem] theorem un_26 : Tryd.prog.underlying 26 = some (.slice 35) := by kernel_rfl
@[go_sem] theorem ze_26 : zeros Tryd.prog 26 = some [.nil] := by kernel_rfl
@[go_sem] theorem az_26 : azero1 Tryd.prog 26 = some (.nil) := by kernel_rfl
@[go_sem] theorem by_26 : bytesOf Tryd.prog 26 = 24 := by kernel_rfl
@[go_sem] theorem sz_27 : szOf Tryd.prog 27 = 1 := by kernel_rfl
@[go_sem] theorem kn_27 : knownT Tryd.prog 27 = true := by kernel_rfl
@[go_sem] theorem ag_27 : aggOf Tryd.prog 27 = false := by kernel_rfl
@[go_sem] theorem us_27 : (Tryd.prog.underlying 27).isSome = true := by kernel_rfl
@[go_sem] theorem el_27 : Go.PA.elemOf Tryd.prog 27 = some 55 := by kernel_rfl
@[go_sem] theorem un_27 : Tryd.prog.underlying 27 = some (.slice 55) := by kernel_rfl
@[go_sem] theorem ze_27 : zeros Tryd.prog 27 = some [.nil] := by kernel_rfl
@[go_sem] theorem az_27 : azero1 Tryd.prog 27 = some (.nil) := by kernel_rfl
@[go_sem] theorem by_27 : bytesOf Tryd.prog 27 = 24 := by kernel_rfl
@[go_sem] theorem sz_28 : szOf Tryd.prog 28 = 4 := by kernel_rfl
@[go_sem] theorem kn_28 : knownT Tryd.prog 28 = true := by kernel_rfl
@[go_sem] theorem ag_28 : aggOf Tryd.prog 28 = true := by kernel_rfl
@[go_sem] theorem us_28 : (Tryd.prog.underlying 28).isSome = true := by kernel_rfl
@[go_sem] theorem fd_28_0 : fieldOf Tryd.prog 28 0 = some (0, 25) := by kernel_rfl
@[go_sem] theorem fd_28_1 : fieldOf Tryd.prog 28 1 = some (1, 26) := by kernel_rfl
@[go_sem] theorem fd_28_2 : fieldOf Tryd.prog 28 2 = some (2, 27) := by kernel_rfl
@[go_sem] theorem fd_28_3 : fieldOf Tryd.prog 28 3 = some (3, 22) := by kernel_rfl
@[go_sem] theorem el_28 : Go.PA.elemOf Tryd.prog 28 = none := by kernel_rfl
@[go_sem] theorem ar_28 : arrOf Tryd.prog 28 = none := by kernel_rfl
@[go_sem] theorem fk_28 : fieldsKnown Tryd.prog 28 = true := by kernel_rfl
@[go_sem] theorem ze_28 : zeros Tryd.prog 28 = some [.nil, .nil, .nil, .nil] := by kernel_rfl
@[go_sem] theorem by_28 : bytesOf Tryd.prog 28 = 96 := by kernel_rfl
@[go_sem] theorem sz_29 : szOf Tryd.prog 29 = 4 := by kernel_rfl
@[go_sem] theorem kn_29 : knownT Tryd.prog 29 = true := by kernel_rfl
@[go_sem] theorem ag_29 : aggOf Tryd.prog 29 = true := by kernel_rfl
@[go_sem] theorem us_29 : (Tryd.prog.underlying 29).isSome = true := by kernel_rfl
@[go_sem] theorem fd_29_0 : fieldOf Tryd.prog 29 0 = some (0, 25) := by kernel_rfl
@[go_sem] theorem fd_29_1 : fieldOf Tryd.prog 29 1 = some (1, 26) := by kernel_rfl
@[go_sem] theorem fd_29_2 : fieldOf Tryd.prog 29 2 = some (2, 27) := by kernel_rfl
@[go_sem] theorem fd_29_3 : fieldOf Tryd.prog 29 3 = some (3, 22) := by kernel_rfl
@[go_sem] theorem el_29 : Go.PA.elemOf Tryd.prog 29 = none := by kernel_rfl
@[go_sem] theorem ar_29 : arrOf Tryd.prog 29 = none := by kernel_rfl
@[go_sem] theorem fk_29 : fieldsKnown Tryd.prog 29 = true := by kernel_rfl
@[go_sem] theorem ze_29 : zeros Tryd.prog 29 = some [.nil, .nil, .nil, .nil] := by kernel_rfl
@[go_sem] theorem by_29 : bytesOf Tryd.prog 29 = 96 := by kernel_rfl
@[go_sem] theorem sz_30 : szOf Tryd.prog 30 = 1 := by kernel_rfl
@[go_sem] theorem kn_30 : knownT Tryd.prog 30 = true := by kernel_rfl
@[go_sem] theorem ag_30 : aggOf Tryd.prog 30 = false := by kernel_rfl
@[go_sem] theorem us_30 : (Tryd.prog.underlying 30).isSome = true := by kernel_rfl
@[go_sem] theorem un_30 : Tryd.prog.underlying 30 = some (.int .i64) := by kernel_rfl
@[go_sem] theorem ze_30 : zeros Tryd.prog 30 = some [.sc (.int .i64 0)] := by kernel_rfl
@[go_sem] theorem az_30 : azero1 Tryd.prog 30 = some (.sc (.int .i64 0)) := by kernel_rfl
@[go_sem] theorem by_30 : bytesOf Tryd.prog 30 = 8 := by kernel_rfl
@[go_sem] theorem sz_34 : szOf Tryd.prog 34 = 5 := by kernel_rfl
@[go_sem] theorem kn_34 : knownT Tryd.prog 34 = true := by kernel_rfl
@[go_sem] theorem ag_34 : aggOf Tryd.prog 34 = true := by kernel_rfl
@[go_sem] theorem us_34 : (Tryd.prog.underlying 34).isSome = true := by kernel_rfl
@[go_sem] theorem fd_34_0 : fieldOf Tryd.prog 34 0 = some (0, 3) := by kernel_rfl
@[go_sem] theorem fd_34_1 : fieldOf Tryd.prog 34 1 = some (1, 3) := by kernel_rfl
@[go_sem] theorem fd_34_2 : fieldOf Tryd.prog 34 2 = some (2, 3) := by kernel_rfl
@[go_sem] theorem fd_34_3 : fieldOf Tryd.prog 34 3 = some (3, 3) := by kernel_rfl
@[go_sem] theorem fd_34_4 : fieldOf Tryd.prog 34 4 = some (4, 3) := by kernel_rfl
@[go_sem] theorem el_34 : Go.PA.elemOf Tryd.prog 34 = none := by kernel_rfl
@[go_sem] theorem ar_34 : arrOf Tryd.prog 34 = none := by kernel_rfl
@[go_sem] theorem fk_34 : fieldsKnown Tryd.prog 34 = true := by kernel_rfl
@[go_sem] theorem sg_34 : sigOf Tryd.prog 34 = some [.int, .int, .int, .int, .int] := by kernel_rfl
@[go_sem] theorem ze_34 : zeros Tryd.prog 34 = some [.sc (.int .i64 0), .sc (.int .i64 0), .sc (.int .i64 0), .sc (.int .i64 0), .sc (.int .i64 0)] := by kernel_rfl
@[go_sem] theorem by_34 : bytesOf Tryd.prog 34 = 40 := by kernel_rfl
@[go_sem] theorem sz_35 : szOf Tryd.prog 35 = 5 := by kernel_rfl
@[go_sem] theorem kn_35 : knownT Tryd.prog 35 = true := by kernel_rfl
@[go_sem] theorem ag_35 : aggOf Tryd.prog 35 = true := by kernel_rfl
@[go_sem] theorem us_35 : (Tryd.prog.underlying 35).isSome = true := by kernel_rfl
@[go_sem] theorem fd_35_0 : fieldOf Tryd.prog 35 0 = some (0, 3) := by kernel_rfl
@[go_sem] theorem fd_35_1 : fieldOf Tryd.prog 35 1 = some (1, 3) := by kernel_rfl
@[go_sem] theorem fd_35_2 : fieldOf Tryd.prog 35 2 = some (2, 3) := by kernel_rfl
@[go_sem] theorem fd_35_3 : fieldOf Tryd.prog 35 3 = some (3, 3) := by kernel_rfl
@[go_sem] theorem fd_35_4 : fieldOf Tryd.prog 35 4 = some (4, 3) := by kernel_rfl
@[go_sem] theorem el_35 : Go.PA.elemOf Tryd.prog 35 = none := by kernel_rfl
@[go_sem] theorem ar_35 : arrOf Tryd.prog 35 = none := by kernel_rfl
@[go_sem] theorem fk_35 : fieldsKnown Tryd.prog 35 = true := by kernel_rfl
@[go_sem] theorem sg_35 : sigOf Tryd.prog 35 = some [.int, .int, .int, .int, .int] := by kernel_rfl
@[go_sem] theorem ze_35 : zeros Tryd.prog 35 = some [.sc (.int .i64 0), .sc (.int .i64 0), .sc (.int .i64 0), .sc (.int .i64 0), .sc (.int .i64 0)] := by kernel_rfl
@[go_sem] theorem by_35 : bytesOf Tryd.prog 35 = 40 := by kernel_rfl
@[go_sem] theorem sz_39 : szOf Tryd.prog 39 = 6 := by kernel_rfl
@[go_sem] theorem kn_39 : knownT Tryd.prog 39 = true := by kernel_rfl
@[go_sem] theorem ag_39 : aggOf Tryd.prog 39 = true := by kernel_rfl
@[go_sem] theorem us_39 : (Tryd.prog.underlying 39).isSome = true := by kernel_rfl
@[go_sem] theorem fd_39_0 : fieldOf Tryd.prog 39 0 = some (0, 3) := by kernel_rfl
@[go_sem] theorem fd_39_1 : fieldOf Tryd.prog 39 1 = some (1, 3) := by kernel_rfl
@[go_sem] theorem fd_39_2 : fieldOf Tryd.prog 39 2 = some (2, 3) := by kernel_rfl
@[go_sem] theorem fd_39_3 : fieldOf Tryd.prog 39 3 = some (3, 3) := by kernel_rfl
@[go_sem] theorem fd_39_4 : fieldOf Tryd.prog 39 4 = some (4, 3) := by kernel_rfl
@[go_sem] theorem fd_39_5 : fieldOf Tryd.prog 39 5 = some (5, 9) := by kernel_rfl
@[go_sem] theorem el_39 : Go.PA.elemOf Tryd.prog 39 = none := by kernel_rfl
@[go_sem] theorem ar_39 : arrOf Tryd.prog 39 = none := by kernel_rfl
@[go_sem] theorem fk_39 : fieldsKnown Tryd.prog 39 = true := by kernel_rfl
@[go_sem] theorem sg_39 : sigOf Tryd.prog 39 = some [.int, .int, .int, .int, .int, .str] := by kernel_rfl
@[go_sem] theorem ze_39 : zeros Tryd.prog 39 = some [.sc (.int .i64 0), .sc (.int .i64 0), .sc (.int .i64 0), .sc (.int .i64 0), .sc (.int .i64 0), .sc (.string ByteArray.empty)] := by kernel_rfl
@[go_sem] theorem by_39 : bytesOf Tryd.prog 39 = 56 := by kernel_rfl
@[go_sem] theorem sz_40 : szOf Tryd.prog 40 = 6 := by kernel_rfl
@[go_sem] theorem kn_40 : knownT Tryd.prog 40 = true := by kernel_rfl
@[go_sem] theorem ag_40 : aggOf Tryd.prog 40 = true := by kernel_rfl
@[go_sem] theorem us_40 : (Tryd.prog.underlying 40).isSome = true := by kernel_rfl
@[go_sem] theorem fd_40_0 : fieldOf Tryd.prog 40 0 = some (0, 3) := by kernel_rfl
@[go_sem] theorem fd_40_1 : fieldOf Tryd.prog 40 1 = some (1, 3) := by kernel_rfl
@[go_sem] theorem fd_40_2 : fieldOf Tryd.prog 40 2 = some (2, 3) := by kernel_rfl
@[go_sem] theorem fd_40_3 : fieldOf Tryd.prog 40 3 = some (3, 3) := by kernel_rfl
@[go_sem] theorem fd_40_4 : fieldOf Tryd.prog 40 4 = some (4, 3) := by kernel_rfl
@[go_sem] theorem fd_40_5 : fieldOf Tryd.prog 40 5 = some (5, 9) := by kernel_rfl
@[go_sem] theorem el_40 : Go.PA.elemOf Tryd.prog 40 = none := by kernel_rfl
@[go_sem] theorem ar_40 : arrOf Tryd.prog 40 = none := by kernel_rfl
@[go_sem] theorem fk_40 : fieldsKnown Tryd.prog 40 = true := by kernel_rfl
@[go_sem] theorem sg_40 : sigOf Tryd.prog 40 = some [.int, .int, .int, .int, .int, .str] := by kernel_rfl
@[go_sem] theorem ze_40 : zeros Tryd.prog 40 = some [.sc (.int .i64 0), .sc (.int .i64 0), .sc (.int .i64 0), .sc (.int .i64 0), .sc (.int .i64 0), .sc (.string ByteArray.empty)] := by kernel_rfl
@[go_sem] theorem by_40 : bytesOf Tryd.prog 40 = 56 := by kernel_rfl
@[go_sem] theorem sz_44 : szOf Tryd.prog 44 = 2 := by kernel_rfl
@[go_sem] theorem kn_44 : knownT Tryd.prog 44 = true := by kernel_rfl
@[go_sem] theorem ag_44 : aggOf Tryd.prog 44 = true := by kernel_rfl
@[go_sem] theorem us_44 : (Tryd.prog.underlying 44).isSome = true := by kernel_rfl
@[go_sem] theorem fd_44_0 : fieldOf Tryd.prog 44 0 = some (0, 22) := by kernel_rfl
@[go_sem] theorem fd_44_1 : fieldOf Tryd.prog 44 1 = some (1, 3) := by kernel_rfl
@[go_sem] theorem el_44 : Go.PA.elemOf Tryd.prog 44 = none := by kernel_rfl
@[go_sem] theorem ar_44 : arrOf Tryd.prog 44 = none := by kernel_rfl
@[go_sem] theorem fk_44 : fieldsKnown Tryd.prog 44 = true := by kernel_rfl
@[go_sem] theorem ze_44 : zeros Tryd.prog 44 = some [.nil, .sc (.int .i64 0)] := by kernel_rfl
@[go_sem] theorem by_44 : bytesOf Tryd.prog 44 = 32 := by kernel_rfl
@[go_sem] theorem sz_45 : szOf Tryd.prog 45 = 2 := by kernel_rfl
@[go_sem] theorem kn_45 : knownT Tryd.prog 45 = true := by kernel_rfl
@[go_sem] theorem ag_45 : aggOf Tryd.prog 45 = true := by kernel_rfl
@[go_sem] theorem us_45 : (Tryd.prog.underlying 45).isSome = true := by kernel_rfl
@[go_sem] theorem fd_45_0 : fieldOf Tryd.prog 45 0 = some (0, 22) := by kernel_rfl
@[go_sem] theorem fd_45_1 : fieldOf Tryd.prog 45 1 = some (1, 3) := by kernel_rfl
@[go_sem] theorem el_45 : Go.PA.elemOf Tryd.prog 45 = none := by kernel_rfl
@[go_sem] theorem ar_45 : arrOf Tryd.prog 45 = none := by kernel_rfl
@[go_sem] theorem fk_45 : fieldsKnown Tryd.prog 45 = true := by kernel_rfl
@[go_sem] theorem ze_45 : zeros Tryd.prog 45 = some [.nil, .sc (.int .i64 0)] := by kernel_rfl
@[go_sem] theorem by_45 : bytesOf Tryd.prog 45 = 32 := by kernel_rfl
@[go_sem] theorem sz_48 : szOf Tryd.prog 48 = 1 := by kernel_rfl
@[go_sem] theorem kn_48 : knownT Tryd.prog 48 = true := by kernel_rfl
@[go_sem] theorem ag_48 : aggOf Tryd.prog 48 = false := by kernel_rfl
@[go_sem] theorem us_48 : (Tryd.prog.underlying 48).isSome = true := by kernel_rfl
@[go_sem] theorem ze_48 : zeros Tryd.prog 48 = some [.sc (.pointer none)] := by kernel_rfl
@[go_sem] theorem by_48 : bytesOf Tryd.prog 48 = 8 := by kernel_rfl
@[go_sem] theorem sz_54 : szOf Tryd.prog 54 = 3 := by kernel_rfl
@[go_sem] theorem kn_54 : knownT Tryd.prog 54 = true := by kernel_rfl
@[go_sem] theorem ag_54 : aggOf Tryd.prog 54 = true := by kernel_rfl
@[go_sem] theorem us_54 : (Tryd.prog.underlying 54).isSome = true := by kernel_rfl
@[go_sem] theorem fd_54_0 : fieldOf Tryd.prog 54 0 = some (0, 3) := by kernel_rfl
@[go_sem] theorem fd_54_1 : fieldOf Tryd.prog 54 1 = some (1, 3) := by kernel_rfl
@[go_sem] theorem fd_54_2 : fieldOf Tryd.prog 54 2 = some (2, 3) := by kernel_rfl
@[go_sem] theorem el_54 : Go.PA.elemOf Tryd.prog 54 = none := by kernel_rfl
@[go_sem] theorem ar_54 : arrOf Tryd.prog 54 = none := by kernel_rfl
@[go_sem] theorem fk_54 : fieldsKnown Tryd.prog 54 = true := by kernel_rfl
@[go_sem] theorem sg_54 : sigOf Tryd.prog 54 = some [.int, .int, .int] := by kernel_rfl
@[go_sem] theorem ze_54 : zeros Tryd.prog 54 = some [.sc (.int .i64 0), .sc (.int .i64 0), .sc (.int .i64 0)] := by kernel_rfl
@[go_sem] theorem by_54 : bytesOf Tryd.prog 54 = 24 := by kernel_rfl
@[go_sem] theorem sz_55 : szOf Tryd.prog 55 = 3 := by kernel_rfl
@[go_sem] theorem kn_55 : knownT Tryd.prog 55 = true := by kernel_rfl
@[go_sem] theorem ag_55 : aggOf Tryd.prog 55 = true := by kernel_rfl
@[go_sem] theorem us_55 : (Tryd.prog.underlying 55).isSome = true := by kernel_rfl
@[go_sem] theorem fd_55_0 : fieldOf Tryd.prog 55 0 = some (0, 3) := by kernel_rfl
@[go_sem] theorem fd_55_1 : fieldOf Tryd.prog 55 1 = some (1, 3) := by kernel_rfl
@[go_sem] theorem fd_55_2 : fieldOf Tryd.prog 55 2 = some (2, 3) := by kernel_rfl
@[go_sem] theorem el_55 : Go.PA.elemOf Tryd.prog 55 = none := by kernel_rfl
@[go_sem] theorem ar_55 : arrOf Tryd.prog 55 = none := by kernel_rfl
@[go_sem] theorem fk_55 : fieldsKnown Tryd.prog 55 = true := by kernel_rfl
@[go_sem] theorem sg_55 : sigOf Tryd.prog 55 = some [.int, .int, .int] := by kernel_rfl
@[go_sem] theorem ze_55 : zeros Tryd.prog 55 = some [.sc (.int .i64 0), .sc (.int .i64 0), .sc (.int .i64 0)] := by kernel_rfl
@[go_sem] theorem by_55 : bytesOf Tryd.prog 55 = 24 := by kernel_rfl
@[go_sem] theorem sz_74 : szOf Tryd.prog 74 = 1 := by kernel_rfl
@[go_sem] theorem kn_74 : knownT Tryd.prog 74 = true := by kernel_rfl
@[go_sem] theorem ag_74 : aggOf Tryd.prog 74 = false := by kernel_rfl
@[go_sem] theorem us_74 : (Tryd.prog.underlying 74).isSome = true := by kernel_rfl
@[go_sem] theorem un_74 : Tryd.prog.underlying 74 = some (.int .u64) := by kernel_rfl
@[go_sem] theorem ze_74 : zeros Tryd.prog 74 = some [.sc (.int .u64 0)] := by kernel_rfl
@[go_sem] theorem az_74 : azero1 Tryd.prog 74 = some (.sc (.int .u64 0)) := by kernel_rfl
@[go_sem] theorem by_74 : bytesOf Tryd.prog 74 = 8 := by kernel_rfl
@[go_sem] theorem sz_100 : szOf Tryd.prog 100 = 1 := by kernel_rfl
@[go_sem] theorem kn_100 : knownT Tryd.prog 100 = true := by kernel_rfl
@[go_sem] theorem ag_100 : aggOf Tryd.prog 100 = false := by kernel_rfl
@[go_sem] theorem us_100 : (Tryd.prog.underlying 100).isSome = true := by kernel_rfl
@[go_sem] theorem el_100 : Go.PA.elemOf Tryd.prog 100 = some 5 := by kernel_rfl
@[go_sem] theorem un_100 : Tryd.prog.underlying 100 = some (.slice 5) := by kernel_rfl
@[go_sem] theorem ze_100 : zeros Tryd.prog 100 = some [.nil] := by kernel_rfl
@[go_sem] theorem az_100 : azero1 Tryd.prog 100 = some (.nil) := by kernel_rfl
@[go_sem] theorem by_100 : bytesOf Tryd.prog 100 = 24 := by kernel_rfl
@[go_sem] theorem sz_103 : szOf Tryd.prog 103 = 1 := by kernel_rfl
@[go_sem] theorem kn_103 : knownT Tryd.prog 103 = true := by kernel_rfl
@[go_sem] theorem ag_103 : aggOf Tryd.prog 103 = false := by kernel_rfl
@[go_sem] theorem us_103 : (Tryd.prog.underlying 103).isSome = true := by kernel_rfl
@[go_sem] theorem ze_103 : zeros Tryd.prog 103 = some [.sc (.pointer none)] := by kernel_rfl
@[go_sem] theorem by_103 : bytesOf Tryd.prog 103 = 8 := by kernel_rfl
@[go_sem] theorem sz_107 : szOf Tryd.prog 107 = 1 := by kernel_rfl
@[go_sem] theorem kn_107 : knownT Tryd.prog 107 = true := by kernel_rfl
@[go_sem] theorem ag_107 : aggOf Tryd.prog 107 = false := by kernel_rfl
@[go_sem] theorem us_107 : (Tryd.prog.underlying 107).isSome = true := by kernel_rfl
@[go_sem] theorem un_107 : Tryd.prog.underlying 107 = some (.int .u64) := by kernel_rfl
@[go_sem] theorem ze_107 : zeros Tryd.prog 107 = some [.sc (.int .u64 0)] := by kernel_rfl
@[go_sem] theorem az_107 : azero1 Tryd.prog 107 = some (.sc (.int .u64 0)) := by kernel_rfl
@[go_sem] theorem by_107 : bytesOf Tryd.prog 107 = 8 := by kernel_rfl
@[go_sem] theorem sz_111 : szOf Tryd.prog 111 = 3 := by kernel_rfl
@[go_sem] theorem kn_111 : knownT Tryd.prog 111 = true := by kernel_rfl
@[go_sem] theorem ag_111 : aggOf Tryd.prog 111 = true := by kernel_rfl
@[go_sem] theorem us_111 : (Tryd.prog.underlying 111).isSome = true := by kernel_rfl
@[go_sem] theorem fd_111_0 : fieldOf Tryd.prog 111 0 = some (0, 9) := by kernel_rfl
@[go_sem] theorem fd_111_1 : fieldOf Tryd.prog 111 1 = some (1, 9) := by kernel_rfl
@[go_sem] theorem fd_111_2 : fieldOf Tryd.prog 111 2 = some (2, 85) := by kernel_rfl
@[go_sem] theorem el_111 : Go.PA.elemOf Tryd.prog 111 = none := by kernel_rfl
@[go_sem] theorem ar_111 : arrOf Tryd.prog 111 = none := by kernel_rfl
@[go_sem] theorem fk_111 : fieldsKnown Tryd.prog 111 = true := by kernel_rfl
@[go_sem] theorem by_111 : bytesOf Tryd.prog 111 = 48 := by kernel_rfl
@[go_sem] theorem sz_112 : szOf Tryd.prog 112 = 3 := by kernel_rfl
@[go_sem] theorem kn_112 : knownT Tryd.prog 112 = true := by kernel_rfl
@[go_sem] theorem ag_112 : aggOf Tryd.prog 112 = true := by kernel_rfl
@[go_sem] theorem us_112 : (Tryd.prog.underlying 112).isSome = true := by kernel_rfl
@[go_sem] theorem fd_112_0 : fieldOf Tryd.prog 112 0 = some (0, 9) := by kernel_rfl
@[go_sem] theorem fd_112_1 : fieldOf Tryd.prog 112 1 = some (1, 9) := by kernel_rfl
@[go_sem] theorem fd_112_2 : fieldOf Tryd.prog 112 2 = some (2, 85) := by kernel_rfl
@[go_sem] theorem el_112 : Go.PA.elemOf Tryd.prog 112 = none := by kernel_rfl
@[go_sem] theorem ar_112 : arrOf Tryd.prog 112 = none := by kernel_rfl
@[go_sem] theorem fk_112 : fieldsKnown Tryd.prog 112 = true := by kernel_rfl
@[go_sem] theorem by_112 : bytesOf Tryd.prog 112 = 48 := by kernel_rfl
@[go_sem] theorem sz_114 : szOf Tryd.prog 114 = 24 := by kernel_rfl
@[go_sem] theorem kn_114 : knownT Tryd.prog 114 = true := by kernel_rfl
@[go_sem] theorem ag_114 : aggOf Tryd.prog 114 = true := by kernel_rfl
@[go_sem] theorem us_114 : (Tryd.prog.underlying 114).isSome = true := by kernel_rfl
@[go_sem] theorem el_114 : Go.PA.elemOf Tryd.prog 114 = none := by kernel_rfl
@[go_sem] theorem ar_114 : arrOf Tryd.prog 114 = some (24, 5) := by kernel_rfl
@[go_sem] theorem fk_114 : fieldsKnown Tryd.prog 114 = true := by kernel_rfl
@[go_sem] theorem fd_114_0 : fieldOf Tryd.prog 114 0 = none := by kernel_rfl
@[go_sem] theorem fd_114_1 : fieldOf Tryd.prog 114 1 = none := by kernel_rfl
@[go_sem] theorem fd_114_2 : fieldOf Tryd.prog 114 2 = none := by kernel_rfl
@[go_sem] theorem fd_114_3 : fieldOf Tryd.prog 114 3 = none := by kernel_rfl
@[go_sem] theorem fd_114_4 : fieldOf Tryd.prog 114 4 = none := by kernel_rfl
@[go_sem] theorem fd_114_5 : fieldOf Tryd.prog 114 5 = none := by kernel_rfl
@[go_sem] theorem fd_114_6 : fieldOf Tryd.prog 114 6 = none := by kernel_rfl
@[go_sem] theorem fd_114_7 : fieldOf Tryd.prog 114 7 = none := by kernel_rfl
@[go_sem] theorem ze_114 : zeros Tryd.prog 114 = some [.sc (.int .u8 0), .sc (.int .u8 0), .sc (.int .u8 0), .sc (.int .u8 0), .sc (.int .u8 0), .sc (.int .u8 0), .sc (.int .u8 0), .sc (.int .u8 0), .sc (.int .u8 0), .sc (.int .u8 0), .sc (.int .u8 0), .sc (.int .u8 0), .sc (.int .u8 0), .sc (.int .u8 0), .sc (.int .u8 0), .sc (.int .u8 0), .sc (.int .u8 0), .sc (.int .u8 0), .sc (.int .u8 0), .sc (.int .u8 0), .sc (.int .u8 0), .sc (.int .u8 0), .sc (.int .u8 0), .sc (.int .u8 0)] := by kernel_rfl
@[go_sem] theorem by_114 : bytesOf Tryd.prog 114 = 24 := by kernel_rfl
@[go_sem] theorem sz_119 : szOf Tryd.prog 119 = 256 := by kernel_rfl
@[go_sem] theorem kn_119 : knownT Tryd.prog 119 = true := by kernel_rfl
@[go_sem] theorem ag_119 : aggOf Tryd.prog 119 = true := by kernel_rfl
@[go_sem] theorem us_119 : (Tryd.prog.underlying 119).isSome = true := by kernel_rfl
@[go_sem] theorem el_119 : Go.PA.elemOf Tryd.prog 119 = none := by kernel_rfl
@[go_sem] theorem ar_119 : arrOf Tryd.prog 119 = some (256, 5) := by kernel_rfl
@[go_sem] theorem fk_119 : fieldsKnown Tryd.prog 119 = true := by kernel_rfl
@[go_sem] theorem fd_119_0 : fieldOf Tryd.prog 119 0 = none := by kernel_rfl
@[go_sem] theorem fd_119_1 : fieldOf Tryd.prog 119 1 = none := by kernel_rfl
@[go_sem] theorem fd_119_2 : fieldOf Tryd.prog 119 2 = none := by kernel_rfl
@[go_sem] theorem fd_119_3 : fieldOf Tryd.prog 119 3 = none := by kernel_rfl
@[go_sem] theorem fd_119_4 : fieldOf Tryd.prog 119 4 = none := by kernel_rfl
@[go_sem] theorem fd_119_5 : fieldOf Tryd.prog 119 5 = none := by kernel_rfl
@[go_sem] theorem fd_119_6 : fieldOf Tryd.prog 119 6 = none := by kernel_rfl
@[go_sem] theorem fd_119_7 : fieldOf Tryd.prog 119 7 = none := by kernel_rfl
theorem ze_119 : zeros Tryd.prog 119 = some (List.replicate 256 (.sc (.int .u8 0))) := by kernel_rfl
@[go_sem] theorem by_119 : bytesOf Tryd.prog 119 = 256 := by kernel_rfl
@[go_sem] theorem sz_120 : szOf Tryd.prog 120 = 2 := by kernel_rfl
@[go_sem] theorem kn_120 : knownT Tryd.prog 120 = true := by kernel_rfl
@[go_sem] theorem ag_120 : aggOf Tryd.prog 120 = true := by kernel_rfl
@[go_sem] theorem us_120 : (Tryd.prog.underlying 120).isSome = true := by kernel_rfl
@[go_sem] theorem fd_120_0 : fieldOf Tryd.prog 120 0 = some (0, 5) := by kernel_rfl
@[go_sem] theorem fd_120_1 : fieldOf Tryd.prog 120 1 = some (1, 5) := by kernel_rfl
@[go_sem] theorem el_120 : Go.PA.elemOf Tryd.prog 120 = none := by kernel_rfl
@[go_sem] theorem ar_120 : arrOf Tryd.prog 120 = none := by kernel_rfl
@[go_sem] theorem fk_120 : fieldsKnown Tryd.prog 120 = true := by kernel_rfl
@[go_sem] theorem sg_120 : sigOf Tryd.prog 120 = some [.int, .int] := by kernel_rfl
@[go_sem] theorem ze_120 : zeros Tryd.prog 120 = some [.sc (.int .u8 0), .sc (.int .u8 0)] := by kernel_rfl
@[go_sem] theorem by_120 : bytesOf Tryd.prog 120 = 2 := by kernel_rfl
@[go_sem] theorem sz_121 : szOf Tryd.prog 121 = 2 := by kernel_rfl
@[go_sem] theorem kn_121 : knownT Tryd.prog 121 = true := by kernel_rfl
@[go_sem] theorem ag_121 : aggOf Tryd.prog 121 = true := by kernel_rfl
@[go_sem] theorem us_121 : (Tryd.prog.underlying 121).isSome = true := by kernel_rfl
@[go_sem] theorem fd_121_0 : fieldOf Tryd.prog 121 0 = some (0, 5) := by kernel_rfl
@[go_sem] theorem fd_121_1 : fieldOf Tryd.prog 121 1 = some (1, 5) := by kernel_rfl
@[go_sem] theorem el_121 : Go.PA.elemOf Tryd.prog 121 = none := by kernel_rfl
@[go_sem] theorem ar_121 : arrOf Tryd.prog 121 = none := by kernel_rfl
@[go_sem] theorem fk_121 : fieldsKnown Tryd.prog 121 = true := by kernel_rfl
@[go_sem] theorem sg_121 : sigOf Tryd.prog 121 = some [.int, .int] := by kernel_rfl
@[go_sem] theorem ze_121 : zeros Tryd.prog 121 = some [.sc (.int .u8 0), .sc (.int .u8 0)] := by kernel_rfl
@[go_sem] theorem by_121 : bytesOf Tryd.prog 121 = 2 := by kernel_rfl
@[go_sem] theorem sz_122 : szOf Tryd.prog 122 = 32 := by kernel_rfl
@[go_sem] theorem kn_122 : knownT Tryd.prog 122 = true := by kernel_rfl
@[go_sem] theorem ag_122 : aggOf Tryd.prog 122 = true := by kernel_rfl
@[go_sem] theorem us_122 : (Tryd.prog.underlying 122).isSome = true := by kernel_rfl
@[go_sem] theorem el_122 : Go.PA.elemOf Tryd.prog 122 = none := by kernel_rfl
@[go_sem] theorem ar_122 : arrOf Tryd.prog 122 = some (16, 121) := by kernel_rfl
@[go_sem] theorem fk_122 : fieldsKnown Tryd.prog 122 = true := by kernel_rfl
@[go_sem] theorem fd_122_0 : fieldOf Tryd.prog 122 0 = none := by kernel_rfl
@[go_sem] theorem fd_122_1 : fieldOf Tryd.prog 122 1 = none := by kernel_rfl
@[go_sem] theorem fd_122_2 : fieldOf Tryd.prog 122 2 = none := by kernel_rfl
@[go_sem] theorem fd_122_3 : fieldOf Tryd.prog 122 3 = none := by kernel_rfl
@[go_sem] theorem fd_122_4 : fieldOf Tryd.prog 122 4 = none := by kernel_rfl
@[go_sem] theorem fd_122_5 : fieldOf Tryd.prog 122 5 = none := by kernel_rfl
@[go_sem] theorem fd_122_6 : fieldOf Tryd.prog 122 6 = none := by kernel_rfl
@[go_sem] theorem fd_122_7 : fieldOf Tryd.prog 122 7 = none := by kernel_rfl
@[go_sem] theorem ze_122 : zeros Tryd.prog 122 = some [.sc (.int .u8 0), .sc (.int .u8 0), .sc (.int .u8 0), .sc (.int .u8 0), .sc (.int .u8 0), .sc (.int .u8 0), .sc (.int .u8 0), .sc (.int .u8 0), .sc (.int .u8 0), .sc (.int .u8 0), .sc (.int .u8 0), .sc (.int .u8 0), .sc (.int .u8 0), .sc (.int .u8 0), .sc (.int .u8 0), .sc (.int .u8 0), .sc (.int .u8 0), .sc (.int .u8 0), .sc (.int .u8 0), .sc (.int .u8 0), .sc (.int .u8 0), .sc (.int .u8 0), .sc (.int .u8 0), .sc (.int .u8 0), .sc (.int .u8 0), .sc (.int .u8 0), .sc (.int .u8 0), .sc (.int .u8 0), .sc (.int .u8 0), .sc (.int .u8 0), .sc (.int .u8 0), .sc (.int .u8 0)] := by kernel_rfl
@[go_sem] theorem by_122 : bytesOf Tryd.prog 122 = 32 := by kernel_rfl
@[go_sem] theorem sz_125 : szOf Tryd.prog 125 = 1 := by kernel_rfl
@[go_sem] theorem kn_125 : knownT Tryd.prog 125 = true := by kernel_rfl
@[go_sem] theorem ag_125 : aggOf Tryd.prog 125 = false := by kernel_rfl
@[go_sem] theorem us_125 : (Tryd.prog.underlying 125).isSome = true := by kernel_rfl
@[go_sem] theorem ze_125 : zeros Tryd.prog 125 = some [.sc (.pointer none)] := by kernel_rfl
@[go_sem] theorem by_125 : bytesOf Tryd.prog 125 = 8 := by kernel_rfl
@[go_sem] theorem sz_126 : szOf Tryd.prog 126 = 1 := by kernel_rfl
@[go_sem] theorem kn_126 : knownT Tryd.prog 126 = true := by kernel_rfl
@[go_sem] theorem ag_126 : aggOf Tryd.prog 126 = false := by kernel_rfl
@[go_sem] theorem us_126 : (Tryd.prog.underlying 126).isSome = true := by kernel_rfl
@[go_sem] theorem ze_126 : zeros Tryd.prog 126 = some [.sc (.pointer none)] := by kernel_rfl
@[go_sem] theorem by_126 : bytesOf Tryd.prog 126 = 8 := by kernel_rfl
@[go_sem] theorem sz_127 : szOf Tryd.prog 127 = 1 := by kernel_rfl
@[go_sem] theorem kn_127 : knownT Tryd.prog 127 = true := by kernel_rfl
@[go_sem] theorem ag_127 : aggOf Tryd.prog 127 = true := by kernel_rfl
@[go_sem] theorem us_127 : (Tryd.prog.underlying 127).isSome = true := by kernel_rfl
@[go_sem] theorem fd_127_0 : fieldOf Tryd.prog 127 0 = some (0, 9) := by kernel_rfl
@[go_sem] theorem el_127 : Go.PA.elemOf Tryd.prog 127 = none := by kernel_rfl
@[go_sem] theorem ar_127 : arrOf Tryd.prog 127 = none := by kernel_rfl
@[go_sem] theorem fk_127 : fieldsKnown Tryd.prog 127 = true := by kernel_rfl
@[go_sem] theorem sg_127 : sigOf Tryd.prog 127 = some [.str] := by kernel_rfl
@[go_sem] theorem ze_127 : zeros Tryd.prog 127 = some [.sc (.string ByteArray.empty)] := by kernel_rfl
@[go_sem] theorem by_127 : bytesOf Tryd.prog 127 = 16 := by kernel_rfl
@[go_sem] theorem sz_128 : szOf Tryd.prog 128 = 1 := by kernel_rfl
@[go_sem] theorem kn_128 : knownT Tryd.prog 128 = true := by kernel_rfl
@[go_sem] theorem ag_128 : aggOf Tryd.prog 128 = true := by kernel_rfl
@[go_sem] theorem us_128 : (Tryd.prog.underlying 128).isSome = true := by kernel_rfl
@[go_sem] theorem fd_128_0 : fieldOf Tryd.prog 128 0 = some (0, 9) := by kernel_rfl
@[go_sem] theorem el_128 : Go.PA.elemOf Tryd.prog 128 = none := by kernel_rfl
@[go_sem] theorem ar_128 : arrOf Tryd.prog 128 = none := by kernel_rfl
@[go_sem] theorem fk_128 : fieldsKnown Tryd.prog 128 = true := by kernel_rfl
@[go_sem] theorem sg_128 : sigOf Tryd.prog 128 = some [.str] := by kernel_rfl
@[go_sem] theorem ze_128 : zeros Tryd.prog 128 = some [.sc (.string ByteArray.empty)] := by kernel_rfl
@[go_sem] theorem by_128 : bytesOf Tryd.prog 128 = 16 := by kernel_rfl
@[go_sem] theorem sz_130 : szOf Tryd.prog 130 = 20 := by kernel_rfl
@[go_sem] theorem kn_130 : knownT Tryd.prog 130 = true := by kernel_rfl
@[go_sem] theorem ag_130 : aggOf Tryd.prog 130 = true := by kernel_rfl
@[go_sem] theorem us_130 : (Tryd.prog.underlying 130).isSome = true := by kernel_rfl
@[go_sem] theorem el_130 : Go.PA.elemOf Tryd.prog 130 = none := by kernel_rfl
@[go_sem] theorem ar_130 : arrOf Tryd.prog 130 = some (20, 107) := by kernel_rfl
@[go_sem] theorem fk_130 : fieldsKnown Tryd.prog 130 = true := by kernel_rfl
@[go_sem] theorem fd_130_0 : fieldOf Tryd.prog 130 0 = none := by kernel_rfl
@[go_sem] theorem fd_130_1 : fieldOf Tryd.prog 130 1 = none := by kernel_rfl
@[go_sem] theorem fd_130_2 : fieldOf Tryd.prog 130 2 = none := by kernel_rfl
@[go_sem] theorem fd_130_3 : fieldOf Tryd.prog 130 3 = none := by kernel_rfl
@[go_sem] theorem fd_130_4 : fieldOf Tryd.prog 130 4 = none := by kernel_rfl
@[go_sem] theorem fd_130_5 : fieldOf Tryd.prog 130 5 = none := by kernel_rfl
@[go_sem] theorem fd_130_6 : fieldOf Tryd.prog 130 6 = none := by kernel_rfl
@[go_sem] theorem fd_130_7 : fieldOf Tryd.prog 130 7 = none := by kernel_rfl
@[go_sem] theorem ze_130 : zeros Tryd.prog 130 = some [.sc (.int .u64 0), .sc (.int .u64 0), .sc (.int .u64 0), .sc (.int .u64 0), .sc (.int .u64 0), .sc (.int .u64 0), .sc (.int .u64 0), .sc (.int .u64 0), .sc (.int .u64 0), .sc (.int .u64 0), .sc (.int .u64 0), .sc (.int .u64 0), .sc (.int .u64 0), .sc (.int .u64 0), .sc (.int .u64 0), .sc (.int .u64 0), .sc (.int .u64 0), .sc (.int .u64 0), .sc (.int .u64 0), .sc (.int .u64 0)] := by kernel_rfl
@[go_sem] theorem by_130 : bytesOf Tryd.prog 130 = 160 := by kernel_rfl
@[go_sem] theorem sz_131 : szOf Tryd.prog 131 = 1 := by kernel_rfl
@[go_sem] theorem kn_131 : knownT Tryd.prog 131 = true := by kernel_rfl
@[go_sem] theorem ag_131 : aggOf Tryd.prog 131 = false := by kernel_rfl
@[go_sem] theorem us_131 : (Tryd.prog.underlying 131).isSome = true := by kernel_rfl
@[go_sem] theorem un_131 : Tryd.prog.underlying 131 = some (.int .u32) := by kernel_rfl
@[go_sem] theorem ze_131 : zeros Tryd.prog 131 = some [.sc (.int .u32 0)] := by kernel_rfl
@[go_sem] theorem az_131 : azero1 Tryd.prog 131 = some (.sc (.int .u32 0)) := by kernel_rfl
@[go_sem] theorem by_131 : bytesOf Tryd.prog 131 = 4 := by kernel_rfl
@[go_sem] theorem sz_132 : szOf Tryd.prog 132 = 65 := by kernel_rfl
@[go_sem] theorem kn_132 : knownT Tryd.prog 132 = true := by kernel_rfl
@[go_sem] theorem ag_132 : aggOf Tryd.prog 132 = true := by kernel_rfl
@[go_sem] theorem us_132 : (Tryd.prog.underlying 132).isSome = true := by kernel_rfl
@[go_sem] theorem el_132 : Go.PA.elemOf Tryd.prog 132 = none := by kernel_rfl
@[go_sem] theorem ar_132 : arrOf Tryd.prog 132 = some (65, 5) := by kernel_rfl
@[go_sem] theorem fk_132 : fieldsKnown Tryd.prog 132 = true := by kernel_rfl
@[go_sem] theorem fd_132_0 : fieldOf Tryd.prog 132 0 = none := by kernel_rfl
@[go_sem] theorem fd_132_1 : fieldOf Tryd.prog 132 1 = none := by kernel_rfl
@[go_sem] theorem fd_132_2 : fieldOf Tryd.prog 132 2 = none := by kernel_rfl
@[go_sem] theorem fd_132_3 : fieldOf Tryd.prog 132 3 = none := by kernel_rfl
@[go_sem] theorem fd_132_4 : fieldOf Tryd.prog 132 4 = none := by kernel_rfl
@[go_sem] theorem fd_132_5 : fieldOf Tryd.prog 132 5 = none := by kernel_rfl
@[go_sem] theorem fd_132_6 : fieldOf Tryd.prog 132 6 = none := by kernel_rfl
@[go_sem] theorem fd_132_7 : fieldOf Tryd.prog 132 7 = none := by kernel_rfl
theorem ze_132 : zeros Tryd.prog 132 = some (List.replicate 65 (.sc (.int .u8 0))) := by kernel_rfl
@[go_sem] theorem by_132 : bytesOf Tryd.prog 132 = 65 := by kernel_rfl
@[go_sem] theorem sz_137 : szOf Tryd.prog 137 = 32 := by kernel_rfl
@[go_sem] theorem kn_137 : knownT Tryd.prog 137 = true := by kernel_rfl
@[go_sem] theorem ag_137 : aggOf Tryd.prog 137 = true := by kernel_rfl
@[go_sem] theorem us_137 : (Tryd.prog.underlying 137).isSome = true := by kernel_rfl
@[go_sem] theorem el_137 : Go.PA.elemOf Tryd.prog 137 = none := by kernel_rfl
@[go_sem] theorem ar_137 : arrOf Tryd.prog 137 = some (32, 5) := by kernel_rfl
@[go_sem] theorem fk_137 : fieldsKnown Tryd.prog 137 = true := by kernel_rfl
@[go_sem] theorem fd_137_0 : fieldOf Tryd.prog 137 0 = none := by kernel_rfl
@[go_sem] theorem fd_137_1 : fieldOf Tryd.prog 137 1 = none := by kernel_rfl
@[go_sem] theorem fd_137_2 : fieldOf Tryd.prog 137 2 = none := by kernel_rfl
@[go_sem] theorem fd_137_3 : fieldOf Tryd.prog 137 3 = none := by kernel_rfl
@[go_sem] theorem fd_137_4 : fieldOf Tryd.prog 137 4 = none := by kernel_rfl
@[go_sem] theorem fd_137_5 : fieldOf Tryd.prog 137 5 = none := by kernel_rfl
@[go_sem] theorem fd_137_6 : fieldOf Tryd.prog 137 6 = none := by kernel_rfl
@[go_sem] theorem fd_137_7 : fieldOf Tryd.prog 137 7 = none := by kernel_rfl
@[go_sem] theorem ze_137 : zeros Tryd.prog 137 = some [.sc (.int .u8 0), .sc (.int .u8 0), .sc (.int .u8 0), .sc (.int .u8 0), .sc (.int .u8 0), .sc (.int .u8 0), .sc (.int .u8 0), .sc (.int .u8 0), .sc (.int .u8 0), .sc (.int .u8 0), .sc (.int .u8 0), .sc (.int .u8 0), .sc (.int .u8 0), .sc (.int .u8 0), .sc (.int .u8 0), .sc (.int .u8 0), .sc (.int .u8 0), .sc (.int .u8 0), .sc (.int .u8 0), .sc (.int .u8 0), .sc (.int .u8 0), .sc (.int .u8 0), .sc (.int .u8 0), .sc (.int .u8 0), .sc (.int .u8 0), .sc (.int .u8 0), .sc (.int .u8 0), .sc (.int .u8 0), .sc (.int .u8 0), .sc (.int .u8 0), .sc (.int .u8 0), .sc (.int .u8 0)] := by kernel_rfl
@[go_sem] theorem by_137 : bytesOf Tryd.prog 137 = 32 := by kernel_rfl
@[go_sem] theorem sz_138 : szOf Tryd.prog 138 = 64 := by kernel_rfl
@[go_sem] theorem kn_138 : knownT Tryd.prog 138 = true := by kernel_rfl
@[go_sem] theorem ag_138 : aggOf Tryd.prog 138 = true := by kernel_rfl
@[go_sem] theorem us_138 : (Tryd.prog.underlying 138).isSome = true := by kernel_rfl
@[go_sem] theorem el_138 : Go.PA.elemOf Tryd.prog 138 = none := by kernel_rfl
@[go_sem] theorem ar_138 : arrOf Tryd.prog 138 = some (64, 5) := by kernel_rfl
@[go_sem] theorem fk_138 : fieldsKnown Tryd.prog 138 = true := by kernel_rfl
@[go_sem] theorem fd_138_0 : fieldOf Tryd.prog 138 0 = none := by kernel_rfl
@[go_sem] theorem fd_138_1 : fieldOf Tryd.prog 138 1 = none := by kernel_rfl
@[go_sem] theorem fd_138_2 : fieldOf Tryd.prog 138 2 = none := by kernel_rfl
@[go_sem] theorem fd_138_3 : fieldOf Tryd.prog 138 3 = none := by kernel_rfl
@[go_sem] theorem fd_138_4 : fieldOf Tryd.prog 138 4 = none := by kernel_rfl
@[go_sem] theorem fd_138_5 : fieldOf Tryd.prog 138 5 = none := by kernel_rfl
@[go_sem] theorem fd_138_6 : fieldOf Tryd.prog 138 6 = none := by kernel_rfl
@[go_sem] theorem fd_138_7 : fieldOf Tryd.prog 138 7 = none := by kernel_rfl
theorem ze_138 : zeros Tryd.prog 138 = some (List.replicate 64 (.sc (.int .u8 0))) := by kernel_rfl
@[go_sem] theorem by_138 : bytesOf Tryd.prog 138 = 64 := by kernel_rfl
@[go_sem] theorem en_3 : enterable Tryd.prog 3 = true := by kernel_rfl -- treasury/treasurylaw27.ReceiptLate
@[go_sem] theorem en_4 : enterable Tryd.prog 4 = true := by kernel_rfl -- treasury/treasuryplay.New
@[go_sem] theorem en_5 : enterable Tryd.prog 5 = true := by kernel_rfl -- treasury/receipt.Take
@[go_sem] theorem en_6 : enterable Tryd.prog 6 = true := by kernel_rfl -- (*treasury/treasuryplay.Src).Pick
@[go_sem] theorem en_7 : enterable Tryd.prog 7 = true := by kernel_rfl -- (*treasury/treasuryplay.Src).Range
@[go_sem] theorem en_8 : enterable Tryd.prog 8 = true := by kernel_rfl -- treasury/receipt.Add
@[go_sem] theorem en_9 : enterable Tryd.prog 9 = true := by kernel_rfl -- treasury/receipt.Owed
@[go_sem] theorem en_10 : enterable Tryd.prog 10 = true := by kernel_rfl -- treasury/receipt.Loose
@[go_sem] theorem en_11 : enterable Tryd.prog 11 = true := by kernel_rfl -- treasury/treasurylaw27.sane
@[go_sem] theorem en_12 : enterable Tryd.prog 12 = true := by kernel_rfl -- treasury/receipt.Check
@[go_sem] theorem en_13 : enterable Tryd.prog 13 = true := by kernel_rfl -- treasury/receipt.income
@[go_sem] theorem en_14 : enterable Tryd.prog 14 = true := by kernel_rfl -- treasury/receipt.copied
@[go_sem] theorem en_15 : enterable Tryd.prog 15 = true := by kernel_rfl -- treasury/receipt.claimAt
@[go_sem] theorem en_16 : enterable Tryd.prog 16 = true := by kernel_rfl -- treasury/receipt.match
@[go_sem] theorem en_17 : enterable Tryd.prog 17 = true := by kernel_rfl -- treasury/receipt.exact
@[go_sem] theorem en_18 : enterable Tryd.prog 18 = true := by kernel_rfl -- treasury/receipt.open
@[go_sem] theorem en_19 : enterable Tryd.prog 19 = true := by kernel_rfl -- slices.Clone[[]treasury/api.Match,treasury/api.Match]
@[go_sem] theorem en_20 : enterable Tryd.prog 20 = true := by kernel_rfl -- (*treasury/treasuryplay.Src).N
@[go_sem] theorem en_21 : enterable Tryd.prog 21 = true := by kernel_rfl -- slices.BinarySearchFunc[[]treasury/api.Claim,treasury/api.Claim,int]
@[go_sem] theorem en_22 : enterable Tryd.prog 22 = true := by kernel_rfl -- treasury/receipt.Add$1
@[go_sem] theorem en_23 : enterable Tryd.prog 23 = true := by kernel_rfl -- cmp.Compare[int]
@[go_sem] theorem en_24 : enterable Tryd.prog 24 = true := by kernel_rfl -- treasury/receipt.Claim
@[go_sem] theorem en_25 : enterable Tryd.prog 25 = true := by kernel_rfl -- slices.Insert[[]treasury/api.Claim,treasury/api.Claim]
@[go_sem] theorem en_26 : enterable Tryd.prog 26 = true := by kernel_rfl -- treasury/receipt.New
@[go_sem] theorem en_27 : enterable Tryd.prog 27 = true := by kernel_rfl -- treasury/receipt.claims
@[go_sem] theorem en_28 : enterable Tryd.prog 28 = true := by kernel_rfl -- treasury/receipt.incomes
@[go_sem] theorem en_29 : enterable Tryd.prog 29 = true := by kernel_rfl -- treasury/receipt.matched
@[go_sem] theorem en_30 : enterable Tryd.prog 30 = true := by kernel_rfl -- treasury/receipt.among
@[go_sem] theorem en_31 : enterable Tryd.prog 31 = true := by kernel_rfl -- treasury/receipt.positive
@[go_sem] theorem en_32 : enterable Tryd.prog 32 = true := by kernel_rfl -- slices.Clone[[]treasury/api.Claim,treasury/api.Claim]
@[go_sem] theorem en_33 : enterable Tryd.prog 33 = true := by kernel_rfl -- slices.Clone[[]treasury/api.Income,treasury/api.Income]
@[go_sem] theorem en_34 : enterable Tryd.prog 34 = true := by kernel_rfl -- slices.Clone[[]int,int]
@[go_sem] theorem en_35 : enterable Tryd.prog 35 = true := by kernel_rfl -- slices.IndexFunc[[]treasury/api.Claim,treasury/api.Claim]
@[go_sem] theorem en_36 : enterable Tryd.prog 36 = true := by kernel_rfl -- treasury/receipt.claimAt$1
@[go_sem] theorem en_37 : enterable Tryd.prog 37 = true := by kernel_rfl -- slices.DeleteFunc[[]int,int]
@[go_sem] theorem en_38 : enterable Tryd.prog 38 = true := by kernel_rfl -- treasury/receipt.exact$1
@[go_sem] theorem en_39 : enterable Tryd.prog 39 = true := by kernel_rfl -- slices.SortStableFunc[[]int,int]
@[go_sem] theorem en_40 : enterable Tryd.prog 40 = true := by kernel_rfl -- treasury/receipt.open$1
@[go_sem] theorem en_41 : enterable Tryd.prog 41 = true := by kernel_rfl -- cmp.isNaN[int]
@[go_sem] theorem en_42 : enterable Tryd.prog 42 = true := by kernel_rfl -- treasury/classification.Parts
@[go_sem] theorem en_44 : enterable Tryd.prog 44 = true := by kernel_rfl -- slices.rotateRight[treasury/api.Claim]
@[go_sem] theorem en_45 : enterable Tryd.prog 45 = true := by kernel_rfl -- treasury/receipt.New$1
@[go_sem] theorem en_46 : enterable Tryd.prog 46 = true := by kernel_rfl -- slices.ContainsFunc[[]treasury/api.Claim,treasury/api.Claim]
@[go_sem] theorem en_47 : enterable Tryd.prog 47 = true := by kernel_rfl -- treasury/receipt.incomeAt
@[go_sem] theorem en_48 : enterable Tryd.prog 48 = true := by kernel_rfl -- treasury/money.Valid
@[go_sem] theorem en_49 : enterable Tryd.prog 49 = true := by kernel_rfl -- slices.IndexFunc[[]int,int]
@[go_sem] theorem en_50 : enterable Tryd.prog 50 = true := by kernel_rfl -- slices.stableCmpFunc[int]
@[go_sem] theorem en_51 : enterable Tryd.prog 51 = true := by kernel_rfl -- strings.SplitSeq
@[go_sem] theorem en_52 : enterable Tryd.prog 52 = true := by kernel_rfl -- strconv.Atoi
@[go_sem] theorem en_53 : enterable Tryd.prog 53 = true := by kernel_rfl -- strconv.Itoa
@[go_sem] theorem en_54 : enterable Tryd.prog 54 = true := by kernel_rfl -- slices.rotateLeft[treasury/api.Claim]
@[go_sem] theorem en_55 : enterable Tryd.prog 55 = true := by kernel_rfl -- slices.IndexFunc[[]treasury/api.Income,treasury/api.Income]
@[go_sem] theorem en_56 : enterable Tryd.prog 56 = true := by kernel_rfl -- treasury/receipt.incomeAt$1
@[go_sem] theorem en_57 : enterable Tryd.prog 57 = true := by kernel_rfl -- slices.insertionSortCmpFunc[int]
@[go_sem] theorem en_58 : enterable Tryd.prog 58 = true := by kernel_rfl -- slices.symMergeCmpFunc[int]
@[go_sem] theorem en_59 : enterable Tryd.prog 59 = true := by kernel_rfl -- strings.splitSeq
@[go_sem] theorem en_61 : enterable Tryd.prog 61 = true := by kernel_rfl -- strconv.toError
@[go_sem] theorem en_63 : enterable Tryd.prog 63 = true := by kernel_rfl -- slices.Reverse[[]treasury/api.Claim,treasury/api.Claim]
@[go_sem] theorem en_64 : enterable Tryd.prog 64 = true := by kernel_rfl -- slices.rotateCmpFunc[int]
@[go_sem] theorem en_65 : enterable Tryd.prog 65 = true := by kernel_rfl -- strings.splitSeq$1
@[go_sem] theorem en_66 : enterable Tryd.prog 66 = true := by kernel_rfl -- unicode/utf8.DecodeRuneInString
@[go_sem] theorem en_67 : enterable Tryd.prog 67 = true := by kernel_rfl -- strings.Index
@[go_sem] theorem en_69 : enterable Tryd.prog 69 = true := by kernel_rfl -- strconv.syntaxError
@[go_sem] theorem en_70 : enterable Tryd.prog 70 = true := by kernel_rfl -- strconv.rangeError
@[go_sem] theorem en_71 : enterable Tryd.prog 71 = true := by kernel_rfl -- strconv.baseError
@[go_sem] theorem en_72 : enterable Tryd.prog 72 = true := by kernel_rfl -- strconv.bitSizeError
@[go_sem] theorem en_74 : enterable Tryd.prog 74 = true := by kernel_rfl -- slices.swapRangeCmpFunc[int]
@[go_sem] theorem en_75 : enterable Tryd.prog 75 = true := by kernel_rfl -- unicode/utf8.decodeRuneInStringSlow
@[go_sem] theorem en_79 : enterable Tryd.prog 79 = true := by kernel_rfl -- errors.New
@[go_sem] theorem en_91 : enterable Tryd.prog 91 = true := by kernel_rfl -- math/bits.Len64
@[go_sem] theorem en_94 : enterable Tryd.prog 94 = true := by kernel_rfl -- math/bits.TrailingZeros
@[go_sem] theorem en_97 : enterable Tryd.prog 97 = true := by kernel_rfl -- math/bits.TrailingZeros32
@[go_sem] theorem en_98 : enterable Tryd.prog 98 = true := by kernel_rfl -- math/bits.TrailingZeros64
@[go_sem] theorem rs_3 : Tryd.f3.results.toList = [.tmp 2] := rfl
@[go_sem] theorem rs_4 : Tryd.f4.results.toList = [.tmp 2] := rfl
@[go_sem] theorem rs_5 : Tryd.f5.results.toList = [.cell 4 29, .tmp 5, .tmp 6] := rfl
@[go_sem] theorem rs_6 : Tryd.f6.results.toList = [.tmp 4] := rfl
@[go_sem] theorem rs_7 : Tryd.f7.results.toList = [.tmp 6] := rfl
@[go_sem] theorem rs_8 : Tryd.f8.results.toList = [.cell 4 29, .tmp 5] := rfl
@[go_sem] theorem rs_9 : Tryd.f9.results.toList = [.tmp 4] := rfl
@[go_sem] theorem rs_10 : Tryd.f10.results.toList = [.tmp 4] := rfl
@[go_sem] theorem rs_11 : Tryd.f11.results.toList = [.tmp 0] := rfl
@[go_sem] theorem rs_12 : Tryd.f12.results.toList = [.tmp 2] := rfl
@[go_sem] theorem rs_13 : Tryd.f13.results.toList = [.tmp 2] := rfl
@[go_sem] theorem rs_14 : Tryd.f14.results.toList = [.tmp 2] := rfl
@[go_sem] theorem rs_15 : Tryd.f15.results.toList = [.tmp 4] := rfl
@[go_sem] theorem rs_16 : Tryd.f16.results.toList = [] := rfl
@[go_sem] theorem rs_17 : Tryd.f17.results.toList = [.tmp 6] := rfl
@[go_sem] theorem rs_18 : Tryd.f18.results.toList = [.tmp 4] := rfl
@[go_sem] theorem rs_19 : Tryd.f19.results.toList = [.tmp 2] := rfl
@[go_sem] theorem rs_20 : Tryd.f20.results.toList = [.tmp 4] := rfl
@[go_sem] theorem rs_21 : Tryd.f21.results.toList = [.tmp 6, .tmp 7] := rfl
@[go_sem] theorem rs_22 : Tryd.f22.results.toList = [.tmp 4] := rfl
@[go_sem] theorem rs_23 : Tryd.f23.results.toList = [.tmp 4] := rfl
@[go_sem] theorem rs_24 : Tryd.f24.results.toList = [.tmp 2] := rfl
@[go_sem] theorem rs_25 : Tryd.f25.results.toList = [.tmp 6] := rfl
@[go_sem] theorem rs_26 : Tryd.f26.results.toList = [.cell 2 29, .tmp 3] := rfl
@[go_sem] theorem rs_27 : Tryd.f27.results.toList = [.tmp 2] := rfl
@[go_sem] theorem rs_28 : Tryd.f28.results.toList = [.tmp 2] := rfl
@[go_sem] theorem rs_29 : Tryd.f29.results.toList = [.tmp 2] := rfl
@[go_sem] theorem rs_30 : Tryd.f30.results.toList = [.tmp 6] := rfl
@[go_sem] theorem rs_31 : Tryd.f31.results.toList = [.tmp 2] := rfl
@[go_sem] theorem rs_32 : Tryd.f32.results.toList = [.tmp 2] := rfl
@[go_sem] theorem rs_33 : Tryd.f33.results.toList = [.tmp 2] := rfl
@[go_sem] theorem rs_34 : Tryd.f34.results.toList = [.tmp 2] := rfl
@[go_sem] theorem rs_35 : Tryd.f35.results.toList = [.tmp 4] := rfl
@[go_sem] theorem rs_36 : Tryd.f36.results.toList = [.tmp 3] := rfl
@[go_sem] theorem rs_37 : Tryd.f37.results.toList = [.tmp 4] := rfl
@[go_sem] theorem rs_38 : Tryd.f38.results.toList = [.tmp 4] := rfl
@[go_sem] theorem rs_39 : Tryd.f39.results.toList = [] := rfl
@[go_sem] theorem rs_40 : Tryd.f40.results.toList = [.tmp 5] := rfl
@[go_sem] theorem rs_41 : Tryd.f41.results.toList = [.tmp 2] := rfl
@[go_sem] theorem rs_42 : Tryd.f42.results.toList = [.cell 2 22] := rfl
@[go_sem] theorem rs_43 : Tryd.f43.results.toList = [] := rfl
@[go_sem] theorem rs_44 : Tryd.f44.results.toList = [] := rfl
@[go_sem] theorem rs_45 : Tryd.f45.results.toList = [.tmp 2] := rfl
@[go_sem] theorem rs_46 : Tryd.f46.results.toList = [.tmp 4] := rfl
@[go_sem] theorem rs_47 : Tryd.f47.results.toList = [.tmp 4] := rfl
@[go_sem] theorem rs_48 : Tryd.f48.results.toList = [.tmp 2] := rfl
@[go_sem] theorem rs_49 : Tryd.f49.results.toList = [.tmp 4] := rfl
@[go_sem] theorem rs_50 : Tryd.f50.results.toList = [] := rfl
@[go_sem] theorem rs_51 : Tryd.f51.results.toList = [.tmp 4] := rfl
@[go_sem] theorem rs_52 : Tryd.f52.results.toList = [.tmp 2, .tmp 3] := rfl
@[go_sem] theorem rs_53 : Tryd.f53.results.toList = [.tmp 2] := rfl
@[go_sem] theorem rs_54 : Tryd.f54.results.toList = [] := rfl
@[go_sem] theorem rs_55 : Tryd.f55.results.toList = [.tmp 4] := rfl
@[go_sem] theorem rs_56 : Tryd.f56.results.toList = [.tmp 3] := rfl
@[go_sem] theorem rs_57 : Tryd.f57.results.toList = [] := rfl
@[go_sem] theorem rs_58 : Tryd.f58.results.toList = [] := rfl
@[go_sem] theorem rs_59 : Tryd.f59.results.toList = [.tmp 6] := rfl
@[go_sem] theorem rs_61 : Tryd.f61.results.toList = [.tmp 10] := rfl
@[go_sem] theorem rs_63 : Tryd.f63.results.toList = [] := rfl
@[go_sem] theorem rs_64 : Tryd.f64.results.toList = [] := rfl
@[go_sem] theorem rs_65 : Tryd.f65.results.toList = [] := rfl
@[go_sem] theorem rs_66 : Tryd.f66.results.toList = [.tmp 2, .tmp 3] := rfl
@[go_sem] theorem rs_67 : Tryd.f67.results.toList = [.tmp 4] := rfl
@[go_sem] theorem rs_69 : Tryd.f69.results.toList = [.tmp 4] := rfl
@[go_sem] theorem rs_70 : Tryd.f70.results.toList = [.tmp 4] := rfl
@[go_sem] theorem rs_71 : Tryd.f71.results.toList = [.tmp 6] := rfl
@[go_sem] theorem rs_72 : Tryd.f72.results.toList = [.tmp 6] := rfl
@[go_sem] theorem rs_74 : Tryd.f74.results.toList = [] := rfl
@[go_sem] theorem rs_75 : Tryd.f75.results.toList = [.tmp 2, .tmp 3] := rfl
@[go_sem] theorem rs_79 : Tryd.f79.results.toList = [.tmp 2] := rfl
@[go_sem] theorem rs_91 : Tryd.f91.results.toList = [.tmp 2] := rfl
@[go_sem] theorem rs_94 : Tryd.f94.results.toList = [.tmp 2] := rfl
@[go_sem] theorem rs_97 : Tryd.f97.results.toList = [.tmp 2] := rfl
@[go_sem] theorem rs_98 : Tryd.f98.results.toList = [.tmp 2] := rfl
@[go_sem] theorem rs_114 : Tryd.f114.results.toList = [] := rfl
@[go_sem] theorem rs_116 : Tryd.f116.results.toList = [] := rfl
@[go_sem] theorem rs_117 : Tryd.f117.results.toList = [] := rfl
@[go_sem] theorem rs_121 : Tryd.f121.results.toList = [] := rfl
@[go_sem] theorem rs_122 : Tryd.f122.results.toList = [] := rfl
@[go_sem] theorem rs_123 : Tryd.f123.results.toList = [] := rfl
@[go_sem] theorem rs_124 : Tryd.f124.results.toList = [] := rfl
@[go_sem] theorem rs_126 : Tryd.f126.results.toList = [] := rfl
@[go_sem] theorem rs_127 : Tryd.f127.results.toList = [] := rfl

end Go.Proofs.YtgapbmaehfdkoaaDoor
