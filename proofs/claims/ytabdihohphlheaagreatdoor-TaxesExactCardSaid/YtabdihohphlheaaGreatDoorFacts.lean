/- The types and functions of this seat's program, as PA reads them. Printed by wip/facts.py. -/
import Derived.Test.YtabdihohphlheaaGreatDoorPaB
import Derived.Test.YtabdihohphlheaaGreatDoorProg
import Derived.KernelRfl
namespace Go.Proofs.YtabdihohphlheaaGreatDoor
open Go.PA

@[go_sem] theorem sz_2 : szOf Tryz.prog 2 = 1 := by kernel_rfl
@[go_sem] theorem kn_2 : knownT Tryz.prog 2 = true := by kernel_rfl
@[go_sem] theorem ag_2 : aggOf Tryz.prog 2 = false := by kernel_rfl
@[go_sem] theorem us_2 : (Tryz.prog.underlying 2).isSome = true := by kernel_rfl
@[go_sem] theorem un_2 : Tryz.prog.underlying 2 = some (.int .i64) := by kernel_rfl
@[go_sem] theorem ze_2 : zeros Tryz.prog 2 = some [.sc (.int .i64 0)] := by kernel_rfl
@[go_sem] theorem az_2 : azero1 Tryz.prog 2 = some (.sc (.int .i64 0)) := by kernel_rfl
@[go_sem] theorem by_2 : bytesOf Tryz.prog 2 = 8 := by kernel_rfl
@[go_sem] theorem sz_3 : szOf Tryz.prog 3 = 1 := by kernel_rfl
@[go_sem] theorem kn_3 : knownT Tryz.prog 3 = true := by kernel_rfl
@[go_sem] theorem ag_3 : aggOf Tryz.prog 3 = false := by kernel_rfl
@[go_sem] theorem us_3 : (Tryz.prog.underlying 3).isSome = true := by kernel_rfl
@[go_sem] theorem un_3 : Tryz.prog.underlying 3 = some (.int .i64) := by kernel_rfl
@[go_sem] theorem ze_3 : zeros Tryz.prog 3 = some [.sc (.int .i64 0)] := by kernel_rfl
@[go_sem] theorem az_3 : azero1 Tryz.prog 3 = some (.sc (.int .i64 0)) := by kernel_rfl
@[go_sem] theorem by_3 : bytesOf Tryz.prog 3 = 8 := by kernel_rfl
@[go_sem] theorem sz_4 : szOf Tryz.prog 4 = 1 := by kernel_rfl
@[go_sem] theorem kn_4 : knownT Tryz.prog 4 = true := by kernel_rfl
@[go_sem] theorem ag_4 : aggOf Tryz.prog 4 = false := by kernel_rfl
@[go_sem] theorem us_4 : (Tryz.prog.underlying 4).isSome = true := by kernel_rfl
@[go_sem] theorem un_4 : Tryz.prog.underlying 4 = some .bool := by kernel_rfl
@[go_sem] theorem ze_4 : zeros Tryz.prog 4 = some [.sc (.bool false)] := by kernel_rfl
@[go_sem] theorem az_4 : azero1 Tryz.prog 4 = some (.sc (.bool false)) := by kernel_rfl
@[go_sem] theorem by_4 : bytesOf Tryz.prog 4 = 1 := by kernel_rfl
@[go_sem] theorem sz_5 : szOf Tryz.prog 5 = 1 := by kernel_rfl
@[go_sem] theorem kn_5 : knownT Tryz.prog 5 = true := by kernel_rfl
@[go_sem] theorem ag_5 : aggOf Tryz.prog 5 = false := by kernel_rfl
@[go_sem] theorem us_5 : (Tryz.prog.underlying 5).isSome = true := by kernel_rfl
@[go_sem] theorem un_5 : Tryz.prog.underlying 5 = some (.int .u8) := by kernel_rfl
@[go_sem] theorem ze_5 : zeros Tryz.prog 5 = some [.sc (.int .u8 0)] := by kernel_rfl
@[go_sem] theorem az_5 : azero1 Tryz.prog 5 = some (.sc (.int .u8 0)) := by kernel_rfl
@[go_sem] theorem by_5 : bytesOf Tryz.prog 5 = 1 := by kernel_rfl
@[go_sem] theorem sz_9 : szOf Tryz.prog 9 = 1 := by kernel_rfl
@[go_sem] theorem kn_9 : knownT Tryz.prog 9 = true := by kernel_rfl
@[go_sem] theorem ag_9 : aggOf Tryz.prog 9 = false := by kernel_rfl
@[go_sem] theorem us_9 : (Tryz.prog.underlying 9).isSome = true := by kernel_rfl
@[go_sem] theorem un_9 : Tryz.prog.underlying 9 = some .string := by kernel_rfl
@[go_sem] theorem ze_9 : zeros Tryz.prog 9 = some [.sc (.string ByteArray.empty)] := by kernel_rfl
@[go_sem] theorem az_9 : azero1 Tryz.prog 9 = some (.sc (.string ByteArray.empty)) := by kernel_rfl
@[go_sem] theorem by_9 : bytesOf Tryz.prog 9 = 16 := by kernel_rfl
@[go_sem] theorem sz_12 : szOf Tryz.prog 12 = 1 := by kernel_rfl
@[go_sem] theorem kn_12 : knownT Tryz.prog 12 = true := by kernel_rfl
@[go_sem] theorem ag_12 : aggOf Tryz.prog 12 = false := by kernel_rfl
@[go_sem] theorem us_12 : (Tryz.prog.underlying 12).isSome = true := by kernel_rfl
@[go_sem] theorem un_12 : Tryz.prog.underlying 12 = some (.int .u64) := by kernel_rfl
@[go_sem] theorem ze_12 : zeros Tryz.prog 12 = some [.sc (.int .u64 0)] := by kernel_rfl
@[go_sem] theorem az_12 : azero1 Tryz.prog 12 = some (.sc (.int .u64 0)) := by kernel_rfl
@[go_sem] theorem by_12 : bytesOf Tryz.prog 12 = 8 := by kernel_rfl
@[go_sem] theorem sz_17 : szOf Tryz.prog 17 = 1 := by kernel_rfl
@[go_sem] theorem kn_17 : knownT Tryz.prog 17 = true := by kernel_rfl
@[go_sem] theorem ag_17 : aggOf Tryz.prog 17 = false := by kernel_rfl
@[go_sem] theorem us_17 : (Tryz.prog.underlying 17).isSome = true := by kernel_rfl
@[go_sem] theorem ze_17 : zeros Tryz.prog 17 = some [.sc (.pointer none)] := by kernel_rfl
@[go_sem] theorem by_17 : bytesOf Tryz.prog 17 = 8 := by kernel_rfl
@[go_sem] theorem sz_21 : szOf Tryz.prog 21 = 1 := by kernel_rfl
@[go_sem] theorem kn_21 : knownT Tryz.prog 21 = true := by kernel_rfl
@[go_sem] theorem ag_21 : aggOf Tryz.prog 21 = false := by kernel_rfl
@[go_sem] theorem us_21 : (Tryz.prog.underlying 21).isSome = true := by kernel_rfl
@[go_sem] theorem un_21 : Tryz.prog.underlying 21 = some (.int .i32) := by kernel_rfl
@[go_sem] theorem ze_21 : zeros Tryz.prog 21 = some [.sc (.int .i32 0)] := by kernel_rfl
@[go_sem] theorem az_21 : azero1 Tryz.prog 21 = some (.sc (.int .i32 0)) := by kernel_rfl
@[go_sem] theorem by_21 : bytesOf Tryz.prog 21 = 4 := by kernel_rfl
@[go_sem] theorem sz_22 : szOf Tryz.prog 22 = 1 := by kernel_rfl
@[go_sem] theorem kn_22 : knownT Tryz.prog 22 = true := by kernel_rfl
@[go_sem] theorem ag_22 : aggOf Tryz.prog 22 = false := by kernel_rfl
@[go_sem] theorem us_22 : (Tryz.prog.underlying 22).isSome = true := by kernel_rfl
@[go_sem] theorem el_22 : Go.PA.elemOf Tryz.prog 22 = some 3 := by kernel_rfl
@[go_sem] theorem un_22 : Tryz.prog.underlying 22 = some (.slice 3) := by kernel_rfl
@[go_sem] theorem ze_22 : zeros Tryz.prog 22 = some [.nil] := by kernel_rfl
@[go_sem] theorem az_22 : azero1 Tryz.prog 22 = some (.nil) := by kernel_rfl
@[go_sem] theorem by_22 : bytesOf Tryz.prog 22 = 24 := by kernel_rfl
@[go_sem] theorem sz_23 : szOf Tryz.prog 23 = 1 := by kernel_rfl
@[go_sem] theorem kn_23 : knownT Tryz.prog 23 = true := by kernel_rfl
@[go_sem] theorem ag_23 : aggOf Tryz.prog 23 = false := by kernel_rfl
@[go_sem] theorem us_23 : (Tryz.prog.underlying 23).isSome = true := by kernel_rfl
@[go_sem] theorem el_23 : Go.PA.elemOf Tryz.prog 23 = some 30 := by kernel_rfl
@[go_sem] theorem un_23 : Tryz.prog.underlying 23 = some (.slice 30) := by kernel_rfl
@[go_sem] theorem ze_23 : zeros Tryz.prog 23 = some [.nil] := by kernel_rfl
@[go_sem] theorem az_23 : azero1 Tryz.prog 23 = some (.nil) := by kernel_rfl
@[go_sem] theorem by_23 : bytesOf Tryz.prog 23 = 24 := by kernel_rfl
@[go_sem] theorem sz_26 : szOf Tryz.prog 26 = 1 := by kernel_rfl
@[go_sem] theorem kn_26 : knownT Tryz.prog 26 = true := by kernel_rfl
@[go_sem] theorem ag_26 : aggOf Tryz.prog 26 = false := by kernel_rfl
@[go_sem] theorem us_26 : (Tryz.prog.underlying 26).isSome = true := by kernel_rfl
@[go_sem] theorem ze_26 : zeros Tryz.prog 26 = some [.sc (.pointer none)] := by kernel_rfl
@[go_sem] theorem by_26 : bytesOf Tryz.prog 26 = 8 := by kernel_rfl
@[go_sem] theorem sz_29 : szOf Tryz.prog 29 = 8 := by kernel_rfl
@[go_sem] theorem kn_29 : knownT Tryz.prog 29 = true := by kernel_rfl
@[go_sem] theorem ag_29 : aggOf Tryz.prog 29 = true := by kernel_rfl
@[go_sem] theorem us_29 : (Tryz.prog.underlying 29).isSome = true := by kernel_rfl
@[go_sem] theorem fd_29_0 : fieldOf Tryz.prog 29 0 = some (0, 9) := by kernel_rfl
@[go_sem] theorem fd_29_1 : fieldOf Tryz.prog 29 1 = some (1, 3) := by kernel_rfl
@[go_sem] theorem fd_29_2 : fieldOf Tryz.prog 29 2 = some (2, 3) := by kernel_rfl
@[go_sem] theorem fd_29_3 : fieldOf Tryz.prog 29 3 = some (3, 3) := by kernel_rfl
@[go_sem] theorem fd_29_4 : fieldOf Tryz.prog 29 4 = some (4, 3) := by kernel_rfl
@[go_sem] theorem fd_29_5 : fieldOf Tryz.prog 29 5 = some (5, 3) := by kernel_rfl
@[go_sem] theorem fd_29_6 : fieldOf Tryz.prog 29 6 = some (6, 3) := by kernel_rfl
@[go_sem] theorem fd_29_7 : fieldOf Tryz.prog 29 7 = some (7, 3) := by kernel_rfl
@[go_sem] theorem el_29 : Go.PA.elemOf Tryz.prog 29 = none := by kernel_rfl
@[go_sem] theorem ar_29 : arrOf Tryz.prog 29 = none := by kernel_rfl
@[go_sem] theorem fk_29 : fieldsKnown Tryz.prog 29 = true := by kernel_rfl
@[go_sem] theorem sg_29 : sigOf Tryz.prog 29 = some [.str, .int, .int, .int, .int, .int, .int, .int] := by kernel_rfl
@[go_sem] theorem ze_29 : zeros Tryz.prog 29 = some [.sc (.string ByteArray.empty), .sc (.int .i64 0), .sc (.int .i64 0), .sc (.int .i64 0), .sc (.int .i64 0), .sc (.int .i64 0), .sc (.int .i64 0), .sc (.int .i64 0)] := by kernel_rfl
@[go_sem] theorem by_29 : bytesOf Tryz.prog 29 = 72 := by kernel_rfl
@[go_sem] theorem sz_30 : szOf Tryz.prog 30 = 8 := by kernel_rfl
@[go_sem] theorem kn_30 : knownT Tryz.prog 30 = true := by kernel_rfl
@[go_sem] theorem ag_30 : aggOf Tryz.prog 30 = true := by kernel_rfl
@[go_sem] theorem us_30 : (Tryz.prog.underlying 30).isSome = true := by kernel_rfl
@[go_sem] theorem fd_30_0 : fieldOf Tryz.prog 30 0 = some (0, 9) := by kernel_rfl
@[go_sem] theorem fd_30_1 : fieldOf Tryz.prog 30 1 = some (1, 3) := by kernel_rfl
@[go_sem] theorem fd_30_2 : fieldOf Tryz.prog 30 2 = some (2, 3) := by kernel_rfl
@[go_sem] theorem fd_30_3 : fieldOf Tryz.prog 30 3 = some (3, 3) := by kernel_rfl
@[go_sem] theorem fd_30_4 : fieldOf Tryz.prog 30 4 = some (4, 3) := by kernel_rfl
@[go_sem] theorem fd_30_5 : fieldOf Tryz.prog 30 5 = some (5, 3) := by kernel_rfl
@[go_sem] theorem fd_30_6 : fieldOf Tryz.prog 30 6 = some (6, 3) := by kernel_rfl
@[go_sem] theorem fd_30_7 : fieldOf Tryz.prog 30 7 = some (7, 3) := by kernel_rfl
@[go_sem] theorem el_30 : Go.PA.elemOf Tryz.prog 30 = none := by kernel_rfl
@[go_sem] theorem ar_30 : arrOf Tryz.prog 30 = none := by kernel_rfl
@[go_sem] theorem fk_30 : fieldsKnown Tryz.prog 30 = true := by kernel_rfl
@[go_sem] theorem sg_30 : sigOf Tryz.prog 30 = some [.str, .int, .int, .int, .int, .int, .int, .int] := by kernel_rfl
@[go_sem] theorem ze_30 : zeros Tryz.prog 30 = some [.sc (.string ByteArray.empty), .sc (.int .i64 0), .sc (.int .i64 0), .sc (.int .i64 0), .sc (.int .i64 0), .sc (.int .i64 0), .sc (.int .i64 0), .sc (.int .i64 0)] := by kernel_rfl
@[go_sem] theorem by_30 : bytesOf Tryz.prog 30 = 72 := by kernel_rfl
@[go_sem] theorem sz_36 : szOf Tryz.prog 36 = 3 := by kernel_rfl
@[go_sem] theorem kn_36 : knownT Tryz.prog 36 = true := by kernel_rfl
@[go_sem] theorem ag_36 : aggOf Tryz.prog 36 = true := by kernel_rfl
@[go_sem] theorem us_36 : (Tryz.prog.underlying 36).isSome = true := by kernel_rfl
@[go_sem] theorem el_36 : Go.PA.elemOf Tryz.prog 36 = none := by kernel_rfl
@[go_sem] theorem ar_36 : arrOf Tryz.prog 36 = some (3, 23) := by kernel_rfl
@[go_sem] theorem fk_36 : fieldsKnown Tryz.prog 36 = true := by kernel_rfl
@[go_sem] theorem fd_36_0 : fieldOf Tryz.prog 36 0 = none := by kernel_rfl
@[go_sem] theorem fd_36_1 : fieldOf Tryz.prog 36 1 = none := by kernel_rfl
@[go_sem] theorem fd_36_2 : fieldOf Tryz.prog 36 2 = none := by kernel_rfl
@[go_sem] theorem ze_36 : zeros Tryz.prog 36 = some [.nil, .nil, .nil] := by kernel_rfl
@[go_sem] theorem by_36 : bytesOf Tryz.prog 36 = 72 := by kernel_rfl
@[go_sem] theorem sz_37 : szOf Tryz.prog 37 = 1 := by kernel_rfl
@[go_sem] theorem kn_37 : knownT Tryz.prog 37 = true := by kernel_rfl
@[go_sem] theorem ag_37 : aggOf Tryz.prog 37 = false := by kernel_rfl
@[go_sem] theorem us_37 : (Tryz.prog.underlying 37).isSome = true := by kernel_rfl
@[go_sem] theorem un_37 : Tryz.prog.underlying 37 = some (.int .i64) := by kernel_rfl
@[go_sem] theorem ze_37 : zeros Tryz.prog 37 = some [.sc (.int .i64 0)] := by kernel_rfl
@[go_sem] theorem az_37 : azero1 Tryz.prog 37 = some (.sc (.int .i64 0)) := by kernel_rfl
@[go_sem] theorem by_37 : bytesOf Tryz.prog 37 = 8 := by kernel_rfl
@[go_sem] theorem sz_43 : szOf Tryz.prog 43 = 2 := by kernel_rfl
@[go_sem] theorem kn_43 : knownT Tryz.prog 43 = true := by kernel_rfl
@[go_sem] theorem ag_43 : aggOf Tryz.prog 43 = true := by kernel_rfl
@[go_sem] theorem us_43 : (Tryz.prog.underlying 43).isSome = true := by kernel_rfl
@[go_sem] theorem el_43 : Go.PA.elemOf Tryz.prog 43 = none := by kernel_rfl
@[go_sem] theorem ar_43 : arrOf Tryz.prog 43 = some (2, 3) := by kernel_rfl
@[go_sem] theorem fk_43 : fieldsKnown Tryz.prog 43 = true := by kernel_rfl
@[go_sem] theorem fd_43_0 : fieldOf Tryz.prog 43 0 = none := by kernel_rfl
@[go_sem] theorem fd_43_1 : fieldOf Tryz.prog 43 1 = none := by kernel_rfl
@[go_sem] theorem ze_43 : zeros Tryz.prog 43 = some [.sc (.int .i64 0), .sc (.int .i64 0)] := by kernel_rfl
@[go_sem] theorem by_43 : bytesOf Tryz.prog 43 = 16 := by kernel_rfl
@[go_sem] theorem sz_44 : szOf Tryz.prog 44 = 6 := by kernel_rfl
@[go_sem] theorem kn_44 : knownT Tryz.prog 44 = true := by kernel_rfl
@[go_sem] theorem ag_44 : aggOf Tryz.prog 44 = true := by kernel_rfl
@[go_sem] theorem us_44 : (Tryz.prog.underlying 44).isSome = true := by kernel_rfl
@[go_sem] theorem el_44 : Go.PA.elemOf Tryz.prog 44 = none := by kernel_rfl
@[go_sem] theorem ar_44 : arrOf Tryz.prog 44 = some (3, 43) := by kernel_rfl
@[go_sem] theorem fk_44 : fieldsKnown Tryz.prog 44 = true := by kernel_rfl
@[go_sem] theorem fd_44_0 : fieldOf Tryz.prog 44 0 = none := by kernel_rfl
@[go_sem] theorem fd_44_1 : fieldOf Tryz.prog 44 1 = none := by kernel_rfl
@[go_sem] theorem fd_44_2 : fieldOf Tryz.prog 44 2 = none := by kernel_rfl
@[go_sem] theorem ze_44 : zeros Tryz.prog 44 = some [.sc (.int .i64 0), .sc (.int .i64 0), .sc (.int .i64 0), .sc (.int .i64 0), .sc (.int .i64 0), .sc (.int .i64 0)] := by kernel_rfl
@[go_sem] theorem by_44 : bytesOf Tryz.prog 44 = 48 := by kernel_rfl
@[go_sem] theorem sz_45 : szOf Tryz.prog 45 = 1 := by kernel_rfl
@[go_sem] theorem kn_45 : knownT Tryz.prog 45 = true := by kernel_rfl
@[go_sem] theorem ag_45 : aggOf Tryz.prog 45 = false := by kernel_rfl
@[go_sem] theorem us_45 : (Tryz.prog.underlying 45).isSome = true := by kernel_rfl
@[go_sem] theorem el_45 : Go.PA.elemOf Tryz.prog 45 = some 59 := by kernel_rfl
@[go_sem] theorem un_45 : Tryz.prog.underlying 45 = some (.slice 59) := by kernel_rfl
@[go_sem] theorem ze_45 : zeros Tryz.prog 45 = some [.nil] := by kernel_rfl
@[go_sem] theorem az_45 : azero1 Tryz.prog 45 = some (.nil) := by kernel_rfl
@[go_sem] theorem by_45 : bytesOf Tryz.prog 45 = 24 := by kernel_rfl
@[go_sem] theorem sz_48 : szOf Tryz.prog 48 = 1 := by kernel_rfl
@[go_sem] theorem kn_48 : knownT Tryz.prog 48 = true := by kernel_rfl
@[go_sem] theorem ag_48 : aggOf Tryz.prog 48 = false := by kernel_rfl
@[go_sem] theorem us_48 : (Tryz.prog.underlying 48).isSome = true := by kernel_rfl
@[go_sem] theorem el_48 : Go.PA.elemOf Tryz.prog 48 = some 73 := by kernel_rfl
@[go_sem] theorem un_48 : Tryz.prog.underlying 48 = some (.slice 73) := by kernel_rfl
@[go_sem] theorem ze_48 : zeros Tryz.prog 48 = some [.nil] := by kernel_rfl
@[go_sem] theorem az_48 : azero1 Tryz.prog 48 = some (.nil) := by kernel_rfl
@[go_sem] theorem by_48 : bytesOf Tryz.prog 48 = 24 := by kernel_rfl
@[go_sem] theorem sz_54 : szOf Tryz.prog 54 = 3 := by kernel_rfl
@[go_sem] theorem kn_54 : knownT Tryz.prog 54 = true := by kernel_rfl
@[go_sem] theorem ag_54 : aggOf Tryz.prog 54 = true := by kernel_rfl
@[go_sem] theorem us_54 : (Tryz.prog.underlying 54).isSome = true := by kernel_rfl
@[go_sem] theorem el_54 : Go.PA.elemOf Tryz.prog 54 = none := by kernel_rfl
@[go_sem] theorem ar_54 : arrOf Tryz.prog 54 = some (3, 9) := by kernel_rfl
@[go_sem] theorem fk_54 : fieldsKnown Tryz.prog 54 = true := by kernel_rfl
@[go_sem] theorem fd_54_0 : fieldOf Tryz.prog 54 0 = none := by kernel_rfl
@[go_sem] theorem fd_54_1 : fieldOf Tryz.prog 54 1 = none := by kernel_rfl
@[go_sem] theorem fd_54_2 : fieldOf Tryz.prog 54 2 = none := by kernel_rfl
@[go_sem] theorem ze_54 : zeros Tryz.prog 54 = some [.sc (.string ByteArray.empty), .sc (.string ByteArray.empty), .sc (.string ByteArray.empty)] := by kernel_rfl
@[go_sem] theorem by_54 : bytesOf Tryz.prog 54 = 48 := by kernel_rfl
@[go_sem] theorem sz_58 : szOf Tryz.prog 58 = 4 := by kernel_rfl
@[go_sem] theorem kn_58 : knownT Tryz.prog 58 = true := by kernel_rfl
@[go_sem] theorem ag_58 : aggOf Tryz.prog 58 = true := by kernel_rfl
@[go_sem] theorem us_58 : (Tryz.prog.underlying 58).isSome = true := by kernel_rfl
@[go_sem] theorem fd_58_0 : fieldOf Tryz.prog 58 0 = some (0, 3) := by kernel_rfl
@[go_sem] theorem fd_58_1 : fieldOf Tryz.prog 58 1 = some (1, 3) := by kernel_rfl
@[go_sem] theorem fd_58_2 : fieldOf Tryz.prog 58 2 = some (2, 3) := by kernel_rfl
@[go_sem] theorem fd_58_3 : fieldOf Tryz.prog 58 3 = some (3, 3) := by kernel_rfl
@[go_sem] theorem el_58 : Go.PA.elemOf Tryz.prog 58 = none := by kernel_rfl
@[go_sem] theorem ar_58 : arrOf Tryz.prog 58 = none := by kernel_rfl
@[go_sem] theorem fk_58 : fieldsKnown Tryz.prog 58 = true := by kernel_rfl
@[go_sem] theorem sg_58 : sigOf Tryz.prog 58 = some [.int, .int, .int, .int] := by kernel_rfl
@[go_sem] theorem ze_58 : zeros Tryz.prog 58 = some [.sc (.int .i64 0), .sc (.int .i64 0), .sc (.int .i64 0), .sc (.int .i64 0)] := by kernel_rfl
@[go_sem] theorem by_58 : bytesOf Tryz.prog 58 = 32 := by kernel_rfl
@[go_sem] theorem sz_59 : szOf Tryz.prog 59 = 4 := by kernel_rfl
@[go_sem] theorem kn_59 : knownT Tryz.prog 59 = true := by kernel_rfl
@[go_sem] theorem ag_59 : aggOf Tryz.prog 59 = true := by kernel_rfl
@[go_sem] theorem us_59 : (Tryz.prog.underlying 59).isSome = true := by kernel_rfl
@[go_sem] theorem fd_59_0 : fieldOf Tryz.prog 59 0 = some (0, 3) := by kernel_rfl
@[go_sem] theorem fd_59_1 : fieldOf Tryz.prog 59 1 = some (1, 3) := by kernel_rfl
@[go_sem] theorem fd_59_2 : fieldOf Tryz.prog 59 2 = some (2, 3) := by kernel_rfl
@[go_sem] theorem fd_59_3 : fieldOf Tryz.prog 59 3 = some (3, 3) := by kernel_rfl
@[go_sem] theorem el_59 : Go.PA.elemOf Tryz.prog 59 = none := by kernel_rfl
@[go_sem] theorem ar_59 : arrOf Tryz.prog 59 = none := by kernel_rfl
@[go_sem] theorem fk_59 : fieldsKnown Tryz.prog 59 = true := by kernel_rfl
@[go_sem] theorem sg_59 : sigOf Tryz.prog 59 = some [.int, .int, .int, .int] := by kernel_rfl
@[go_sem] theorem ze_59 : zeros Tryz.prog 59 = some [.sc (.int .i64 0), .sc (.int .i64 0), .sc (.int .i64 0), .sc (.int .i64 0)] := by kernel_rfl
@[go_sem] theorem by_59 : bytesOf Tryz.prog 59 = 32 := by kernel_rfl
@[go_sem] theorem sz_60 : szOf Tryz.prog 60 = 2 := by kernel_rfl
@[go_sem] theorem kn_60 : knownT Tryz.prog 60 = true := by kernel_rfl
@[go_sem] theorem ag_60 : aggOf Tryz.prog 60 = true := by kernel_rfl
@[go_sem] theorem us_60 : (Tryz.prog.underlying 60).isSome = true := by kernel_rfl
@[go_sem] theorem fd_60_0 : fieldOf Tryz.prog 60 0 = some (0, 22) := by kernel_rfl
@[go_sem] theorem fd_60_1 : fieldOf Tryz.prog 60 1 = some (1, 3) := by kernel_rfl
@[go_sem] theorem el_60 : Go.PA.elemOf Tryz.prog 60 = none := by kernel_rfl
@[go_sem] theorem ar_60 : arrOf Tryz.prog 60 = none := by kernel_rfl
@[go_sem] theorem fk_60 : fieldsKnown Tryz.prog 60 = true := by kernel_rfl
@[go_sem] theorem ze_60 : zeros Tryz.prog 60 = some [.nil, .sc (.int .i64 0)] := by kernel_rfl
@[go_sem] theorem by_60 : bytesOf Tryz.prog 60 = 32 := by kernel_rfl
@[go_sem] theorem sz_61 : szOf Tryz.prog 61 = 2 := by kernel_rfl
@[go_sem] theorem kn_61 : knownT Tryz.prog 61 = true := by kernel_rfl
@[go_sem] theorem ag_61 : aggOf Tryz.prog 61 = true := by kernel_rfl
@[go_sem] theorem us_61 : (Tryz.prog.underlying 61).isSome = true := by kernel_rfl
@[go_sem] theorem fd_61_0 : fieldOf Tryz.prog 61 0 = some (0, 22) := by kernel_rfl
@[go_sem] theorem fd_61_1 : fieldOf Tryz.prog 61 1 = some (1, 3) := by kernel_rfl
@[go_sem] theorem el_61 : Go.PA.elemOf Tryz.prog 61 = none := by kernel_rfl
@[go_sem] theorem ar_61 : arrOf Tryz.prog 61 = none := by kernel_rfl
@[go_sem] theorem fk_61 : fieldsKnown Tryz.prog 61 = true := by kernel_rfl
@[go_sem] theorem ze_61 : zeros Tryz.prog 61 = some [.nil, .sc (.int .i64 0)] := by kernel_rfl
@[go_sem] theorem by_61 : bytesOf Tryz.prog 61 = 32 := by kernel_rfl
@[go_sem] theorem sz_63 : szOf Tryz.prog 63 = 1 := by kernel_rfl
@[go_sem] theorem kn_63 : knownT Tryz.prog 63 = true := by kernel_rfl
@[go_sem] theorem ag_63 : aggOf Tryz.prog 63 = false := by kernel_rfl
@[go_sem] theorem us_63 : (Tryz.prog.underlying 63).isSome = true := by kernel_rfl
@[go_sem] theorem el_63 : Go.PA.elemOf Tryz.prog 63 = some 9 := by kernel_rfl
@[go_sem] theorem un_63 : Tryz.prog.underlying 63 = some (.slice 9) := by kernel_rfl
@[go_sem] theorem ze_63 : zeros Tryz.prog 63 = some [.nil] := by kernel_rfl
@[go_sem] theorem az_63 : azero1 Tryz.prog 63 = some (.nil) := by kernel_rfl
@[go_sem] theorem by_63 : bytesOf Tryz.prog 63 = 24 := by kernel_rfl
@[go_sem] theorem sz_72 : szOf Tryz.prog 72 = 6 := by kernel_rfl
@[go_sem] theorem kn_72 : knownT Tryz.prog 72 = true := by kernel_rfl
@[go_sem] theorem ag_72 : aggOf Tryz.prog 72 = true := by kernel_rfl
@[go_sem] theorem us_72 : (Tryz.prog.underlying 72).isSome = true := by kernel_rfl
@[go_sem] theorem fd_72_0 : fieldOf Tryz.prog 72 0 = some (0, 3) := by kernel_rfl
@[go_sem] theorem fd_72_1 : fieldOf Tryz.prog 72 1 = some (1, 3) := by kernel_rfl
@[go_sem] theorem fd_72_2 : fieldOf Tryz.prog 72 2 = some (2, 3) := by kernel_rfl
@[go_sem] theorem fd_72_3 : fieldOf Tryz.prog 72 3 = some (3, 3) := by kernel_rfl
@[go_sem] theorem fd_72_4 : fieldOf Tryz.prog 72 4 = some (4, 3) := by kernel_rfl
@[go_sem] theorem fd_72_5 : fieldOf Tryz.prog 72 5 = some (5, 9) := by kernel_rfl
@[go_sem] theorem el_72 : Go.PA.elemOf Tryz.prog 72 = none := by kernel_rfl
@[go_sem] theorem ar_72 : arrOf Tryz.prog 72 = none := by kernel_rfl
@[go_sem] theorem fk_72 : fieldsKnown Tryz.prog 72 = true := by kernel_rfl
@[go_sem] theorem sg_72 : sigOf Tryz.prog 72 = some [.int, .int, .int, .int, .int, .str] := by kernel_rfl
@[go_sem] theorem ze_72 : zeros Tryz.prog 72 = some [.sc (.int .i64 0), .sc (.int .i64 0), .sc (.int .i64 0), .sc (.int .i64 0), .sc (.int .i64 0), .sc (.string ByteArray.empty)] := by kernel_rfl
@[go_sem] theorem by_72 : bytesOf Tryz.prog 72 = 56 := by kernel_rfl
@[go_sem] theorem sz_73 : szOf Tryz.prog 73 = 6 := by kernel_rfl
@[go_sem] theorem kn_73 : knownT Tryz.prog 73 = true := by kernel_rfl
@[go_sem] theorem ag_73 : aggOf Tryz.prog 73 = true := by kernel_rfl
@[go_sem] theorem us_73 : (Tryz.prog.underlying 73).isSome = true := by kernel_rfl
@[go_sem] theorem fd_73_0 : fieldOf Tryz.prog 73 0 = some (0, 3) := by kernel_rfl
@[go_sem] theorem fd_73_1 : fieldOf Tryz.prog 73 1 = some (1, 3) := by kernel_rfl
@[go_sem] theorem fd_73_2 : fieldOf Tryz.prog 73 2 = some (2, 3) := by kernel_rfl
@[go_sem] theorem fd_73_3 : fieldOf Tryz.prog 73 3 = some (3, 3) := by kernel_rfl
@[go_sem] theorem fd_73_4 : fieldOf Tryz.prog 73 4 = some (4, 3) := by kernel_rfl
@[go_sem] theorem fd_73_5 : fieldOf Tryz.prog 73 5 = some (5, 9) := by kernel_rfl
@[go_sem] theorem el_73 : Go.PA.elemOf Tryz.prog 73 = none := by kernel_rfl
@[go_sem] theorem ar_73 : arrOf Tryz.prog 73 = none := by kernel_rfl
@[go_sem] theorem fk_73 : fieldsKnown Tryz.prog 73 = true := by kernel_rfl
@[go_sem] theorem sg_73 : sigOf Tryz.prog 73 = some [.int, .int, .int, .int, .int, .str] := by kernel_rfl
@[go_sem] theorem ze_73 : zeros Tryz.prog 73 = some [.sc (.int .i64 0), .sc (.int .i64 0), .sc (.int .i64 0), .sc (.int .i64 0), .sc (.int .i64 0), .sc (.string ByteArray.empty)] := by kernel_rfl
@[go_sem] theorem by_73 : bytesOf Tryz.prog 73 = 56 := by kernel_rfl
@[go_sem] theorem sz_94 : szOf Tryz.prog 94 = 1 := by kernel_rfl
@[go_sem] theorem kn_94 : knownT Tryz.prog 94 = true := by kernel_rfl
@[go_sem] theorem ag_94 : aggOf Tryz.prog 94 = false := by kernel_rfl
@[go_sem] theorem us_94 : (Tryz.prog.underlying 94).isSome = true := by kernel_rfl
@[go_sem] theorem el_94 : Go.PA.elemOf Tryz.prog 94 = some 5 := by kernel_rfl
@[go_sem] theorem un_94 : Tryz.prog.underlying 94 = some (.slice 5) := by kernel_rfl
@[go_sem] theorem ze_94 : zeros Tryz.prog 94 = some [.nil] := by kernel_rfl
@[go_sem] theorem az_94 : azero1 Tryz.prog 94 = some (.nil) := by kernel_rfl
@[go_sem] theorem by_94 : bytesOf Tryz.prog 94 = 24 := by kernel_rfl
@[go_sem] theorem sz_97 : szOf Tryz.prog 97 = 1 := by kernel_rfl
@[go_sem] theorem kn_97 : knownT Tryz.prog 97 = true := by kernel_rfl
@[go_sem] theorem ag_97 : aggOf Tryz.prog 97 = false := by kernel_rfl
@[go_sem] theorem us_97 : (Tryz.prog.underlying 97).isSome = true := by kernel_rfl
@[go_sem] theorem ze_97 : zeros Tryz.prog 97 = some [.sc (.pointer none)] := by kernel_rfl
@[go_sem] theorem by_97 : bytesOf Tryz.prog 97 = 8 := by kernel_rfl
@[go_sem] theorem sz_103 : szOf Tryz.prog 103 = 1 := by kernel_rfl
@[go_sem] theorem kn_103 : knownT Tryz.prog 103 = true := by kernel_rfl
@[go_sem] theorem ag_103 : aggOf Tryz.prog 103 = false := by kernel_rfl
@[go_sem] theorem us_103 : (Tryz.prog.underlying 103).isSome = true := by kernel_rfl
@[go_sem] theorem un_103 : Tryz.prog.underlying 103 = some (.int .u64) := by kernel_rfl
@[go_sem] theorem ze_103 : zeros Tryz.prog 103 = some [.sc (.int .u64 0)] := by kernel_rfl
@[go_sem] theorem az_103 : azero1 Tryz.prog 103 = some (.sc (.int .u64 0)) := by kernel_rfl
@[go_sem] theorem by_103 : bytesOf Tryz.prog 103 = 8 := by kernel_rfl
@[go_sem] theorem sz_106 : szOf Tryz.prog 106 = 1 := by kernel_rfl
@[go_sem] theorem kn_106 : knownT Tryz.prog 106 = true := by kernel_rfl
@[go_sem] theorem ag_106 : aggOf Tryz.prog 106 = false := by kernel_rfl
@[go_sem] theorem us_106 : (Tryz.prog.underlying 106).isSome = true := by kernel_rfl
@[go_sem] theorem un_106 : Tryz.prog.underlying 106 = some (.int .u64) := by kernel_rfl
@[go_sem] theorem ze_106 : zeros Tryz.prog 106 = some [.sc (.int .u64 0)] := by kernel_rfl
@[go_sem] theorem az_106 : azero1 Tryz.prog 106 = some (.sc (.int .u64 0)) := by kernel_rfl
@[go_sem] theorem by_106 : bytesOf Tryz.prog 106 = 8 := by kernel_rfl
@[go_sem] theorem sz_108 : szOf Tryz.prog 108 = 3 := by kernel_rfl
@[go_sem] theorem kn_108 : knownT Tryz.prog 108 = true := by kernel_rfl
@[go_sem] theorem ag_108 : aggOf Tryz.prog 108 = true := by kernel_rfl
@[go_sem] theorem us_108 : (Tryz.prog.underlying 108).isSome = true := by kernel_rfl
@[go_sem] theorem fd_108_0 : fieldOf Tryz.prog 108 0 = some (0, 9) := by kernel_rfl
@[go_sem] theorem fd_108_1 : fieldOf Tryz.prog 108 1 = some (1, 9) := by kernel_rfl
@[go_sem] theorem fd_108_2 : fieldOf Tryz.prog 108 2 = some (2, 80) := by kernel_rfl
@[go_sem] theorem el_108 : Go.PA.elemOf Tryz.prog 108 = none := by kernel_rfl
@[go_sem] theorem ar_108 : arrOf Tryz.prog 108 = none := by kernel_rfl
@[go_sem] theorem fk_108 : fieldsKnown Tryz.prog 108 = true := by kernel_rfl
@[go_sem] theorem by_108 : bytesOf Tryz.prog 108 = 48 := by kernel_rfl
@[go_sem] theorem sz_109 : szOf Tryz.prog 109 = 3 := by kernel_rfl
@[go_sem] theorem kn_109 : knownT Tryz.prog 109 = true := by kernel_rfl
@[go_sem] theorem ag_109 : aggOf Tryz.prog 109 = true := by kernel_rfl
@[go_sem] theorem us_109 : (Tryz.prog.underlying 109).isSome = true := by kernel_rfl
@[go_sem] theorem fd_109_0 : fieldOf Tryz.prog 109 0 = some (0, 9) := by kernel_rfl
@[go_sem] theorem fd_109_1 : fieldOf Tryz.prog 109 1 = some (1, 9) := by kernel_rfl
@[go_sem] theorem fd_109_2 : fieldOf Tryz.prog 109 2 = some (2, 80) := by kernel_rfl
@[go_sem] theorem el_109 : Go.PA.elemOf Tryz.prog 109 = none := by kernel_rfl
@[go_sem] theorem ar_109 : arrOf Tryz.prog 109 = none := by kernel_rfl
@[go_sem] theorem fk_109 : fieldsKnown Tryz.prog 109 = true := by kernel_rfl
@[go_sem] theorem by_109 : bytesOf Tryz.prog 109 = 48 := by kernel_rfl
@[go_sem] theorem sz_111 : szOf Tryz.prog 111 = 24 := by kernel_rfl
@[go_sem] theorem kn_111 : knownT Tryz.prog 111 = true := by kernel_rfl
@[go_sem] theorem ag_111 : aggOf Tryz.prog 111 = true := by kernel_rfl
@[go_sem] theorem us_111 : (Tryz.prog.underlying 111).isSome = true := by kernel_rfl
@[go_sem] theorem el_111 : Go.PA.elemOf Tryz.prog 111 = none := by kernel_rfl
@[go_sem] theorem ar_111 : arrOf Tryz.prog 111 = some (24, 5) := by kernel_rfl
@[go_sem] theorem fk_111 : fieldsKnown Tryz.prog 111 = true := by kernel_rfl
@[go_sem] theorem fd_111_0 : fieldOf Tryz.prog 111 0 = none := by kernel_rfl
@[go_sem] theorem fd_111_1 : fieldOf Tryz.prog 111 1 = none := by kernel_rfl
@[go_sem] theorem fd_111_2 : fieldOf Tryz.prog 111 2 = none := by kernel_rfl
@[go_sem] theorem fd_111_3 : fieldOf Tryz.prog 111 3 = none := by kernel_rfl
@[go_sem] theorem fd_111_4 : fieldOf Tryz.prog 111 4 = none := by kernel_rfl
@[go_sem] theorem fd_111_5 : fieldOf Tryz.prog 111 5 = none := by kernel_rfl
@[go_sem] theorem fd_111_6 : fieldOf Tryz.prog 111 6 = none := by kernel_rfl
@[go_sem] theorem fd_111_7 : fieldOf Tryz.prog 111 7 = none := by kernel_rfl
@[go_sem] theorem ze_111 : zeros Tryz.prog 111 = some [.sc (.int .u8 0), .sc (.int .u8 0), .sc (.int .u8 0), .sc (.int .u8 0), .sc (.int .u8 0), .sc (.int .u8 0), .sc (.int .u8 0), .sc (.int .u8 0), .sc (.int .u8 0), .sc (.int .u8 0), .sc (.int .u8 0), .sc (.int .u8 0), .sc (.int .u8 0), .sc (.int .u8 0), .sc (.int .u8 0), .sc (.int .u8 0), .sc (.int .u8 0), .sc (.int .u8 0), .sc (.int .u8 0), .sc (.int .u8 0), .sc (.int .u8 0), .sc (.int .u8 0), .sc (.int .u8 0), .sc (.int .u8 0)] := by kernel_rfl
@[go_sem] theorem by_111 : bytesOf Tryz.prog 111 = 24 := by kernel_rfl
@[go_sem] theorem sz_116 : szOf Tryz.prog 116 = 256 := by kernel_rfl
@[go_sem] theorem kn_116 : knownT Tryz.prog 116 = true := by kernel_rfl
@[go_sem] theorem ag_116 : aggOf Tryz.prog 116 = true := by kernel_rfl
@[go_sem] theorem us_116 : (Tryz.prog.underlying 116).isSome = true := by kernel_rfl
@[go_sem] theorem el_116 : Go.PA.elemOf Tryz.prog 116 = none := by kernel_rfl
@[go_sem] theorem ar_116 : arrOf Tryz.prog 116 = some (256, 5) := by kernel_rfl
@[go_sem] theorem fk_116 : fieldsKnown Tryz.prog 116 = true := by kernel_rfl
@[go_sem] theorem fd_116_0 : fieldOf Tryz.prog 116 0 = none := by kernel_rfl
@[go_sem] theorem fd_116_1 : fieldOf Tryz.prog 116 1 = none := by kernel_rfl
@[go_sem] theorem fd_116_2 : fieldOf Tryz.prog 116 2 = none := by kernel_rfl
@[go_sem] theorem fd_116_3 : fieldOf Tryz.prog 116 3 = none := by kernel_rfl
@[go_sem] theorem fd_116_4 : fieldOf Tryz.prog 116 4 = none := by kernel_rfl
@[go_sem] theorem fd_116_5 : fieldOf Tryz.prog 116 5 = none := by kernel_rfl
@[go_sem] theorem fd_116_6 : fieldOf Tryz.prog 116 6 = none := by kernel_rfl
@[go_sem] theorem fd_116_7 : fieldOf Tryz.prog 116 7 = none := by kernel_rfl
theorem ze_116 : zeros Tryz.prog 116 = some (List.replicate 256 (.sc (.int .u8 0))) := by kernel_rfl
@[go_sem] theorem by_116 : bytesOf Tryz.prog 116 = 256 := by kernel_rfl
@[go_sem] theorem sz_117 : szOf Tryz.prog 117 = 2 := by kernel_rfl
@[go_sem] theorem kn_117 : knownT Tryz.prog 117 = true := by kernel_rfl
@[go_sem] theorem ag_117 : aggOf Tryz.prog 117 = true := by kernel_rfl
@[go_sem] theorem us_117 : (Tryz.prog.underlying 117).isSome = true := by kernel_rfl
@[go_sem] theorem fd_117_0 : fieldOf Tryz.prog 117 0 = some (0, 5) := by kernel_rfl
@[go_sem] theorem fd_117_1 : fieldOf Tryz.prog 117 1 = some (1, 5) := by kernel_rfl
@[go_sem] theorem el_117 : Go.PA.elemOf Tryz.prog 117 = none := by kernel_rfl
@[go_sem] theorem ar_117 : arrOf Tryz.prog 117 = none := by kernel_rfl
@[go_sem] theorem fk_117 : fieldsKnown Tryz.prog 117 = true := by kernel_rfl
@[go_sem] theorem sg_117 : sigOf Tryz.prog 117 = some [.int, .int] := by kernel_rfl
@[go_sem] theorem ze_117 : zeros Tryz.prog 117 = some [.sc (.int .u8 0), .sc (.int .u8 0)] := by kernel_rfl
@[go_sem] theorem by_117 : bytesOf Tryz.prog 117 = 2 := by kernel_rfl
@[go_sem] theorem sz_118 : szOf Tryz.prog 118 = 2 := by kernel_rfl
@[go_sem] theorem kn_118 : knownT Tryz.prog 118 = true := by kernel_rfl
@[go_sem] theorem ag_118 : aggOf Tryz.prog 118 = true := by kernel_rfl
@[go_sem] theorem us_118 : (Tryz.prog.underlying 118).isSome = true := by kernel_rfl
@[go_sem] theorem fd_118_0 : fieldOf Tryz.prog 118 0 = some (0, 5) := by kernel_rfl
@[go_sem] theorem fd_118_1 : fieldOf Tryz.prog 118 1 = some (1, 5) := by kernel_rfl
@[go_sem] theorem el_118 : Go.PA.elemOf Tryz.prog 118 = none := by kernel_rfl
@[go_sem] theorem ar_118 : arrOf Tryz.prog 118 = none := by kernel_rfl
@[go_sem] theorem fk_118 : fieldsKnown Tryz.prog 118 = true := by kernel_rfl
@[go_sem] theorem sg_118 : sigOf Tryz.prog 118 = some [.int, .int] := by kernel_rfl
@[go_sem] theorem ze_118 : zeros Tryz.prog 118 = some [.sc (.int .u8 0), .sc (.int .u8 0)] := by kernel_rfl
@[go_sem] theorem by_118 : bytesOf Tryz.prog 118 = 2 := by kernel_rfl
@[go_sem] theorem sz_119 : szOf Tryz.prog 119 = 32 := by kernel_rfl
@[go_sem] theorem kn_119 : knownT Tryz.prog 119 = true := by kernel_rfl
@[go_sem] theorem ag_119 : aggOf Tryz.prog 119 = true := by kernel_rfl
@[go_sem] theorem us_119 : (Tryz.prog.underlying 119).isSome = true := by kernel_rfl
@[go_sem] theorem el_119 : Go.PA.elemOf Tryz.prog 119 = none := by kernel_rfl
@[go_sem] theorem ar_119 : arrOf Tryz.prog 119 = some (16, 118) := by kernel_rfl
@[go_sem] theorem fk_119 : fieldsKnown Tryz.prog 119 = true := by kernel_rfl
@[go_sem] theorem fd_119_0 : fieldOf Tryz.prog 119 0 = none := by kernel_rfl
@[go_sem] theorem fd_119_1 : fieldOf Tryz.prog 119 1 = none := by kernel_rfl
@[go_sem] theorem fd_119_2 : fieldOf Tryz.prog 119 2 = none := by kernel_rfl
@[go_sem] theorem fd_119_3 : fieldOf Tryz.prog 119 3 = none := by kernel_rfl
@[go_sem] theorem fd_119_4 : fieldOf Tryz.prog 119 4 = none := by kernel_rfl
@[go_sem] theorem fd_119_5 : fieldOf Tryz.prog 119 5 = none := by kernel_rfl
@[go_sem] theorem fd_119_6 : fieldOf Tryz.prog 119 6 = none := by kernel_rfl
@[go_sem] theorem fd_119_7 : fieldOf Tryz.prog 119 7 = none := by kernel_rfl
@[go_sem] theorem ze_119 : zeros Tryz.prog 119 = some [.sc (.int .u8 0), .sc (.int .u8 0), .sc (.int .u8 0), .sc (.int .u8 0), .sc (.int .u8 0), .sc (.int .u8 0), .sc (.int .u8 0), .sc (.int .u8 0), .sc (.int .u8 0), .sc (.int .u8 0), .sc (.int .u8 0), .sc (.int .u8 0), .sc (.int .u8 0), .sc (.int .u8 0), .sc (.int .u8 0), .sc (.int .u8 0), .sc (.int .u8 0), .sc (.int .u8 0), .sc (.int .u8 0), .sc (.int .u8 0), .sc (.int .u8 0), .sc (.int .u8 0), .sc (.int .u8 0), .sc (.int .u8 0), .sc (.int .u8 0), .sc (.int .u8 0), .sc (.int .u8 0), .sc (.int .u8 0), .sc (.int .u8 0), .sc (.int .u8 0), .sc (.int .u8 0), .sc (.int .u8 0)] := by kernel_rfl
@[go_sem] theorem by_119 : bytesOf Tryz.prog 119 = 32 := by kernel_rfl
@[go_sem] theorem sz_122 : szOf Tryz.prog 122 = 1 := by kernel_rfl
@[go_sem] theorem kn_122 : knownT Tryz.prog 122 = true := by kernel_rfl
@[go_sem] theorem ag_122 : aggOf Tryz.prog 122 = false := by kernel_rfl
@[go_sem] theorem us_122 : (Tryz.prog.underlying 122).isSome = true := by kernel_rfl
@[go_sem] theorem ze_122 : zeros Tryz.prog 122 = some [.sc (.pointer none)] := by kernel_rfl
@[go_sem] theorem by_122 : bytesOf Tryz.prog 122 = 8 := by kernel_rfl
@[go_sem] theorem sz_123 : szOf Tryz.prog 123 = 1 := by kernel_rfl
@[go_sem] theorem kn_123 : knownT Tryz.prog 123 = true := by kernel_rfl
@[go_sem] theorem ag_123 : aggOf Tryz.prog 123 = false := by kernel_rfl
@[go_sem] theorem us_123 : (Tryz.prog.underlying 123).isSome = true := by kernel_rfl
@[go_sem] theorem ze_123 : zeros Tryz.prog 123 = some [.sc (.pointer none)] := by kernel_rfl
@[go_sem] theorem by_123 : bytesOf Tryz.prog 123 = 8 := by kernel_rfl
@[go_sem] theorem sz_124 : szOf Tryz.prog 124 = 1 := by kernel_rfl
@[go_sem] theorem kn_124 : knownT Tryz.prog 124 = true := by kernel_rfl
@[go_sem] theorem ag_124 : aggOf Tryz.prog 124 = true := by kernel_rfl
@[go_sem] theorem us_124 : (Tryz.prog.underlying 124).isSome = true := by kernel_rfl
@[go_sem] theorem fd_124_0 : fieldOf Tryz.prog 124 0 = some (0, 9) := by kernel_rfl
@[go_sem] theorem el_124 : Go.PA.elemOf Tryz.prog 124 = none := by kernel_rfl
@[go_sem] theorem ar_124 : arrOf Tryz.prog 124 = none := by kernel_rfl
@[go_sem] theorem fk_124 : fieldsKnown Tryz.prog 124 = true := by kernel_rfl
@[go_sem] theorem sg_124 : sigOf Tryz.prog 124 = some [.str] := by kernel_rfl
@[go_sem] theorem ze_124 : zeros Tryz.prog 124 = some [.sc (.string ByteArray.empty)] := by kernel_rfl
@[go_sem] theorem by_124 : bytesOf Tryz.prog 124 = 16 := by kernel_rfl
@[go_sem] theorem sz_125 : szOf Tryz.prog 125 = 1 := by kernel_rfl
@[go_sem] theorem kn_125 : knownT Tryz.prog 125 = true := by kernel_rfl
@[go_sem] theorem ag_125 : aggOf Tryz.prog 125 = true := by kernel_rfl
@[go_sem] theorem us_125 : (Tryz.prog.underlying 125).isSome = true := by kernel_rfl
@[go_sem] theorem fd_125_0 : fieldOf Tryz.prog 125 0 = some (0, 9) := by kernel_rfl
@[go_sem] theorem el_125 : Go.PA.elemOf Tryz.prog 125 = none := by kernel_rfl
@[go_sem] theorem ar_125 : arrOf Tryz.prog 125 = none := by kernel_rfl
@[go_sem] theorem fk_125 : fieldsKnown Tryz.prog 125 = true := by kernel_rfl
@[go_sem] theorem sg_125 : sigOf Tryz.prog 125 = some [.str] := by kernel_rfl
@[go_sem] theorem ze_125 : zeros Tryz.prog 125 = some [.sc (.string ByteArray.empty)] := by kernel_rfl
@[go_sem] theorem by_125 : bytesOf Tryz.prog 125 = 16 := by kernel_rfl
@[go_sem] theorem sz_127 : szOf Tryz.prog 127 = 20 := by kernel_rfl
@[go_sem] theorem kn_127 : knownT Tryz.prog 127 = true := by kernel_rfl
@[go_sem] theorem ag_127 : aggOf Tryz.prog 127 = true := by kernel_rfl
@[go_sem] theorem us_127 : (Tryz.prog.underlying 127).isSome = true := by kernel_rfl
@[go_sem] theorem el_127 : Go.PA.elemOf Tryz.prog 127 = none := by kernel_rfl
@[go_sem] theorem ar_127 : arrOf Tryz.prog 127 = some (20, 103) := by kernel_rfl
@[go_sem] theorem fk_127 : fieldsKnown Tryz.prog 127 = true := by kernel_rfl
@[go_sem] theorem fd_127_0 : fieldOf Tryz.prog 127 0 = none := by kernel_rfl
@[go_sem] theorem fd_127_1 : fieldOf Tryz.prog 127 1 = none := by kernel_rfl
@[go_sem] theorem fd_127_2 : fieldOf Tryz.prog 127 2 = none := by kernel_rfl
@[go_sem] theorem fd_127_3 : fieldOf Tryz.prog 127 3 = none := by kernel_rfl
@[go_sem] theorem fd_127_4 : fieldOf Tryz.prog 127 4 = none := by kernel_rfl
@[go_sem] theorem fd_127_5 : fieldOf Tryz.prog 127 5 = none := by kernel_rfl
@[go_sem] theorem fd_127_6 : fieldOf Tryz.prog 127 6 = none := by kernel_rfl
@[go_sem] theorem fd_127_7 : fieldOf Tryz.prog 127 7 = none := by kernel_rfl
@[go_sem] theorem ze_127 : zeros Tryz.prog 127 = some [.sc (.int .u64 0), .sc (.int .u64 0), .sc (.int .u64 0), .sc (.int .u64 0), .sc (.int .u64 0), .sc (.int .u64 0), .sc (.int .u64 0), .sc (.int .u64 0), .sc (.int .u64 0), .sc (.int .u64 0), .sc (.int .u64 0), .sc (.int .u64 0), .sc (.int .u64 0), .sc (.int .u64 0), .sc (.int .u64 0), .sc (.int .u64 0), .sc (.int .u64 0), .sc (.int .u64 0), .sc (.int .u64 0), .sc (.int .u64 0)] := by kernel_rfl
@[go_sem] theorem by_127 : bytesOf Tryz.prog 127 = 160 := by kernel_rfl
@[go_sem] theorem sz_128 : szOf Tryz.prog 128 = 1 := by kernel_rfl
@[go_sem] theorem kn_128 : knownT Tryz.prog 128 = true := by kernel_rfl
@[go_sem] theorem ag_128 : aggOf Tryz.prog 128 = false := by kernel_rfl
@[go_sem] theorem us_128 : (Tryz.prog.underlying 128).isSome = true := by kernel_rfl
@[go_sem] theorem un_128 : Tryz.prog.underlying 128 = some (.int .u32) := by kernel_rfl
@[go_sem] theorem ze_128 : zeros Tryz.prog 128 = some [.sc (.int .u32 0)] := by kernel_rfl
@[go_sem] theorem az_128 : azero1 Tryz.prog 128 = some (.sc (.int .u32 0)) := by kernel_rfl
@[go_sem] theorem by_128 : bytesOf Tryz.prog 128 = 4 := by kernel_rfl
@[go_sem] theorem sz_129 : szOf Tryz.prog 129 = 65 := by kernel_rfl
@[go_sem] theorem kn_129 : knownT Tryz.prog 129 = true := by kernel_rfl
@[go_sem] theorem ag_129 : aggOf Tryz.prog 129 = true := by kernel_rfl
@[go_sem] theorem us_129 : (Tryz.prog.underlying 129).isSome = true := by kernel_rfl
@[go_sem] theorem el_129 : Go.PA.elemOf Tryz.prog 129 = none := by kernel_rfl
@[go_sem] theorem ar_129 : arrOf Tryz.prog 129 = some (65, 5) := by kernel_rfl
@[go_sem] theorem fk_129 : fieldsKnown Tryz.prog 129 = true := by kernel_rfl
@[go_sem] theorem fd_129_0 : fieldOf Tryz.prog 129 0 = none := by kernel_rfl
@[go_sem] theorem fd_129_1 : fieldOf Tryz.prog 129 1 = none := by kernel_rfl
@[go_sem] theorem fd_129_2 : fieldOf Tryz.prog 129 2 = none := by kernel_rfl
@[go_sem] theorem fd_129_3 : fieldOf Tryz.prog 129 3 = none := by kernel_rfl
@[go_sem] theorem fd_129_4 : fieldOf Tryz.prog 129 4 = none := by kernel_rfl
@[go_sem] theorem fd_129_5 : fieldOf Tryz.prog 129 5 = none := by kernel_rfl
@[go_sem] theorem fd_129_6 : fieldOf Tryz.prog 129 6 = none := by kernel_rfl
@[go_sem] theorem fd_129_7 : fieldOf Tryz.prog 129 7 = none := by kernel_rfl
theorem ze_129 : zeros Tryz.prog 129 = some (List.replicate 65 (.sc (.int .u8 0))) := by kernel_rfl
@[go_sem] theorem by_129 : bytesOf Tryz.prog 129 = 65 := by kernel_rfl
@[go_sem] theorem sz_134 : szOf Tryz.prog 134 = 32 := by kernel_rfl
@[go_sem] theorem kn_134 : knownT Tryz.prog 134 = true := by kernel_rfl
@[go_sem] theorem ag_134 : aggOf Tryz.prog 134 = true := by kernel_rfl
@[go_sem] theorem us_134 : (Tryz.prog.underlying 134).isSome = true := by kernel_rfl
@[go_sem] theorem el_134 : Go.PA.elemOf Tryz.prog 134 = none := by kernel_rfl
@[go_sem] theorem ar_134 : arrOf Tryz.prog 134 = some (32, 5) := by kernel_rfl
@[go_sem] theorem fk_134 : fieldsKnown Tryz.prog 134 = true := by kernel_rfl
@[go_sem] theorem fd_134_0 : fieldOf Tryz.prog 134 0 = none := by kernel_rfl
@[go_sem] theorem fd_134_1 : fieldOf Tryz.prog 134 1 = none := by kernel_rfl
@[go_sem] theorem fd_134_2 : fieldOf Tryz.prog 134 2 = none := by kernel_rfl
@[go_sem] theorem fd_134_3 : fieldOf Tryz.prog 134 3 = none := by kernel_rfl
@[go_sem] theorem fd_134_4 : fieldOf Tryz.prog 134 4 = none := by kernel_rfl
@[go_sem] theorem fd_134_5 : fieldOf Tryz.prog 134 5 = none := by kernel_rfl
@[go_sem] theorem fd_134_6 : fieldOf Tryz.prog 134 6 = none := by kernel_rfl
@[go_sem] theorem fd_134_7 : fieldOf Tryz.prog 134 7 = none := by kernel_rfl
@[go_sem] theorem ze_134 : zeros Tryz.prog 134 = some [.sc (.int .u8 0), .sc (.int .u8 0), .sc (.int .u8 0), .sc (.int .u8 0), .sc (.int .u8 0), .sc (.int .u8 0), .sc (.int .u8 0), .sc (.int .u8 0), .sc (.int .u8 0), .sc (.int .u8 0), .sc (.int .u8 0), .sc (.int .u8 0), .sc (.int .u8 0), .sc (.int .u8 0), .sc (.int .u8 0), .sc (.int .u8 0), .sc (.int .u8 0), .sc (.int .u8 0), .sc (.int .u8 0), .sc (.int .u8 0), .sc (.int .u8 0), .sc (.int .u8 0), .sc (.int .u8 0), .sc (.int .u8 0), .sc (.int .u8 0), .sc (.int .u8 0), .sc (.int .u8 0), .sc (.int .u8 0), .sc (.int .u8 0), .sc (.int .u8 0), .sc (.int .u8 0), .sc (.int .u8 0)] := by kernel_rfl
@[go_sem] theorem by_134 : bytesOf Tryz.prog 134 = 32 := by kernel_rfl
@[go_sem] theorem sz_135 : szOf Tryz.prog 135 = 64 := by kernel_rfl
@[go_sem] theorem kn_135 : knownT Tryz.prog 135 = true := by kernel_rfl
@[go_sem] theorem ag_135 : aggOf Tryz.prog 135 = true := by kernel_rfl
@[go_sem] theorem us_135 : (Tryz.prog.underlying 135).isSome = true := by kernel_rfl
@[go_sem] theorem el_135 : Go.PA.elemOf Tryz.prog 135 = none := by kernel_rfl
@[go_sem] theorem ar_135 : arrOf Tryz.prog 135 = some (64, 5) := by kernel_rfl
@[go_sem] theorem fk_135 : fieldsKnown Tryz.prog 135 = true := by kernel_rfl
@[go_sem] theorem fd_135_0 : fieldOf Tryz.prog 135 0 = none := by kernel_rfl
@[go_sem] theorem fd_135_1 : fieldOf Tryz.prog 135 1 = none := by kernel_rfl
@[go_sem] theorem fd_135_2 : fieldOf Tryz.prog 135 2 = none := by kernel_rfl
@[go_sem] theorem fd_135_3 : fieldOf Tryz.prog 135 3 = none := by kernel_rfl
@[go_sem] theorem fd_135_4 : fieldOf Tryz.prog 135 4 = none := by kernel_rfl
@[go_sem] theorem fd_135_5 : fieldOf Tryz.prog 135 5 = none := by kernel_rfl
@[go_sem] theorem fd_135_6 : fieldOf Tryz.prog 135 6 = none := by kernel_rfl
@[go_sem] theorem fd_135_7 : fieldOf Tryz.prog 135 7 = none := by kernel_rfl
theorem ze_135 : zeros Tryz.prog 135 = some (List.replicate 64 (.sc (.int .u8 0))) := by kernel_rfl
@[go_sem] theorem by_135 : bytesOf Tryz.prog 135 = 64 := by kernel_rfl
@[go_sem] theorem en_3 : enterable Tryz.prog 3 = true := by kernel_rfl -- treasury/treasurylaw28.TaxesExact
@[go_sem] theorem en_4 : enterable Tryz.prog 4 = true := by kernel_rfl -- treasury/treasurylaw28.short
@[go_sem] theorem en_5 : enterable Tryz.prog 5 = true := by kernel_rfl -- treasury/treasurylaw28.sane
@[go_sem] theorem en_6 : enterable Tryz.prog 6 = true := by kernel_rfl -- treasury/treasuryplay.New
@[go_sem] theorem en_7 : enterable Tryz.prog 7 = true := by kernel_rfl -- (*treasury/treasuryplay.Src).Taxes
@[go_sem] theorem en_8 : enterable Tryz.prog 8 = true := by kernel_rfl -- (*treasury/treasuryplay.Src).Tax
@[go_sem] theorem en_9 : enterable Tryz.prog 9 = true := by kernel_rfl -- (*treasury/treasuryplay.Src).N
@[go_sem] theorem en_10 : enterable Tryz.prog 10 = true := by kernel_rfl -- (*treasury/treasuryplay.Src).Text
@[go_sem] theorem en_11 : enterable Tryz.prog 11 = true := by kernel_rfl -- (*treasury/treasuryplay.Src).Odd
@[go_sem] theorem en_12 : enterable Tryz.prog 12 = true := by kernel_rfl -- (*treasury/treasuryplay.Src).Pick
@[go_sem] theorem en_13 : enterable Tryz.prog 13 = true := by kernel_rfl -- treasury/taxes.Check
@[go_sem] theorem en_14 : enterable Tryz.prog 14 = true := by kernel_rfl -- treasury/treasuryref28.Check
@[go_sem] theorem en_15 : enterable Tryz.prog 15 = true := by kernel_rfl -- treasury/taxes.Tax
@[go_sem] theorem en_16 : enterable Tryz.prog 16 = true := by kernel_rfl -- treasury/treasuryref28.Tax
@[go_sem] theorem en_17 : enterable Tryz.prog 17 = true := by kernel_rfl -- treasury/taxes.Amount
@[go_sem] theorem en_18 : enterable Tryz.prog 18 = true := by kernel_rfl -- treasury/treasuryref28.Amount
@[go_sem] theorem en_19 : enterable Tryz.prog 19 = true := by kernel_rfl -- treasury/treasuryref28.Ints
@[go_sem] theorem en_20 : enterable Tryz.prog 20 = true := by kernel_rfl -- treasury/taxes.Days
@[go_sem] theorem en_21 : enterable Tryz.prog 21 = true := by kernel_rfl -- treasury/treasuryref28.Days
@[go_sem] theorem en_22 : enterable Tryz.prog 22 = true := by kernel_rfl -- treasury/taxes.Expected
@[go_sem] theorem en_23 : enterable Tryz.prog 23 = true := by kernel_rfl -- treasury/treasuryref28.Expected
@[go_sem] theorem en_24 : enterable Tryz.prog 24 = true := by kernel_rfl -- treasury/taxes.Claims
@[go_sem] theorem en_25 : enterable Tryz.prog 25 = true := by kernel_rfl -- treasury/treasuryref28.Claims
@[go_sem] theorem en_26 : enterable Tryz.prog 26 = true := by kernel_rfl -- treasury/treasuryref28.Flows
@[go_sem] theorem en_27 : enterable Tryz.prog 27 = true := by kernel_rfl -- treasury/treasuryref27.Claims
@[go_sem] theorem en_28 : enterable Tryz.prog 28 = true := by kernel_rfl -- (*treasury/treasuryplay.Src).Code
@[go_sem] theorem en_29 : enterable Tryz.prog 29 = true := by kernel_rfl -- treasury/taxes.Year
@[go_sem] theorem en_30 : enterable Tryz.prog 30 = true := by kernel_rfl -- treasury/treasuryref28.Year
@[go_sem] theorem en_31 : enterable Tryz.prog 31 = true := by kernel_rfl -- treasury/treasurylaw28.monthly
@[go_sem] theorem en_32 : enterable Tryz.prog 32 = true := by kernel_rfl -- (*treasury/treasuryplay.Src).Range
@[go_sem] theorem en_33 : enterable Tryz.prog 33 = true := by kernel_rfl -- slices.ContainsFunc[[]treasury/api.Tax,treasury/api.Tax]
@[go_sem] theorem en_34 : enterable Tryz.prog 34 = true := by kernel_rfl -- treasury/taxes.Check$1
@[go_sem] theorem en_35 : enterable Tryz.prog 35 = true := by kernel_rfl -- treasury/classification.Parts
@[go_sem] theorem en_36 : enterable Tryz.prog 36 = true := by kernel_rfl -- treasury/taxes.among
@[go_sem] theorem en_37 : enterable Tryz.prog 37 = true := by kernel_rfl -- treasury/money.Valid
@[go_sem] theorem en_38 : enterable Tryz.prog 38 = true := by kernel_rfl -- treasury/calendar.Valid
@[go_sem] theorem en_39 : enterable Tryz.prog 39 = true := by kernel_rfl -- treasury/treasuryref03.Parts
@[go_sem] theorem en_40 : enterable Tryz.prog 40 = true := by kernel_rfl -- treasury/treasuryref01.Valid
@[go_sem] theorem en_41 : enterable Tryz.prog 41 = true := by kernel_rfl -- treasury/money.Share
@[go_sem] theorem en_42 : enterable Tryz.prog 42 = true := by kernel_rfl -- treasury/treasuryref01.Share
@[go_sem] theorem en_43 : enterable Tryz.prog 43 = true := by kernel_rfl -- treasury/calendar.Next
@[go_sem] theorem en_44 : enterable Tryz.prog 44 = true := by kernel_rfl -- treasury/treasuryref28.Open
@[go_sem] theorem en_45 : enterable Tryz.prog 45 = true := by kernel_rfl -- treasury/taxes.flows
@[go_sem] theorem en_46 : enterable Tryz.prog 46 = true := by kernel_rfl -- treasury/taxes.Expected$1
@[go_sem] theorem en_47 : enterable Tryz.prog 47 = true := by kernel_rfl -- treasury/taxes.Year$1
@[go_sem] theorem en_48 : enterable Tryz.prog 48 = true := by kernel_rfl -- treasury/classification.Under
@[go_sem] theorem en_49 : enterable Tryz.prog 49 = true := by kernel_rfl -- treasury/calendar.Year
@[go_sem] theorem en_50 : enterable Tryz.prog 50 = true := by kernel_rfl -- treasury/treasuryref28.Under
@[go_sem] theorem en_51 : enterable Tryz.prog 51 = true := by kernel_rfl -- slices.IndexFunc[[]treasury/api.Tax,treasury/api.Tax]
@[go_sem] theorem en_52 : enterable Tryz.prog 52 = true := by kernel_rfl -- strings.SplitSeq
@[go_sem] theorem en_53 : enterable Tryz.prog 53 = true := by kernel_rfl -- strconv.Atoi
@[go_sem] theorem en_54 : enterable Tryz.prog 54 = true := by kernel_rfl -- strconv.Itoa
@[go_sem] theorem en_55 : enterable Tryz.prog 55 = true := by kernel_rfl -- treasury/money.weight
@[go_sem] theorem en_56 : enterable Tryz.prog 56 = true := by kernel_rfl -- treasury/money.checked
@[go_sem] theorem en_57 : enterable Tryz.prog 57 = true := by kernel_rfl -- treasury/calendar.Business
@[go_sem] theorem en_58 : enterable Tryz.prog 58 = true := by kernel_rfl -- slices.SortStableFunc[[]treasury/api.Flow,treasury/api.Flow]
@[go_sem] theorem en_59 : enterable Tryz.prog 59 = true := by kernel_rfl -- treasury/taxes.flows$1
@[go_sem] theorem en_60 : enterable Tryz.prog 60 = true := by kernel_rfl -- cmp.Compare[int]
@[go_sem] theorem en_61 : enterable Tryz.prog 61 = true := by kernel_rfl -- slices.Equal[[]int,int]
@[go_sem] theorem en_62 : enterable Tryz.prog 62 = true := by kernel_rfl -- strings.splitSeq
@[go_sem] theorem en_64 : enterable Tryz.prog 64 = true := by kernel_rfl -- strconv.toError
@[go_sem] theorem en_66 : enterable Tryz.prog 66 = true := by kernel_rfl -- slices.stableCmpFunc[treasury/api.Flow]
@[go_sem] theorem en_67 : enterable Tryz.prog 67 = true := by kernel_rfl -- cmp.isNaN[int]
@[go_sem] theorem en_68 : enterable Tryz.prog 68 = true := by kernel_rfl -- strings.splitSeq$1
@[go_sem] theorem en_69 : enterable Tryz.prog 69 = true := by kernel_rfl -- unicode/utf8.DecodeRuneInString
@[go_sem] theorem en_70 : enterable Tryz.prog 70 = true := by kernel_rfl -- strings.Index
@[go_sem] theorem en_72 : enterable Tryz.prog 72 = true := by kernel_rfl -- strconv.syntaxError
@[go_sem] theorem en_73 : enterable Tryz.prog 73 = true := by kernel_rfl -- strconv.rangeError
@[go_sem] theorem en_74 : enterable Tryz.prog 74 = true := by kernel_rfl -- strconv.baseError
@[go_sem] theorem en_75 : enterable Tryz.prog 75 = true := by kernel_rfl -- strconv.bitSizeError
@[go_sem] theorem en_77 : enterable Tryz.prog 77 = true := by kernel_rfl -- slices.insertionSortCmpFunc[treasury/api.Flow]
@[go_sem] theorem en_78 : enterable Tryz.prog 78 = true := by kernel_rfl -- slices.symMergeCmpFunc[treasury/api.Flow]
@[go_sem] theorem en_79 : enterable Tryz.prog 79 = true := by kernel_rfl -- unicode/utf8.decodeRuneInStringSlow
@[go_sem] theorem en_83 : enterable Tryz.prog 83 = true := by kernel_rfl -- errors.New
@[go_sem] theorem en_88 : enterable Tryz.prog 88 = true := by kernel_rfl -- slices.rotateCmpFunc[treasury/api.Flow]
@[go_sem] theorem en_96 : enterable Tryz.prog 96 = true := by kernel_rfl -- math/bits.Len64
@[go_sem] theorem en_99 : enterable Tryz.prog 99 = true := by kernel_rfl -- math/bits.TrailingZeros
@[go_sem] theorem en_100 : enterable Tryz.prog 100 = true := by kernel_rfl -- slices.swapRangeCmpFunc[treasury/api.Flow]
@[go_sem] theorem en_103 : enterable Tryz.prog 103 = true := by kernel_rfl -- math/bits.TrailingZeros32
@[go_sem] theorem en_104 : enterable Tryz.prog 104 = true := by kernel_rfl -- math/bits.TrailingZeros64
@[go_sem] theorem rs_3 : Tryz.f3.results.toList = [.tmp 14] := rfl
@[go_sem] theorem rs_4 : Tryz.f4.results.toList = [.tmp 2] := rfl
@[go_sem] theorem rs_5 : Tryz.f5.results.toList = [.tmp 0] := rfl
@[go_sem] theorem rs_6 : Tryz.f6.results.toList = [.tmp 2] := rfl
@[go_sem] theorem rs_7 : Tryz.f7.results.toList = [.tmp 4] := rfl
@[go_sem] theorem rs_8 : Tryz.f8.results.toList = [.cell 2 30] := rfl
@[go_sem] theorem rs_9 : Tryz.f9.results.toList = [.tmp 4] := rfl
@[go_sem] theorem rs_10 : Tryz.f10.results.toList = [.tmp 4] := rfl
@[go_sem] theorem rs_11 : Tryz.f11.results.toList = [.tmp 2] := rfl
@[go_sem] theorem rs_12 : Tryz.f12.results.toList = [.tmp 4] := rfl
@[go_sem] theorem rs_13 : Tryz.f13.results.toList = [.tmp 2] := rfl
@[go_sem] theorem rs_14 : Tryz.f14.results.toList = [.tmp 2] := rfl
@[go_sem] theorem rs_15 : Tryz.f15.results.toList = [.tmp 2] := rfl
@[go_sem] theorem rs_16 : Tryz.f16.results.toList = [.tmp 2] := rfl
@[go_sem] theorem rs_17 : Tryz.f17.results.toList = [.tmp 2] := rfl
@[go_sem] theorem rs_18 : Tryz.f18.results.toList = [.tmp 2] := rfl
@[go_sem] theorem rs_19 : Tryz.f19.results.toList = [.tmp 4] := rfl
@[go_sem] theorem rs_20 : Tryz.f20.results.toList = [.tmp 2] := rfl
@[go_sem] theorem rs_21 : Tryz.f21.results.toList = [.tmp 2] := rfl
@[go_sem] theorem rs_22 : Tryz.f22.results.toList = [.tmp 6, .tmp 7] := rfl
@[go_sem] theorem rs_23 : Tryz.f23.results.toList = [.tmp 6, .tmp 7] := rfl
@[go_sem] theorem rs_24 : Tryz.f24.results.toList = [.tmp 8, .tmp 9] := rfl
@[go_sem] theorem rs_25 : Tryz.f25.results.toList = [.tmp 8, .tmp 9] := rfl
@[go_sem] theorem rs_26 : Tryz.f26.results.toList = [.tmp 4] := rfl
@[go_sem] theorem rs_27 : Tryz.f27.results.toList = [.tmp 4] := rfl
@[go_sem] theorem rs_28 : Tryz.f28.results.toList = [.tmp 2] := rfl
@[go_sem] theorem rs_29 : Tryz.f29.results.toList = [.tmp 6, .tmp 7] := rfl
@[go_sem] theorem rs_30 : Tryz.f30.results.toList = [.tmp 6, .tmp 7] := rfl
@[go_sem] theorem rs_31 : Tryz.f31.results.toList = [.cell 0 30] := rfl
@[go_sem] theorem rs_32 : Tryz.f32.results.toList = [.tmp 6] := rfl
@[go_sem] theorem rs_33 : Tryz.f33.results.toList = [.tmp 4] := rfl
@[go_sem] theorem rs_34 : Tryz.f34.results.toList = [.tmp 2] := rfl
@[go_sem] theorem rs_35 : Tryz.f35.results.toList = [.cell 2 22] := rfl
@[go_sem] theorem rs_36 : Tryz.f36.results.toList = [.tmp 6] := rfl
@[go_sem] theorem rs_37 : Tryz.f37.results.toList = [.tmp 2] := rfl
@[go_sem] theorem rs_38 : Tryz.f38.results.toList = [.tmp 2] := rfl
@[go_sem] theorem rs_39 : Tryz.f39.results.toList = [.tmp 2] := rfl
@[go_sem] theorem rs_40 : Tryz.f40.results.toList = [.tmp 2] := rfl
@[go_sem] theorem rs_41 : Tryz.f41.results.toList = [.tmp 6, .tmp 7] := rfl
@[go_sem] theorem rs_42 : Tryz.f42.results.toList = [.tmp 6, .tmp 7] := rfl
@[go_sem] theorem rs_43 : Tryz.f43.results.toList = [.tmp 2, .tmp 3] := rfl
@[go_sem] theorem rs_44 : Tryz.f44.results.toList = [.tmp 2] := rfl
@[go_sem] theorem rs_45 : Tryz.f45.results.toList = [.tmp 4] := rfl
@[go_sem] theorem rs_46 : Tryz.f46.results.toList = [.tmp 6] := rfl
@[go_sem] theorem rs_47 : Tryz.f47.results.toList = [.tmp 6] := rfl
@[go_sem] theorem rs_48 : Tryz.f48.results.toList = [.tmp 4] := rfl
@[go_sem] theorem rs_49 : Tryz.f49.results.toList = [.tmp 2] := rfl
@[go_sem] theorem rs_50 : Tryz.f50.results.toList = [.tmp 4] := rfl
@[go_sem] theorem rs_51 : Tryz.f51.results.toList = [.tmp 4] := rfl
@[go_sem] theorem rs_52 : Tryz.f52.results.toList = [.tmp 4] := rfl
@[go_sem] theorem rs_53 : Tryz.f53.results.toList = [.tmp 2, .tmp 3] := rfl
@[go_sem] theorem rs_54 : Tryz.f54.results.toList = [.tmp 2] := rfl
@[go_sem] theorem rs_55 : Tryz.f55.results.toList = [.tmp 2] := rfl
@[go_sem] theorem rs_56 : Tryz.f56.results.toList = [.tmp 2, .tmp 3] := rfl
@[go_sem] theorem rs_57 : Tryz.f57.results.toList = [.tmp 2] := rfl
@[go_sem] theorem rs_58 : Tryz.f58.results.toList = [] := rfl
@[go_sem] theorem rs_59 : Tryz.f59.results.toList = [.tmp 4] := rfl
@[go_sem] theorem rs_60 : Tryz.f60.results.toList = [.tmp 4] := rfl
@[go_sem] theorem rs_61 : Tryz.f61.results.toList = [.tmp 4] := rfl
@[go_sem] theorem rs_62 : Tryz.f62.results.toList = [.tmp 6] := rfl
@[go_sem] theorem rs_64 : Tryz.f64.results.toList = [.tmp 10] := rfl
@[go_sem] theorem rs_66 : Tryz.f66.results.toList = [] := rfl
@[go_sem] theorem rs_67 : Tryz.f67.results.toList = [.tmp 2] := rfl
@[go_sem] theorem rs_68 : Tryz.f68.results.toList = [] := rfl
@[go_sem] theorem rs_69 : Tryz.f69.results.toList = [.tmp 2, .tmp 3] := rfl
@[go_sem] theorem rs_70 : Tryz.f70.results.toList = [.tmp 4] := rfl
@[go_sem] theorem rs_72 : Tryz.f72.results.toList = [.tmp 4] := rfl
@[go_sem] theorem rs_73 : Tryz.f73.results.toList = [.tmp 4] := rfl
@[go_sem] theorem rs_74 : Tryz.f74.results.toList = [.tmp 6] := rfl
@[go_sem] theorem rs_75 : Tryz.f75.results.toList = [.tmp 6] := rfl
@[go_sem] theorem rs_77 : Tryz.f77.results.toList = [] := rfl
@[go_sem] theorem rs_78 : Tryz.f78.results.toList = [] := rfl
@[go_sem] theorem rs_79 : Tryz.f79.results.toList = [.tmp 2, .tmp 3] := rfl
@[go_sem] theorem rs_83 : Tryz.f83.results.toList = [.tmp 2] := rfl
@[go_sem] theorem rs_88 : Tryz.f88.results.toList = [] := rfl
@[go_sem] theorem rs_96 : Tryz.f96.results.toList = [.tmp 2] := rfl
@[go_sem] theorem rs_99 : Tryz.f99.results.toList = [.tmp 2] := rfl
@[go_sem] theorem rs_100 : Tryz.f100.results.toList = [] := rfl
@[go_sem] theorem rs_103 : Tryz.f103.results.toList = [.tmp 2] := rfl
@[go_sem] theorem rs_104 : Tryz.f104.results.toList = [.tmp 2] := rfl
@[go_sem] theorem rs_121 : Tryz.f121.results.toList = [] := rfl
@[go_sem] theorem rs_122 : Tryz.f122.results.toList = [] := rfl
@[go_sem] theorem rs_126 : Tryz.f126.results.toList = [] := rfl
@[go_sem] theorem rs_127 : Tryz.f127.results.toList = [] := rfl
@[go_sem] theorem rs_128 : Tryz.f128.results.toList = [] := rfl
@[go_sem] theorem rs_129 : Tryz.f129.results.toList = [] := rfl
@[go_sem] theorem rs_131 : Tryz.f131.results.toList = [] := rfl
@[go_sem] theorem rs_132 : Tryz.f132.results.toList = [] := rfl

end Go.Proofs.YtabdihohphlheaaGreatDoor
