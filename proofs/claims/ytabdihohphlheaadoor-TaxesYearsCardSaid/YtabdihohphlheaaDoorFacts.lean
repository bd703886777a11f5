/- The types and functions of this seat's program, as PA reads them. Printed by wip/facts.py. -/
import Derived.Test.YtabdihohphlheaaDoorPaB
import Derived.Test.YtabdihohphlheaaDoorProg
import Derived.KernelRfl
namespace Go.Proofs.YtabdihohphlheaaDoor
open Go.PA

@[go_sem] theorem sz_2 : szOf Tryd.prog 2 = 1 := by kernel_rfl
@[go_sem] theorem kn_2 : knownT Tryd.prog 2 = true := by kernel_rfl
@[go_sem] theorem ag_2 : aggOf Tryd.prog 2 = false := by kernel_rfl
@[go_sem] theorem us_2 : (Tryd.prog.underlying 2).isSome = true := by kernel_rfl
@[go_sem] theorem un_2 : Tryd.prog.underlying 2 = some (.int .i64) := by kernel_rfl
@[go_sem] theorem ze_2 : zeros Tryd.prog 2 = some [.sc (.int .i64 0)] := by kernel_rfl
@[go_sem] theorem az_2 : azero1 Tryd.prog 2 = some (.sc (.int .i64 0)) := by kernel_rfl
@[go_sem] theorem by_2 : bytesOf Tryd.prog 2 = 8 := by kernel_rfl
@[go_sem] theorem sz_3 : szOf Tryd.prog 3 = 1 := by kernel_rfl
@[go_sem] theorem kn_3 : knownT Tryd.prog 3 = true := by kernel_rfl
@[go_sem] theorem ag_3 : aggOf Tryd.prog 3 = false := by kernel_rfl
@[go_sem] theorem us_3 : (Tryd.prog.underlying 3).isSome = true := by kernel_rfl
@[go_sem] theorem un_3 : Tryd.prog.underlying 3 = some (.int .i64) := by kernel_rfl
@[go_sem] theorem ze_3 : zeros Tryd.prog 3 = some [.sc (.int .i64 0)] := by kernel_rfl
@[go_sem] theorem az_3 : azero1 Tryd.prog 3 = some (.sc (.int .i64 0)) := by kernel_rfl
@[go_sem] theorem by_3 : bytesOf Tryd.prog 3 = 8 := by kernel_rfl
@[go_sem] theorem sz_4 : szOf Tryd.prog 4 = 1 := by kernel_rfl
@[go_sem] theorem kn_4 : knownT Tryd.prog 4 = true := by kernel_rfl
@[go_sem] theorem ag_4 : aggOf Tryd.prog 4 = false := by kernel_rfl
@[go_sem] theorem us_4 : (Tryd.prog.underlying 4).isSome = true := by kernel_rfl
@[go_sem] theorem un_4 : Tryd.prog.underlying 4 = some .bool := by kernel_rfl
@[go_sem] theorem ze_4 : zeros Tryd.prog 4 = some [.sc (.bool false)] := by kernel_rfl
@[go_sem] theorem az_4 : azero1 Tryd.prog 4 = some (.sc (.bool false)) := by kernel_rfl
@[go_sem] theorem by_4 : bytesOf Tryd.prog 4 = 1 := by kernel_rfl
@[go_sem] theorem sz_5 : szOf Tryd.prog 5 = 1 := by kernel_rfl
@[go_sem] theorem kn_5 : knownT Tryd.prog 5 = true := by kernel_rfl
@[go_sem] theorem ag_5 : aggOf Tryd.prog 5 = false := by kernel_rfl
@[go_sem] theorem us_5 : (Tryd.prog.underlying 5).isSome = true := by kernel_rfl
@[go_sem] theorem un_5 : Tryd.prog.underlying 5 = some (.int .u8) := by kernel_rfl
@[go_sem] theorem ze_5 : zeros Tryd.prog 5 = some [.sc (.int .u8 0)] := by kernel_rfl
@[go_sem] theorem az_5 : azero1 Tryd.prog 5 = some (.sc (.int .u8 0)) := by kernel_rfl
@[go_sem] theorem by_5 : bytesOf Tryd.prog 5 = 1 := by kernel_rfl
@[go_sem] theorem sz_9 : szOf Tryd.prog 9 = 1 := by kernel_rfl
@[go_sem] theorem kn_9 : knownT Tryd.prog 9 = true := by kernel_rfl
@[go_sem] theorem ag_9 : aggOf Tryd.prog 9 = false := by kernel_rfl
@[go_sem] theorem us_9 : (Tryd.prog.underlying 9).isSome = true := by kernel_rfl
@[go_sem] theorem un_9 : Tryd.prog.underlying 9 = some .string := by kernel_rfl
@[go_sem] theorem ze_9 : zeros Tryd.prog 9 = some [.sc (.string ByteArray.empty)] := by kernel_rfl
@[go_sem] theorem az_9 : azero1 Tryd.prog 9 = some (.sc (.string ByteArray.empty)) := by kernel_rfl
@[go_sem] theorem by_9 : bytesOf Tryd.prog 9 = 16 := by kernel_rfl
@[go_sem] theorem sz_12 : szOf Tryd.prog 12 = 1 := by kernel_rfl
@[go_sem] theorem kn_12 : knownT Tryd.prog 12 = true := by kernel_rfl
@[go_sem] theorem ag_12 : aggOf Tryd.prog 12 = false := by kernel_rfl
@[go_sem] theorem us_12 : (Tryd.prog.underlying 12).isSome = true := by kernel_rfl
@[go_sem] theorem un_12 : Tryd.prog.underlying 12 = some (.int .u64) := by kernel_rfl
@[go_sem] theorem ze_12 : zeros Tryd.prog 12 = some [.sc (.int .u64 0)] := by kernel_rfl
@[go_sem] theorem az_12 : azero1 Tryd.prog 12 = some (.sc (.int .u64 0)) := by kernel_rfl
@[go_sem] theorem by_12 : bytesOf Tryd.prog 12 = 8 := by kernel_rfl
@[go_sem] theorem sz_17 : szOf Tryd.prog 17 = 1 := by kernel_rfl
@[go_sem] theorem kn_17 : knownT Tryd.prog 17 = true := by kernel_rfl
@[go_sem] theorem ag_17 : aggOf Tryd.prog 17 = false := by kernel_rfl
@[go_sem] theorem us_17 : (Tryd.prog.underlying 17).isSome = true := by kernel_rfl
@[go_sem] theorem ze_17 : zeros Tryd.prog 17 = some [.sc (.pointer none)] := by kernel_rfl
@[go_sem] theorem by_17 : bytesOf Tryd.prog 17 = 8 := by kernel_rfl
@[go_sem] theorem sz_21 : szOf Tryd.prog 21 = 1 := by kernel_rfl
@[go_sem] theorem kn_21 : knownT Tryd.prog 21 = true := by kernel_rfl
@[go_sem] theorem ag_21 : aggOf Tryd.prog 21 = false := by kernel_rfl
@[go_sem] theorem us_21 : (Tryd.prog.underlying 21).isSome = true := by kernel_rfl
@[go_sem] theorem un_21 : Tryd.prog.underlying 21 = some (.int .i32) := by kernel_rfl
@[go_sem] theorem ze_21 : zeros Tryd.prog 21 = some [.sc (.int .i32 0)] := by kernel_rfl
@[go_sem] theorem az_21 : azero1 Tryd.prog 21 = some (.sc (.int .i32 0)) := by kernel_rfl
@[go_sem] theorem by_21 : bytesOf Tryd.prog 21 = 4 := by kernel_rfl
@[go_sem] theorem sz_22 : szOf Tryd.prog 22 = 1 := by kernel_rfl
@[go_sem] theorem kn_22 : knownT Tryd.prog 22 = true := by kernel_rfl
@[go_sem] theorem ag_22 : aggOf Tryd.prog 22 = false := by kernel_rfl
@[go_sem] theorem us_22 : (Tryd.prog.underlying 22).isSome = true := by kernel_rfl
@[go_sem] theorem el_22 : Go.PA.elemOf Tryd.prog 22 = some 3 := by kernel_rfl
@[go_sem] theorem un_22 : Tryd.prog.underlying 22 = some (.slice 3) := by kernel_rfl
@[go_sem] theorem ze_22 : zeros Tryd.prog 22 = some [.nil] := by kernel_rfl
@[go_sem] theorem az_22 : azero1 Tryd.prog 22 = some (.nil) := by kernel_rfl
@[go_sem] theorem by_22 : bytesOf Tryd.prog 22 = 24 := by kernel_rfl
@[go_sem] theorem sz_23 : szOf Tryd.prog 23 = 1 := by kernel_rfl
@[go_sem] theorem kn_23 : knownT Tryd.prog 23 = true := by kernel_rfl
@[go_sem] theorem ag_23 : aggOf Tryd.prog 23 = false := by kernel_rfl
@[go_sem] theorem us_23 : (Tryd.prog.underlying 23).isSome = true := by kernel_rfl
@[go_sem] theorem ze_23 : zeros Tryd.prog 23 = some [.sc (.pointer none)] := by kernel_rfl
@[go_sem] theorem by_23 : bytesOf Tryd.prog 23 = 8 := by kernel_rfl
@[go_sem] theorem sz_25 : szOf Tryd.prog 25 = 8 := by kernel_rfl
@[go_sem] theorem kn_25 : knownT Tryd.prog 25 = true := by kernel_rfl
@[go_sem] theorem ag_25 : aggOf Tryd.prog 25 = true := by kernel_rfl
@[go_sem] theorem us_25 : (Tryd.prog.underlying 25).isSome = true := by kernel_rfl
@[go_sem] theorem fd_25_0 : fieldOf Tryd.prog 25 0 = some (0, 9) := by kernel_rfl
@[go_sem] theorem fd_25_1 : fieldOf Tryd.prog 25 1 = some (1, 3) := by kernel_rfl
@[go_sem] theorem fd_25_2 : fieldOf Tryd.prog 25 2 = some (2, 3) := by kernel_rfl
@[go_sem] theorem fd_25_3 : fieldOf Tryd.prog 25 3 = some (3, 3) := by kernel_rfl
@[go_sem] theorem fd_25_4 : fieldOf Tryd.prog 25 4 = some (4, 3) := by kernel_rfl
@[go_sem] theorem fd_25_5 : fieldOf Tryd.prog 25 5 = some (5, 3) := by kernel_rfl
@[go_sem] theorem fd_25_6 : fieldOf Tryd.prog 25 6 = some (6, 3) := by kernel_rfl
@[go_sem] theorem fd_25_7 : fieldOf Tryd.prog 25 7 = some (7, 3) := by kernel_rfl
@[go_sem] theorem el_25 : Go.PA.elemOf Tryd.prog 25 = none := by kernel_rfl
@[go_sem] theorem ar_25 : arrOf Tryd.prog 25 = none := by kernel_rfl
@[go_sem] theorem fk_25 : fieldsKnown Tryd.prog 25 = true := by kernel_rfl
@[go_sem] theorem sg_25 : sigOf Tryd.prog 25 = some [.str, .int, .int, .int, .int, .int, .int, .int] := by kernel_rfl
@[go_sem] theorem ze_25 : zeros Tryd.prog 25 = some [.sc (.string ByteArray.empty), .sc (.int .i64 0), .sc (.int .i64 0), .sc (.int .i64 0), .sc (.int .i64 0), .sc (.int .i64 0), .sc (.int .i64 0), .sc (.int .i64 0)] := by kernel_rfl
@[go_sem] theorem by_25 : bytesOf Tryd.prog 25 = 72 := by kernel_rfl
@[go_sem] theorem sz_26 : szOf Tryd.prog 26 = 8 := by kernel_rfl
@[go_sem] theorem kn_26 : knownT Tryd.prog 26 = true := by kernel_rfl
@[go_sem] theorem ag_26 : aggOf Tryd.prog 26 = true := by kernel_rfl
@[go_sem] theorem us_26 : (Tryd.prog.underlying 26).isSome = true := by kernel_rfl
@[go_sem] theorem fd_26_0 : fieldOf Tryd.prog 26 0 = some (0, 9) := by kernel_rfl
@[go_sem] theorem fd_26_1 : fieldOf Tryd.prog 26 1 = some (1, 3) := by kernel_rfl
@[go_sem] theorem fd_26_2 : fieldOf Tryd.prog 26 2 = some (2, 3) := by kernel_rfl
@[go_sem] theorem fd_26_3 : fieldOf Tryd.prog 26 3 = some (3, 3) := by kernel_rfl
@[go_sem] theorem fd_26_4 : fieldOf Tryd.prog 26 4 = some (4, 3) := by kernel_rfl
@[go_sem] theorem fd_26_5 : fieldOf Tryd.prog 26 5 = some (5, 3) := by kernel_rfl
@[go_sem] theorem fd_26_6 : fieldOf Tryd.prog 26 6 = some (6, 3) := by kernel_rfl
@[go_sem] theorem fd_26_7 : fieldOf Tryd.prog 26 7 = some (7, 3) := by kernel_rfl
@[go_sem] theorem el_26 : Go.PA.elemOf Tryd.prog 26 = none := by kernel_rfl
@[go_sem] theorem ar_26 : arrOf Tryd.prog 26 = none := by kernel_rfl
@[go_sem] theorem fk_26 : fieldsKnown Tryd.prog 26 = true := by kernel_rfl
@[go_sem] theorem sg_26 : sigOf Tryd.prog 26 = some [.str, .int, .int, .int, .int, .int, .int, .int] := by kernel_rfl
@[go_sem] theorem ze_26 : zeros Tryd.prog 26 = some [.sc (.string ByteArray.empty), .sc (.int .i64 0), .sc (.int .i64 0), .sc (.int .i64 0), .sc (.int .i64 0), .sc (.int .i64 0), .sc (.int .i64 0), .sc (.int .i64 0)] := by kernel_rfl
@[go_sem] theorem by_26 : bytesOf Tryd.prog 26 = 72 := by kernel_rfl
@[go_sem] theorem sz_31 : szOf Tryd.prog 31 = 1 := by kernel_rfl
@[go_sem] theorem kn_31 : knownT Tryd.prog 31 = true := by kernel_rfl
@[go_sem] theorem ag_31 : aggOf Tryd.prog 31 = false := by kernel_rfl
@[go_sem] theorem us_31 : (Tryd.prog.underlying 31).isSome = true := by kernel_rfl
@[go_sem] theorem un_31 : Tryd.prog.underlying 31 = some (.int .u16) := by kernel_rfl
@[go_sem] theorem ze_31 : zeros Tryd.prog 31 = some [.sc (.int .u16 0)] := by kernel_rfl
@[go_sem] theorem az_31 : azero1 Tryd.prog 31 = some (.sc (.int .u16 0)) := by kernel_rfl
@[go_sem] theorem by_31 : bytesOf Tryd.prog 31 = 2 := by kernel_rfl
@[go_sem] theorem sz_34 : szOf Tryd.prog 34 = 1 := by kernel_rfl
@[go_sem] theorem kn_34 : knownT Tryd.prog 34 = true := by kernel_rfl
@[go_sem] theorem ag_34 : aggOf Tryd.prog 34 = false := by kernel_rfl
@[go_sem] theorem us_34 : (Tryd.prog.underlying 34).isSome = true := by kernel_rfl
@[go_sem] theorem el_34 : Go.PA.elemOf Tryd.prog 34 = some 26 := by kernel_rfl
@[go_sem] theorem un_34 : Tryd.prog.underlying 34 = some (.slice 26) := by kernel_rfl
@[go_sem] theorem ze_34 : zeros Tryd.prog 34 = some [.nil] := by kernel_rfl
@[go_sem] theorem az_34 : azero1 Tryd.prog 34 = some (.nil) := by kernel_rfl
@[go_sem] theorem by_34 : bytesOf Tryd.prog 34 = 24 := by kernel_rfl
@[go_sem] theorem sz_36 : szOf Tryd.prog 36 = 1 := by kernel_rfl
@[go_sem] theorem kn_36 : knownT Tryd.prog 36 = true := by kernel_rfl
@[go_sem] theorem ag_36 : aggOf Tryd.prog 36 = false := by kernel_rfl
@[go_sem] theorem us_36 : (Tryd.prog.underlying 36).isSome = true := by kernel_rfl
@[go_sem] theorem el_36 : Go.PA.elemOf Tryd.prog 36 = some 46 := by kernel_rfl
@[go_sem] theorem un_36 : Tryd.prog.underlying 36 = some (.slice 46) := by kernel_rfl
@[go_sem] theorem ze_36 : zeros Tryd.prog 36 = some [.nil] := by kernel_rfl
@[go_sem] theorem az_36 : azero1 Tryd.prog 36 = some (.nil) := by kernel_rfl
@[go_sem] theorem by_36 : bytesOf Tryd.prog 36 = 24 := by kernel_rfl
@[go_sem] theorem sz_37 : szOf Tryd.prog 37 = 1 := by kernel_rfl
@[go_sem] theorem kn_37 : knownT Tryd.prog 37 = true := by kernel_rfl
@[go_sem] theorem ag_37 : aggOf Tryd.prog 37 = false := by kernel_rfl
@[go_sem] theorem us_37 : (Tryd.prog.underlying 37).isSome = true := by kernel_rfl
@[go_sem] theorem un_37 : Tryd.prog.underlying 37 = some (.int .i64) := by kernel_rfl
@[go_sem] theorem ze_37 : zeros Tryd.prog 37 = some [.sc (.int .i64 0)] := by kernel_rfl
@[go_sem] theorem az_37 : azero1 Tryd.prog 37 = some (.sc (.int .i64 0)) := by kernel_rfl
@[go_sem] theorem by_37 : bytesOf Tryd.prog 37 = 8 := by kernel_rfl
@[go_sem] theorem sz_40 : szOf Tryd.prog 40 = 1 := by kernel_rfl
@[go_sem] theorem kn_40 : knownT Tryd.prog 40 = true := by kernel_rfl
@[go_sem] theorem ag_40 : aggOf Tryd.prog 40 = false := by kernel_rfl
@[go_sem] theorem us_40 : (Tryd.prog.underlying 40).isSome = true := by kernel_rfl
@[go_sem] theorem el_40 : Go.PA.elemOf Tryd.prog 40 = some 44 := by kernel_rfl
@[go_sem] theorem un_40 : Tryd.prog.underlying 40 = some (.slice 44) := by kernel_rfl
@[go_sem] theorem ze_40 : zeros Tryd.prog 40 = some [.nil] := by kernel_rfl
@[go_sem] theorem az_40 : azero1 Tryd.prog 40 = some (.nil) := by kernel_rfl
@[go_sem] theorem by_40 : bytesOf Tryd.prog 40 = 24 := by kernel_rfl
@[go_sem] theorem sz_43 : szOf Tryd.prog 43 = 6 := by kernel_rfl
@[go_sem] theorem kn_43 : knownT Tryd.prog 43 = true := by kernel_rfl
@[go_sem] theorem ag_43 : aggOf Tryd.prog 43 = true := by kernel_rfl
@[go_sem] theorem us_43 : (Tryd.prog.underlying 43).isSome = true := by kernel_rfl
@[go_sem] theorem fd_43_0 : fieldOf Tryd.prog 43 0 = some (0, 3) := by kernel_rfl
@[go_sem] theorem fd_43_1 : fieldOf Tryd.prog 43 1 = some (1, 3) := by kernel_rfl
@[go_sem] theorem fd_43_2 : fieldOf Tryd.prog 43 2 = some (2, 3) := by kernel_rfl
@[go_sem] theorem fd_43_3 : fieldOf Tryd.prog 43 3 = some (3, 3) := by kernel_rfl
@[go_sem] theorem fd_43_4 : fieldOf Tryd.prog 43 4 = some (4, 3) := by kernel_rfl
@[go_sem] theorem fd_43_5 : fieldOf Tryd.prog 43 5 = some (5, 9) := by kernel_rfl
@[go_sem] theorem el_43 : Go.PA.elemOf Tryd.prog 43 = none := by kernel_rfl
@[go_sem] theorem ar_43 : arrOf Tryd.prog 43 = none := by kernel_rfl
@[go_sem] theorem fk_43 : fieldsKnown Tryd.prog 43 = true := by kernel_rfl
@[go_sem] theorem sg_43 : sigOf Tryd.prog 43 = some [.int, .int, .int, .int, .int, .str] := by kernel_rfl
@[go_sem] theorem ze_43 : zeros Tryd.prog 43 = some [.sc (.int .i64 0), .sc (.int .i64 0), .sc (.int .i64 0), .sc (.int .i64 0), .sc (.int .i64 0), .sc (.string ByteArray.empty)] := by kernel_rfl
@[go_sem] theorem by_43 : bytesOf Tryd.prog 43 = 56 := by kernel_rfl
@[go_sem] theorem sz_44 : szOf Tryd.prog 44 = 6 := by kernel_rfl
@[go_sem] theorem kn_44 : knownT Tryd.prog 44 = true := by kernel_rfl
@[go_sem] theorem ag_44 : aggOf Tryd.prog 44 = true := by kernel_rfl
@[go_sem] theorem us_44 : (Tryd.prog.underlying 44).isSome = true := by kernel_rfl
@[go_sem] theorem fd_44_0 : fieldOf Tryd.prog 44 0 = some (0, 3) := by kernel_rfl
@[go_sem] theorem fd_44_1 : fieldOf Tryd.prog 44 1 = some (1, 3) := by kernel_rfl
@[go_sem] theorem fd_44_2 : fieldOf Tryd.prog 44 2 = some (2, 3) := by kernel_rfl
@[go_sem] theorem fd_44_3 : fieldOf Tryd.prog 44 3 = some (3, 3) := by kernel_rfl
@[go_sem] theorem fd_44_4 : fieldOf Tryd.prog 44 4 = some (4, 3) := by kernel_rfl
@[go_sem] theorem fd_44_5 : fieldOf Tryd.prog 44 5 = some (5, 9) := by kernel_rfl
@[go_sem] theorem el_44 : Go.PA.elemOf Tryd.prog 44 = none := by kernel_rfl
@[go_sem] theorem ar_44 : arrOf Tryd.prog 44 = none := by kernel_rfl
@[go_sem] theorem fk_44 : fieldsKnown Tryd.prog 44 = true := by kernel_rfl
@[go_sem] theorem sg_44 : sigOf Tryd.prog 44 = some [.int, .int, .int, .int, .int, .str] := by kernel_rfl
@[go_sem] theorem ze_44 : zeros Tryd.prog 44 = some [.sc (.int .i64 0), .sc (.int .i64 0), .sc (.int .i64 0), .sc (.int .i64 0), .sc (.int .i64 0), .sc (.string ByteArray.empty)] := by kernel_rfl
@[go_sem] theorem by_44 : bytesOf Tryd.prog 44 = 56 := by kernel_rfl
@[go_sem] theorem sz_45 : szOf Tryd.prog 45 = 4 := by kernel_rfl
@[go_sem] theorem kn_45 : knownT Tryd.prog 45 = true := by kernel_rfl
@[go_sem] theorem ag_45 : aggOf Tryd.prog 45 = true := by kernel_rfl
@[go_sem] theorem us_45 : (Tryd.prog.underlying 45).isSome = true := by kernel_rfl
@[go_sem] theorem fd_45_0 : fieldOf Tryd.prog 45 0 = some (0, 3) := by kernel_rfl
@[go_sem] theorem fd_45_1 : fieldOf Tryd.prog 45 1 = some (1, 3) := by kernel_rfl
@[go_sem] theorem fd_45_2 : fieldOf Tryd.prog 45 2 = some (2, 3) := by kernel_rfl
@[go_sem] theorem fd_45_3 : fieldOf Tryd.prog 45 3 = some (3, 3) := by kernel_rfl
@[go_sem] theorem el_45 : Go.PA.elemOf Tryd.prog 45 = none := by kernel_rfl
@[go_sem] theorem ar_45 : arrOf Tryd.prog 45 = none := by kernel_rfl
@[go_sem] theorem fk_45 : fieldsKnown Tryd.prog 45 = true := by kernel_rfl
@[go_sem] theorem sg_45 : sigOf Tryd.prog 45 = some [.int, .int, .int, .int] := by kernel_rfl
@[go_sem] theorem ze_45 : zeros Tryd.prog 45 = some [.sc (.int .i64 0), .sc (.int .i64 0), .sc (.int .i64 0), .sc (.int .i64 0)] := by kernel_rfl
@[go_sem] theorem by_45 : bytesOf Tryd.prog 45 = 32 := by kernel_rfl
@[go_sem] theorem sz_46 : szOf Tryd.prog 46 = 4 := by kernel_rfl
@[go_sem] theorem kn_46 : knownT Tryd.prog 46 = true := by kernel_rfl
@[go_sem] theorem ag_46 : aggOf Tryd.prog 46 = true := by kernel_rfl
@[go_sem] theorem us_46 : (Tryd.prog.underlying 46).isSome = true := by kernel_rfl
@[go_sem] theorem fd_46_0 : fieldOf Tryd.prog 46 0 = some (0, 3) := by kernel_rfl
@[go_sem] theorem fd_46_1 : fieldOf Tryd.prog 46 1 = some (1, 3) := by kernel_rfl
@[go_sem] theorem fd_46_2 : fieldOf Tryd.prog 46 2 = some (2, 3) := by kernel_rfl
@[go_sem] theorem fd_46_3 : fieldOf Tryd.prog 46 3 = some (3, 3) := by kernel_rfl
@[go_sem] theorem el_46 : Go.PA.elemOf Tryd.prog 46 = none := by kernel_rfl
@[go_sem] theorem ar_46 : arrOf Tryd.prog 46 = none := by kernel_rfl
@[go_sem] theorem fk_46 : fieldsKnown Tryd.prog 46 = true := by kernel_rfl
@[go_sem] theorem sg_46 : sigOf Tryd.prog 46 = some [.int, .int, .int, .int] := by kernel_rfl
@[go_sem] theorem ze_46 : zeros Tryd.prog 46 = some [.sc (.int .i64 0), .sc (.int .i64 0), .sc (.int .i64 0), .sc (.int .i64 0)] := by kernel_rfl
@[go_sem] theorem by_46 : bytesOf Tryd.prog 46 = 32 := by kernel_rfl
@[go_sem] theorem sz_49 : szOf Tryd.prog 49 = 2 := by kernel_rfl
@[go_sem] theorem kn_49 : knownT Tryd.prog 49 = true := by kernel_rfl
@[go_sem] theorem ag_49 : aggOf Tryd.prog 49 = true := by kernel_rfl
@[go_sem] theorem us_49 : (Tryd.prog.underlying 49).isSome = true := by kernel_rfl
@[go_sem] theorem el_49 : Go.PA.elemOf Tryd.prog 49 = none := by kernel_rfl
@[go_sem] theorem ar_49 : arrOf Tryd.prog 49 = some (2, 9) := by kernel_rfl
@[go_sem] theorem fk_49 : fieldsKnown Tryd.prog 49 = true := by kernel_rfl
@[go_sem] theorem fd_49_0 : fieldOf Tryd.prog 49 0 = none := by kernel_rfl
@[go_sem] theorem fd_49_1 : fieldOf Tryd.prog 49 1 = none := by kernel_rfl
@[go_sem] theorem ze_49 : zeros Tryd.prog 49 = some [.sc (.string ByteArray.empty), .sc (.string ByteArray.empty)] := by kernel_rfl
@[go_sem] theorem by_49 : bytesOf Tryd.prog 49 = 32 := by kernel_rfl
@[go_sem] theorem sz_52 : szOf Tryd.prog 52 = 2 := by kernel_rfl
@[go_sem] theorem kn_52 : knownT Tryd.prog 52 = true := by kernel_rfl
@[go_sem] theorem ag_52 : aggOf Tryd.prog 52 = true := by kernel_rfl
@[go_sem] theorem us_52 : (Tryd.prog.underlying 52).isSome = true := by kernel_rfl
@[go_sem] theorem fd_52_0 : fieldOf Tryd.prog 52 0 = some (0, 22) := by kernel_rfl
@[go_sem] theorem fd_52_1 : fieldOf Tryd.prog 52 1 = some (1, 3) := by kernel_rfl
@[go_sem] theorem el_52 : Go.PA.elemOf Tryd.prog 52 = none := by kernel_rfl
@[go_sem] theorem ar_52 : arrOf Tryd.prog 52 = none := by kernel_rfl
@[go_sem] theorem fk_52 : fieldsKnown Tryd.prog 52 = true := by kernel_rfl
@[go_sem] theorem ze_52 : zeros Tryd.prog 52 = some [.nil, .sc (.int .i64 0)] := by kernel_rfl
@[go_sem] theorem by_52 : bytesOf Tryd.prog 52 = 32 := by kernel_rfl
@[go_sem] theorem sz_53 : szOf Tryd.prog 53 = 2 := by kernel_rfl
@[go_sem] theorem kn_53 : knownT Tryd.prog 53 = true := by kernel_rfl
@[go_sem] theorem ag_53 : aggOf Tryd.prog 53 = true := by kernel_rfl
@[go_sem] theorem us_53 : (Tryd.prog.underlying 53).isSome = true := by kernel_rfl
@[go_sem] theorem fd_53_0 : fieldOf Tryd.prog 53 0 = some (0, 22) := by kernel_rfl
@[go_sem] theorem fd_53_1 : fieldOf Tryd.prog 53 1 = some (1, 3) := by kernel_rfl
@[go_sem] theorem el_53 : Go.PA.elemOf Tryd.prog 53 = none := by kernel_rfl
@[go_sem] theorem ar_53 : arrOf Tryd.prog 53 = none := by kernel_rfl
@[go_sem] theorem fk_53 : fieldsKnown Tryd.prog 53 = true := by kernel_rfl
@[go_sem] theorem ze_53 : zeros Tryd.prog 53 = some [.nil, .sc (.int .i64 0)] := by kernel_rfl
@[go_sem] theorem by_53 : bytesOf Tryd.prog 53 = 32 := by kernel_rfl
@[go_sem] theorem sz_81 : szOf Tryd.prog 81 = 1 := by kernel_rfl
@[go_sem] theorem kn_81 : knownT Tryd.prog 81 = true := by kernel_rfl
@[go_sem] theorem ag_81 : aggOf Tryd.prog 81 = false := by kernel_rfl
@[go_sem] theorem us_81 : (Tryd.prog.underlying 81).isSome = true := by kernel_rfl
@[go_sem] theorem el_81 : Go.PA.elemOf Tryd.prog 81 = some 9 := by kernel_rfl
@[go_sem] theorem un_81 : Tryd.prog.underlying 81 = some (.slice 9) := by kernel_rfl
@[go_sem] theorem ze_81 : zeros Tryd.prog 81 = some [.nil] := by kernel_rfl
@[go_sem] theorem az_81 : azero1 Tryd.prog 81 = some (.nil) := by kernel_rfl
@[go_sem] theorem by_81 : bytesOf Tryd.prog 81 = 24 := by kernel_rfl
@[go_sem] theorem sz_93 : szOf Tryd.prog 93 = 1 := by kernel_rfl
@[go_sem] theorem kn_93 : knownT Tryd.prog 93 = true := by kernel_rfl
@[go_sem] theorem ag_93 : aggOf Tryd.prog 93 = false := by kernel_rfl
@[go_sem] theorem us_93 : (Tryd.prog.underlying 93).isSome = true := by kernel_rfl
@[go_sem] theorem el_93 : Go.PA.elemOf Tryd.prog 93 = some 5 := by kernel_rfl
@[go_sem] theorem un_93 : Tryd.prog.underlying 93 = some (.slice 5) := by kernel_rfl
@[go_sem] theorem ze_93 : zeros Tryd.prog 93 = some [.nil] := by kernel_rfl
@[go_sem] theorem az_93 : azero1 Tryd.prog 93 = some (.nil) := by kernel_rfl
@[go_sem] theorem by_93 : bytesOf Tryd.prog 93 = 24 := by kernel_rfl
@[go_sem] theorem sz_96 : szOf Tryd.prog 96 = 1 := by kernel_rfl
@[go_sem] theorem kn_96 : knownT Tryd.prog 96 = true := by kernel_rfl
@[go_sem] theorem ag_96 : aggOf Tryd.prog 96 = false := by kernel_rfl
@[go_sem] theorem us_96 : (Tryd.prog.underlying 96).isSome = true := by kernel_rfl
@[go_sem] theorem ze_96 : zeros Tryd.prog 96 = some [.sc (.pointer none)] := by kernel_rfl
@[go_sem] theorem by_96 : bytesOf Tryd.prog 96 = 8 := by kernel_rfl
@[go_sem] theorem sz_100 : szOf Tryd.prog 100 = 1 := by kernel_rfl
@[go_sem] theorem kn_100 : knownT Tryd.prog 100 = true := by kernel_rfl
@[go_sem] theorem ag_100 : aggOf Tryd.prog 100 = false := by kernel_rfl
@[go_sem] theorem us_100 : (Tryd.prog.underlying 100).isSome = true := by kernel_rfl
@[go_sem] theorem un_100 : Tryd.prog.underlying 100 = some (.int .u64) := by kernel_rfl
@[go_sem] theorem ze_100 : zeros Tryd.prog 100 = some [.sc (.int .u64 0)] := by kernel_rfl
@[go_sem] theorem az_100 : azero1 Tryd.prog 100 = some (.sc (.int .u64 0)) := by kernel_rfl
@[go_sem] theorem by_100 : bytesOf Tryd.prog 100 = 8 := by kernel_rfl
@[go_sem] theorem sz_101 : szOf Tryd.prog 101 = 1 := by kernel_rfl
@[go_sem] theorem kn_101 : knownT Tryd.prog 101 = true := by kernel_rfl
@[go_sem] theorem ag_101 : aggOf Tryd.prog 101 = false := by kernel_rfl
@[go_sem] theorem us_101 : (Tryd.prog.underlying 101).isSome = true := by kernel_rfl
@[go_sem] theorem un_101 : Tryd.prog.underlying 101 = some (.int .u64) := by kernel_rfl
@[go_sem] theorem ze_101 : zeros Tryd.prog 101 = some [.sc (.int .u64 0)] := by kernel_rfl
@[go_sem] theorem az_101 : azero1 Tryd.prog 101 = some (.sc (.int .u64 0)) := by kernel_rfl
@[go_sem] theorem by_101 : bytesOf Tryd.prog 101 = 8 := by kernel_rfl
@[go_sem] theorem sz_105 : szOf Tryd.prog 105 = 3 := by kernel_rfl
@[go_sem] theorem kn_105 : knownT Tryd.prog 105 = true := by kernel_rfl
@[go_sem] theorem ag_105 : aggOf Tryd.prog 105 = true := by kernel_rfl
@[go_sem] theorem us_105 : (Tryd.prog.underlying 105).isSome = true := by kernel_rfl
@[go_sem] theorem fd_105_0 : fieldOf Tryd.prog 105 0 = some (0, 9) := by kernel_rfl
@[go_sem] theorem fd_105_1 : fieldOf Tryd.prog 105 1 = some (1, 9) := by kernel_rfl
@[go_sem] theorem fd_105_2 : fieldOf Tryd.prog 105 2 = some (2, 77) := by kernel_rfl
@[go_sem] theorem el_105 : Go.PA.elemOf Tryd.prog 105 = none := by kernel_rfl
@[go_sem] theorem ar_105 : arrOf Tryd.prog 105 = none := by kernel_rfl
@[go_sem] theorem fk_105 : fieldsKnown Tryd.prog 105 = true := by kernel_rfl
@[go_sem] theorem by_105 : bytesOf Tryd.prog 105 = 48 := by kernel_rfl
@[go_sem] theorem sz_106 : szOf Tryd.prog 106 = 3 := by kernel_rfl
@[go_sem] theorem kn_106 : knownT Tryd.prog 106 = true := by kernel_rfl
@[go_sem] theorem ag_106 : aggOf Tryd.prog 106 = true := by kernel_rfl
@[go_sem] theorem us_106 : (Tryd.prog.underlying 106).isSome = true := by kernel_rfl
@[go_sem] theorem fd_106_0 : fieldOf Tryd.prog 106 0 = some (0, 9) := by kernel_rfl
@[go_sem] theorem fd_106_1 : fieldOf Tryd.prog 106 1 = some (1, 9) := by kernel_rfl
@[go_sem] theorem fd_106_2 : fieldOf Tryd.prog 106 2 = some (2, 77) := by kernel_rfl
@[go_sem] theorem el_106 : Go.PA.elemOf Tryd.prog 106 = none := by kernel_rfl
@[go_sem] theorem ar_106 : arrOf Tryd.prog 106 = none := by kernel_rfl
@[go_sem] theorem fk_106 : fieldsKnown Tryd.prog 106 = true := by kernel_rfl
@[go_sem] theorem by_106 : bytesOf Tryd.prog 106 = 48 := by kernel_rfl
@[go_sem] theorem sz_108 : szOf Tryd.prog 108 = 24 := by kernel_rfl
@[go_sem] theorem kn_108 : knownT Tryd.prog 108 = true := by kernel_rfl
@[go_sem] theorem ag_108 : aggOf Tryd.prog 108 = true := by kernel_rfl
@[go_sem] theorem us_108 : (Tryd.prog.underlying 108).isSome = true := by kernel_rfl
@[go_sem] theorem el_108 : Go.PA.elemOf Tryd.prog 108 = none := by kernel_rfl
@[go_sem] theorem ar_108 : arrOf Tryd.prog 108 = some (24, 5) := by kernel_rfl
@[go_sem] theorem fk_108 : fieldsKnown Tryd.prog 108 = true := by kernel_rfl
@[go_sem] theorem fd_108_0 : fieldOf Tryd.prog 108 0 = none := by kernel_rfl
@[go_sem] theorem fd_108_1 : fieldOf Tryd.prog 108 1 = none := by kernel_rfl
@[go_sem] theorem fd_108_2 : fieldOf Tryd.prog 108 2 = none := by kernel_rfl
@[go_sem] theorem fd_108_3 : fieldOf Tryd.prog 108 3 = none := by kernel_rfl
@[go_sem] theorem fd_108_4 : fieldOf Tryd.prog 108 4 = none := by kernel_rfl
@[go_sem] theorem fd_108_5 : fieldOf Tryd.prog 108 5 = none := by kernel_rfl
@[go_sem] theorem fd_108_6 : fieldOf Tryd.prog 108 6 = none := by kernel_rfl
@[go_sem] theorem fd_108_7 : fieldOf Tryd.prog 108 7 = none := by kernel_rfl
@[go_sem] theorem ze_108 : zeros Tryd.prog 108 = some [.sc (.int .u8 0), .sc (.int .u8 0), .sc (.int .u8 0), .sc (.int .u8 0), .sc (.int .u8 0), .sc (.int .u8 0), .sc (.int .u8 0), .sc (.int .u8 0), .sc (.int .u8 0), .sc (.int .u8 0), .sc (.int .u8 0), .sc (.int .u8 0), .sc (.int .u8 0), .sc (.int .u8 0), .sc (.int .u8 0), .sc (.int .u8 0), .sc (.int .u8 0), .sc (.int .u8 0), .sc (.int .u8 0), .sc (.int .u8 0), .sc (.int .u8 0), .sc (.int .u8 0), .sc (.int .u8 0), .sc (.int .u8 0)] := by kernel_rfl
@[go_sem] theorem by_108 : bytesOf Tryd.prog 108 = 24 := by kernel_rfl
@[go_sem] theorem sz_113 : szOf Tryd.prog 113 = 256 := by kernel_rfl
@[go_sem] theorem kn_113 : knownT Tryd.prog 113 = true := by kernel_rfl
@[go_sem] theorem ag_113 : aggOf Tryd.prog 113 = true := by kernel_rfl
@[go_sem] theorem us_113 : (Tryd.prog.underlying 113).isSome = true := by kernel_rfl
@[go_sem] theorem el_113 : Go.PA.elemOf Tryd.prog 113 = none := by kernel_rfl
@[go_sem] theorem ar_113 : arrOf Tryd.prog 113 = some (256, 5) := by kernel_rfl
@[go_sem] theorem fk_113 : fieldsKnown Tryd.prog 113 = true := by kernel_rfl
@[go_sem] theorem fd_113_0 : fieldOf Tryd.prog 113 0 = none := by kernel_rfl
@[go_sem] theorem fd_113_1 : fieldOf Tryd.prog 113 1 = none := by kernel_rfl
@[go_sem] theorem fd_113_2 : fieldOf Tryd.prog 113 2 = none := by kernel_rfl
@[go_sem] theorem fd_113_3 : fieldOf Tryd.prog 113 3 = none := by kernel_rfl
@[go_sem] theorem fd_113_4 : fieldOf Tryd.prog 113 4 = none := by kernel_rfl
@[go_sem] theorem fd_113_5 : fieldOf Tryd.prog 113 5 = none := by kernel_rfl
@[go_sem] theorem fd_113_6 : fieldOf Tryd.prog 113 6 = none := by kernel_rfl
@[go_sem] theorem fd_113_7 : fieldOf Tryd.prog 113 7 = none := by kernel_rfl
theorem ze_113 : zeros Tryd.prog 113 = some (List.replicate 256 (.sc (.int .u8 0))) := by kernel_rfl
@[go_sem] theorem by_113 : bytesOf Tryd.prog 113 = 256 := by kernel_rfl
@[go_sem] theorem sz_114 : szOf Tryd.prog 114 = 2 := by kernel_rfl
@[go_sem] theorem kn_114 : knownT Tryd.prog 114 = true := by kernel_rfl
@[go_sem] theorem ag_114 : aggOf Tryd.prog 114 = true := by kernel_rfl
@[go_sem] theorem us_114 : (Tryd.prog.underlying 114).isSome = true := by kernel_rfl
@[go_sem] theorem fd_114_0 : fieldOf Tryd.prog 114 0 = some (0, 5) := by kernel_rfl
@[go_sem] theorem fd_114_1 : fieldOf Tryd.prog 114 1 = some (1, 5) := by kernel_rfl
@[go_sem] theorem el_114 : Go.PA.elemOf Tryd.prog 114 = none := by kernel_rfl
@[go_sem] theorem ar_114 : arrOf Tryd.prog 114 = none := by kernel_rfl
@[go_sem] theorem fk_114 : fieldsKnown Tryd.prog 114 = true := by kernel_rfl
@[go_sem] theorem sg_114 : sigOf Tryd.prog 114 = some [.int, .int] := by kernel_rfl
@[go_sem] theorem ze_114 : zeros Tryd.prog 114 = some [.sc (.int .u8 0), .sc (.int .u8 0)] := by kernel_rfl
@[go_sem] theorem by_114 : bytesOf Tryd.prog 114 = 2 := by kernel_rfl
@[go_sem] theorem sz_115 : szOf Tryd.prog 115 = 2 := by kernel_rfl
@[go_sem] theorem kn_115 : knownT Tryd.prog 115 = true := by kernel_rfl
@[go_sem] theorem ag_115 : aggOf Tryd.prog 115 = true := by kernel_rfl
@[go_sem] theorem us_115 : (Tryd.prog.underlying 115).isSome = true := by kernel_rfl
@[go_sem] theorem fd_115_0 : fieldOf Tryd.prog 115 0 = some (0, 5) := by kernel_rfl
@[go_sem] theorem fd_115_1 : fieldOf Tryd.prog 115 1 = some (1, 5) := by kernel_rfl
@[go_sem] theorem el_115 : Go.PA.elemOf Tryd.prog 115 = none := by kernel_rfl
@[go_sem] theorem ar_115 : arrOf Tryd.prog 115 = none := by kernel_rfl
@[go_sem] theorem fk_115 : fieldsKnown Tryd.prog 115 = true := by kernel_rfl
@[go_sem] theorem sg_115 : sigOf Tryd.prog 115 = some [.int, .int] := by kernel_rfl
@[go_sem] theorem ze_115 : zeros Tryd.prog 115 = some [.sc (.int .u8 0), .sc (.int .u8 0)] := by kernel_rfl
@[go_sem] theorem by_115 : bytesOf Tryd.prog 115 = 2 := by kernel_rfl
@[go_sem] theorem sz_116 : szOf Tryd.prog 116 = 32 := by kernel_rfl
@[go_sem] theorem kn_116 : knownT Tryd.prog 116 = true := by kernel_rfl
@[go_sem] theorem ag_116 : aggOf Tryd.prog 116 = true := by kernel_rfl
@[go_sem] theorem us_116 : (Tryd.prog.underlying 116).isSome = true := by kernel_rfl
@[go_sem] theorem el_116 : Go.PA.elemOf Tryd.prog 116 = none := by kernel_rfl
@[go_sem] theorem ar_116 : arrOf Tryd.prog 116 = some (16, 115) := by kernel_rfl
@[go_sem] theorem fk_116 : fieldsKnown Tryd.prog 116 = true := by kernel_rfl
@[go_sem] theorem fd_116_0 : fieldOf Tryd.prog 116 0 = none := by kernel_rfl
@[go_sem] theorem fd_116_1 : fieldOf Tryd.prog 116 1 = none := by kernel_rfl
@[go_sem] theorem fd_116_2 : fieldOf Tryd.prog 116 2 = none := by kernel_rfl
@[go_sem] theorem fd_116_3 : fieldOf Tryd.prog 116 3 = none := by kernel_rfl
@[go_sem] theorem fd_116_4 : fieldOf Tryd.prog 116 4 = none := by kernel_rfl
@[go_sem] theorem fd_116_5 : fieldOf Tryd.prog 116 5 = none := by kernel_rfl
@[go_sem] theorem fd_116_6 : fieldOf Tryd.prog 116 6 = none := by kernel_rfl
@[go_sem] theorem fd_116_7 : fieldOf Tryd.prog 116 7 = none := by kernel_rfl
@[go_sem] theorem ze_116 : zeros Tryd.prog 116 = some [.sc (.int .u8 0), .sc (.int .u8 0), .sc (.int .u8 0), .sc (.int .u8 0), .sc (.int .u8 0), .sc (.int .u8 0), .sc (.int .u8 0), .sc (.int .u8 0), .sc (.int .u8 0), .sc (.int .u8 0), .sc (.int .u8 0), .sc (.int .u8 0), .sc (.int .u8 0), .sc (.int .u8 0), .sc (.int .u8 0), .sc (.int .u8 0), .sc (.int .u8 0), .sc (.int .u8 0), .sc (.int .u8 0), .sc (.int .u8 0), .sc (.int .u8 0), .sc (.int .u8 0), .sc (.int .u8 0), .sc (.int .u8 0), .sc (.int .u8 0), .sc (.int .u8 0), .sc (.int .u8 0), .sc (.int .u8 0), .sc (.int .u8 0), .sc (.int .u8 0), .sc (.int .u8 0), .sc (.int .u8 0)] := by kernel_rfl
@[go_sem] theorem by_116 : bytesOf Tryd.prog 116 = 32 := by kernel_rfl
@[go_sem] theorem sz_119 : szOf Tryd.prog 119 = 1 := by kernel_rfl
@[go_sem] theorem kn_119 : knownT Tryd.prog 119 = true := by kernel_rfl
@[go_sem] theorem ag_119 : aggOf Tryd.prog 119 = false := by kernel_rfl
@[go_sem] theorem us_119 : (Tryd.prog.underlying 119).isSome = true := by kernel_rfl
@[go_sem] theorem ze_119 : zeros Tryd.prog 119 = some [.sc (.pointer none)] := by kernel_rfl
@[go_sem] theorem by_119 : bytesOf Tryd.prog 119 = 8 := by kernel_rfl
@[go_sem] theorem sz_120 : szOf Tryd.prog 120 = 1 := by kernel_rfl
@[go_sem] theorem kn_120 : knownT Tryd.prog 120 = true := by kernel_rfl
@[go_sem] theorem ag_120 : aggOf Tryd.prog 120 = false := by kernel_rfl
@[go_sem] theorem us_120 : (Tryd.prog.underlying 120).isSome = true := by kernel_rfl
@[go_sem] theorem ze_120 : zeros Tryd.prog 120 = some [.sc (.pointer none)] := by kernel_rfl
@[go_sem] theorem by_120 : bytesOf Tryd.prog 120 = 8 := by kernel_rfl
@[go_sem] theorem sz_121 : szOf Tryd.prog 121 = 1 := by kernel_rfl
@[go_sem] theorem kn_121 : knownT Tryd.prog 121 = true := by kernel_rfl
@[go_sem] theorem ag_121 : aggOf Tryd.prog 121 = true := by kernel_rfl
@[go_sem] theorem us_121 : (Tryd.prog.underlying 121).isSome = true := by kernel_rfl
@[go_sem] theorem fd_121_0 : fieldOf Tryd.prog 121 0 = some (0, 9) := by kernel_rfl
@[go_sem] theorem el_121 : Go.PA.elemOf Tryd.prog 121 = none := by kernel_rfl
@[go_sem] theorem ar_121 : arrOf Tryd.prog 121 = none := by kernel_rfl
@[go_sem] theorem fk_121 : fieldsKnown Tryd.prog 121 = true := by kernel_rfl
@[go_sem] theorem sg_121 : sigOf Tryd.prog 121 = some [.str] := by kernel_rfl
@[go_sem] theorem ze_121 : zeros Tryd.prog 121 = some [.sc (.string ByteArray.empty)] := by kernel_rfl
@[go_sem] theorem by_121 : bytesOf Tryd.prog 121 = 16 := by kernel_rfl
@[go_sem] theorem sz_122 : szOf Tryd.prog 122 = 1 := by kernel_rfl
@[go_sem] theorem kn_122 : knownT Tryd.prog 122 = true := by kernel_rfl
@[go_sem] theorem ag_122 : aggOf Tryd.prog 122 = true := by kernel_rfl
@[go_sem] theorem us_122 : (Tryd.prog.underlying 122).isSome = true := by kernel_rfl
@[go_sem] theorem fd_122_0 : fieldOf Tryd.prog 122 0 = some (0, 9) := by kernel_rfl
@[go_sem] theorem el_122 : Go.PA.elemOf Tryd.prog 122 = none := by kernel_rfl
@[go_sem] theorem ar_122 : arrOf Tryd.prog 122 = none := by kernel_rfl
@[go_sem] theorem fk_122 : fieldsKnown Tryd.prog 122 = true := by kernel_rfl
@[go_sem] theorem sg_122 : sigOf Tryd.prog 122 = some [.str] := by kernel_rfl
@[go_sem] theorem ze_122 : zeros Tryd.prog 122 = some [.sc (.string ByteArray.empty)] := by kernel_rfl
@[go_sem] theorem by_122 : bytesOf Tryd.prog 122 = 16 := by kernel_rfl
@[go_sem] theorem sz_124 : szOf Tryd.prog 124 = 20 := by kernel_rfl
@[go_sem] theorem kn_124 : knownT Tryd.prog 124 = true := by kernel_rfl
@[go_sem] theorem ag_124 : aggOf Tryd.prog 124 = true := by kernel_rfl
@[go_sem] theorem us_124 : (Tryd.prog.underlying 124).isSome = true := by kernel_rfl
@[go_sem] theorem el_124 : Go.PA.elemOf Tryd.prog 124 = none := by kernel_rfl
@[go_sem] theorem ar_124 : arrOf Tryd.prog 124 = some (20, 101) := by kernel_rfl
@[go_sem] theorem fk_124 : fieldsKnown Tryd.prog 124 = true := by kernel_rfl
@[go_sem] theorem fd_124_0 : fieldOf Tryd.prog 124 0 = none := by kernel_rfl
@[go_sem] theorem fd_124_1 : fieldOf Tryd.prog 124 1 = none := by kernel_rfl
@[go_sem] theorem fd_124_2 : fieldOf Tryd.prog 124 2 = none := by kernel_rfl
@[go_sem] theorem fd_124_3 : fieldOf Tryd.prog 124 3 = none := by kernel_rfl
@[go_sem] theorem fd_124_4 : fieldOf Tryd.prog 124 4 = none := by kernel_rfl
@[go_sem] theorem fd_124_5 : fieldOf Tryd.prog 124 5 = none := by kernel_rfl
@[go_sem] theorem fd_124_6 : fieldOf Tryd.prog 124 6 = none := by kernel_rfl
@[go_sem] theorem fd_124_7 : fieldOf Tryd.prog 124 7 = none := by kernel_rfl
@[go_sem] theorem ze_124 : zeros Tryd.prog 124 = some [.sc (.int .u64 0), .sc (.int .u64 0), .sc (.int .u64 0), .sc (.int .u64 0), .sc (.int .u64 0), .sc (.int .u64 0), .sc (.int .u64 0), .sc (.int .u64 0), .sc (.int .u64 0), .sc (.int .u64 0), .sc (.int .u64 0), .sc (.int .u64 0), .sc (.int .u64 0), .sc (.int .u64 0), .sc (.int .u64 0), .sc (.int .u64 0), .sc (.int .u64 0), .sc (.int .u64 0), .sc (.int .u64 0), .sc (.int .u64 0)] := by kernel_rfl
@[go_sem] theorem by_124 : bytesOf Tryd.prog 124 = 160 := by kernel_rfl
@[go_sem] theorem sz_125 : szOf Tryd.prog 125 = 1 := by kernel_rfl
@[go_sem] theorem kn_125 : knownT Tryd.prog 125 = true := by kernel_rfl
@[go_sem] theorem ag_125 : aggOf Tryd.prog 125 = false := by kernel_rfl
@[go_sem] theorem us_125 : (Tryd.prog.underlying 125).isSome = true := by kernel_rfl
@[go_sem] theorem un_125 : Tryd.prog.underlying 125 = some (.int .u32) := by kernel_rfl
@[go_sem] theorem ze_125 : zeros Tryd.prog 125 = some [.sc (.int .u32 0)] := by kernel_rfl
@[go_sem] theorem az_125 : azero1 Tryd.prog 125 = some (.sc (.int .u32 0)) := by kernel_rfl
@[go_sem] theorem by_125 : bytesOf Tryd.prog 125 = 4 := by kernel_rfl
@[go_sem] theorem sz_126 : szOf Tryd.prog 126 = 65 := by kernel_rfl
@[go_sem] theorem kn_126 : knownT Tryd.prog 126 = true := by kernel_rfl
@[go_sem] theorem ag_126 : aggOf Tryd.prog 126 = true := by kernel_rfl
@[go_sem] theorem us_126 : (Tryd.prog.underlying 126).isSome = true := by kernel_rfl
@[go_sem] theorem el_126 : Go.PA.elemOf Tryd.prog 126 = none := by kernel_rfl
@[go_sem] theorem ar_126 : arrOf Tryd.prog 126 = some (65, 5) := by kernel_rfl
@[go_sem] theorem fk_126 : fieldsKnown Tryd.prog 126 = true := by kernel_rfl
@[go_sem] theorem fd_126_0 : fieldOf Tryd.prog 126 0 = none := by kernel_rfl
@[go_sem] theorem fd_126_1 : fieldOf Tryd.prog 126 1 = none := by kernel_rfl
@[go_sem] theorem fd_126_2 : fieldOf Tryd.prog 126 2 = none := by kernel_rfl
@[go_sem] theorem fd_126_3 : fieldOf Tryd.prog 126 3 = none := by kernel_rfl
@[go_sem] theorem fd_126_4 : fieldOf Tryd.prog 126 4 = none := by kernel_rfl
@[go_sem] theorem fd_126_5 : fieldOf Tryd.prog 126 5 = none := by kernel_rfl
@[go_sem] theorem fd_126_6 : fieldOf Tryd.prog 126 6 = none := by kernel_rfl
@[go_sem] theorem fd_126_7 : fieldOf Tryd.prog 126 7 = none := by kernel_rfl
theorem ze_126 : zeros Tryd.prog 126 = some (List.replicate 65 (.sc (.int .u8 0))) := by kernel_rfl
@[go_sem] theorem by_126 : bytesOf Tryd.prog 126 = 65 := by kernel_rfl
@[go_sem] theorem sz_131 : szOf Tryd.prog 131 = 32 := by kernel_rfl
@[go_sem] theorem kn_131 : knownT Tryd.prog 131 = true := by kernel_rfl
@[go_sem] theorem ag_131 : aggOf Tryd.prog 131 = true := by kernel_rfl
@[go_sem] theorem us_131 : (Tryd.prog.underlying 131).isSome = true := by kernel_rfl
@[go_sem] theorem el_131 : Go.PA.elemOf Tryd.prog 131 = none := by kernel_rfl
@[go_sem] theorem ar_131 : arrOf Tryd.prog 131 = some (32, 5) := by kernel_rfl
@[go_sem] theorem fk_131 : fieldsKnown Tryd.prog 131 = true := by kernel_rfl
@[go_sem] theorem fd_131_0 : fieldOf Tryd.prog 131 0 = none := by kernel_rfl
@[go_sem] theorem fd_131_1 : fieldOf Tryd.prog 131 1 = none := by kernel_rfl
@[go_sem] theorem fd_131_2 : fieldOf Tryd.prog 131 2 = none := by kernel_rfl
@[go_sem] theorem fd_131_3 : fieldOf Tryd.prog 131 3 = none := by kernel_rfl
@[go_sem] theorem fd_131_4 : fieldOf Tryd.prog 131 4 = none := by kernel_rfl
@[go_sem] theorem fd_131_5 : fieldOf Tryd.prog 131 5 = none := by kernel_rfl
@[go_sem] theorem fd_131_6 : fieldOf Tryd.prog 131 6 = none := by kernel_rfl
@[go_sem] theorem fd_131_7 : fieldOf Tryd.prog 131 7 = none := by kernel_rfl
@[go_sem] theorem ze_131 : zeros Tryd.prog 131 = some [.sc (.int .u8 0), .sc (.int .u8 0), .sc (.int .u8 0), .sc (.int .u8 0), .sc (.int .u8 0), .sc (.int .u8 0), .sc (.int .u8 0), .sc (.int .u8 0), .sc (.int .u8 0), .sc (.int .u8 0), .sc (.int .u8 0), .sc (.int .u8 0), .sc (.int .u8 0), .sc (.int .u8 0), .sc (.int .u8 0), .sc (.int .u8 0), .sc (.int .u8 0), .sc (.int .u8 0), .sc (.int .u8 0), .sc (.int .u8 0), .sc (.int .u8 0), .sc (.int .u8 0), .sc (.int .u8 0), .sc (.int .u8 0), .sc (.int .u8 0), .sc (.int .u8 0), .sc (.int .u8 0), .sc (.int .u8 0), .sc (.int .u8 0), .sc (.int .u8 0), .sc (.int .u8 0), .sc (.int .u8 0)] := by kernel_rfl
@[go_sem] theorem by_131 : bytesOf Tryd.prog 131 = 32 := by kernel_rfl
@[go_sem] theorem sz_132 : szOf Tryd.prog 132 = 64 := by kernel_rfl
@[go_sem] theorem kn_132 : knownT Tryd.prog 132 = true := by kernel_rfl
@[go_sem] theorem ag_132 : aggOf Tryd.prog 132 = true := by kernel_rfl
@[go_sem] theorem us_132 : (Tryd.prog.underlying 132).isSome = true := by kernel_rfl
@[go_sem] theorem el_132 : Go.PA.elemOf Tryd.prog 132 = none := by kernel_rfl
@[go_sem] theorem ar_132 : arrOf Tryd.prog 132 = some (64, 5) := by kernel_rfl
@[go_sem] theorem fk_132 : fieldsKnown Tryd.prog 132 = true := by kernel_rfl
@[go_sem] theorem fd_132_0 : fieldOf Tryd.prog 132 0 = none := by kernel_rfl
@[go_sem] theorem fd_132_1 : fieldOf Tryd.prog 132 1 = none := by kernel_rfl
@[go_sem] theorem fd_132_2 : fieldOf Tryd.prog 132 2 = none := by kernel_rfl
@[go_sem] theorem fd_132_3 : fieldOf Tryd.prog 132 3 = none := by kernel_rfl
@[go_sem] theorem fd_132_4 : fieldOf Tryd.prog 132 4 = none := by kernel_rfl
@[go_sem] theorem fd_132_5 : fieldOf Tryd.prog 132 5 = none := by kernel_rfl
@[go_sem] theorem fd_132_6 : fieldOf Tryd.prog 132 6 = none := by kernel_rfl
@[go_sem] theorem fd_132_7 : fieldOf Tryd.prog 132 7 = none := by kernel_rfl
theorem ze_132 : zeros Tryd.prog 132 = some (List.replicate 64 (.sc (.int .u8 0))) := by kernel_rfl
@[go_sem] theorem by_132 : bytesOf Tryd.prog 132 = 64 := by kernel_rfl
@[go_sem] theorem en_3 : enterable Tryd.prog 3 = true := by kernel_rfl -- treasury/treasurylaw28.TaxesDays
@[go_sem] theorem en_4 : enterable Tryd.prog 4 = true := by kernel_rfl -- treasury/treasurylaw28.TaxesMore
@[go_sem] theorem en_5 : enterable Tryd.prog 5 = true := by kernel_rfl -- treasury/treasurylaw28.TaxesSpans
@[go_sem] theorem en_6 : enterable Tryd.prog 6 = true := by kernel_rfl -- treasury/treasurylaw28.TaxesYears
@[go_sem] theorem en_7 : enterable Tryd.prog 7 = true := by kernel_rfl -- treasury/treasuryplay.New
@[go_sem] theorem en_8 : enterable Tryd.prog 8 = true := by kernel_rfl -- (*treasury/treasuryplay.Src).Tax
@[go_sem] theorem en_9 : enterable Tryd.prog 9 = true := by kernel_rfl -- treasury/taxes.Days
@[go_sem] theorem en_10 : enterable Tryd.prog 10 = true := by kernel_rfl -- treasury/treasurylaw28.sane
@[go_sem] theorem en_11 : enterable Tryd.prog 11 = true := by kernel_rfl -- treasury/taxes.Amount
@[go_sem] theorem en_12 : enterable Tryd.prog 12 = true := by kernel_rfl -- (*treasury/treasuryplay.Src).Taxes
@[go_sem] theorem en_13 : enterable Tryd.prog 13 = true := by kernel_rfl -- treasury/taxes.Expected
@[go_sem] theorem en_14 : enterable Tryd.prog 14 = true := by kernel_rfl -- treasury/taxes.Claims
@[go_sem] theorem en_15 : enterable Tryd.prog 15 = true := by kernel_rfl -- treasury/treasuryref28.Flows
@[go_sem] theorem en_16 : enterable Tryd.prog 16 = true := by kernel_rfl -- treasury/taxes.Year
@[go_sem] theorem en_17 : enterable Tryd.prog 17 = true := by kernel_rfl -- (*treasury/treasuryplay.Src).Code
@[go_sem] theorem en_18 : enterable Tryd.prog 18 = true := by kernel_rfl -- (*treasury/treasuryplay.Src).Range
@[go_sem] theorem en_19 : enterable Tryd.prog 19 = true := by kernel_rfl -- (*treasury/treasuryplay.Src).Pick
@[go_sem] theorem en_20 : enterable Tryd.prog 20 = true := by kernel_rfl -- (*treasury/treasuryplay.Src).N
@[go_sem] theorem en_21 : enterable Tryd.prog 21 = true := by kernel_rfl -- treasury/taxes.Tax
@[go_sem] theorem en_22 : enterable Tryd.prog 22 = true := by kernel_rfl -- treasury/calendar.Next
@[go_sem] theorem en_23 : enterable Tryd.prog 23 = true := by kernel_rfl -- treasury/treasurylaw28.monthly
@[go_sem] theorem en_24 : enterable Tryd.prog 24 = true := by kernel_rfl -- treasury/treasuryref28.Ints
@[go_sem] theorem en_25 : enterable Tryd.prog 25 = true := by kernel_rfl -- treasury/money.Share
@[go_sem] theorem en_26 : enterable Tryd.prog 26 = true := by kernel_rfl -- treasury/taxes.Check
@[go_sem] theorem en_27 : enterable Tryd.prog 27 = true := by kernel_rfl -- treasury/taxes.flows
@[go_sem] theorem en_28 : enterable Tryd.prog 28 = true := by kernel_rfl -- treasury/taxes.Expected$1
@[go_sem] theorem en_29 : enterable Tryd.prog 29 = true := by kernel_rfl -- treasury/taxes.among
@[go_sem] theorem en_30 : enterable Tryd.prog 30 = true := by kernel_rfl -- treasury/classification.Parts
@[go_sem] theorem en_31 : enterable Tryd.prog 31 = true := by kernel_rfl -- treasury/taxes.Year$1
@[go_sem] theorem en_32 : enterable Tryd.prog 32 = true := by kernel_rfl -- treasury/classification.Under
@[go_sem] theorem en_33 : enterable Tryd.prog 33 = true := by kernel_rfl -- treasury/calendar.Year
@[go_sem] theorem en_34 : enterable Tryd.prog 34 = true := by kernel_rfl -- (*treasury/treasuryplay.Src).Text
@[go_sem] theorem en_35 : enterable Tryd.prog 35 = true := by kernel_rfl -- treasury/money.Valid
@[go_sem] theorem en_36 : enterable Tryd.prog 36 = true := by kernel_rfl -- treasury/calendar.Valid
@[go_sem] theorem en_37 : enterable Tryd.prog 37 = true := by kernel_rfl -- treasury/calendar.Business
@[go_sem] theorem en_38 : enterable Tryd.prog 38 = true := by kernel_rfl -- treasury/money.weight
@[go_sem] theorem en_39 : enterable Tryd.prog 39 = true := by kernel_rfl -- treasury/money.checked
@[go_sem] theorem en_40 : enterable Tryd.prog 40 = true := by kernel_rfl -- slices.ContainsFunc[[]treasury/api.Tax,treasury/api.Tax]
@[go_sem] theorem en_41 : enterable Tryd.prog 41 = true := by kernel_rfl -- treasury/taxes.Check$1
@[go_sem] theorem en_42 : enterable Tryd.prog 42 = true := by kernel_rfl -- slices.SortStableFunc[[]treasury/api.Flow,treasury/api.Flow]
@[go_sem] theorem en_43 : enterable Tryd.prog 43 = true := by kernel_rfl -- treasury/taxes.flows$1
@[go_sem] theorem en_44 : enterable Tryd.prog 44 = true := by kernel_rfl -- cmp.Compare[int]
@[go_sem] theorem en_45 : enterable Tryd.prog 45 = true := by kernel_rfl -- strings.SplitSeq
@[go_sem] theorem en_46 : enterable Tryd.prog 46 = true := by kernel_rfl -- strconv.Atoi
@[go_sem] theorem en_47 : enterable Tryd.prog 47 = true := by kernel_rfl -- strconv.Itoa
@[go_sem] theorem en_48 : enterable Tryd.prog 48 = true := by kernel_rfl -- slices.Equal[[]int,int]
@[go_sem] theorem en_49 : enterable Tryd.prog 49 = true := by kernel_rfl -- slices.IndexFunc[[]treasury/api.Tax,treasury/api.Tax]
@[go_sem] theorem en_50 : enterable Tryd.prog 50 = true := by kernel_rfl -- slices.stableCmpFunc[treasury/api.Flow]
@[go_sem] theorem en_51 : enterable Tryd.prog 51 = true := by kernel_rfl -- cmp.isNaN[int]
@[go_sem] theorem en_52 : enterable Tryd.prog 52 = true := by kernel_rfl -- strings.splitSeq
@[go_sem] theorem en_54 : enterable Tryd.prog 54 = true := by kernel_rfl -- strconv.toError
@[go_sem] theorem en_56 : enterable Tryd.prog 56 = true := by kernel_rfl -- slices.insertionSortCmpFunc[treasury/api.Flow]
@[go_sem] theorem en_57 : enterable Tryd.prog 57 = true := by kernel_rfl -- slices.symMergeCmpFunc[treasury/api.Flow]
@[go_sem] theorem en_58 : enterable Tryd.prog 58 = true := by kernel_rfl -- strings.splitSeq$1
@[go_sem] theorem en_59 : enterable Tryd.prog 59 = true := by kernel_rfl -- unicode/utf8.DecodeRuneInString
@[go_sem] theorem en_60 : enterable Tryd.prog 60 = true := by kernel_rfl -- strings.Index
@[go_sem] theorem en_62 : enterable Tryd.prog 62 = true := by kernel_rfl -- strconv.syntaxError
@[go_sem] theorem en_63 : enterable Tryd.prog 63 = true := by kernel_rfl -- strconv.rangeError
@[go_sem] theorem en_64 : enterable Tryd.prog 64 = true := by kernel_rfl -- strconv.baseError
@[go_sem] theorem en_65 : enterable Tryd.prog 65 = true := by kernel_rfl -- strconv.bitSizeError
@[go_sem] theorem en_67 : enterable Tryd.prog 67 = true := by kernel_rfl -- slices.rotateCmpFunc[treasury/api.Flow]
@[go_sem] theorem en_68 : enterable Tryd.prog 68 = true := by kernel_rfl -- unicode/utf8.decodeRuneInStringSlow
@[go_sem] theorem en_72 : enterable Tryd.prog 72 = true := by kernel_rfl -- errors.New
@[go_sem] theorem en_77 : enterable Tryd.prog 77 = true := by kernel_rfl -- slices.swapRangeCmpFunc[treasury/api.Flow]
@[go_sem] theorem en_85 : enterable Tryd.prog 85 = true := by kernel_rfl -- math/bits.Len64
@[go_sem] theorem en_88 : enterable Tryd.prog 88 = true := by kernel_rfl -- math/bits.TrailingZeros
@[go_sem] theorem en_91 : enterable Tryd.prog 91 = true := by kernel_rfl -- math/bits.TrailingZeros32
@[go_sem] theorem en_92 : enterable Tryd.prog 92 = true := by kernel_rfl -- math/bits.TrailingZeros64
@[go_sem] theorem rs_3 : Tryd.f3.results.toList = [.tmp 2] := rfl
@[go_sem] theorem rs_4 : Tryd.f4.results.toList = [.tmp 4] := rfl
@[go_sem] theorem rs_5 : Tryd.f5.results.toList = [.tmp 6] := rfl
@[go_sem] theorem rs_6 : Tryd.f6.results.toList = [.tmp 2] := rfl
@[go_sem] theorem rs_7 : Tryd.f7.results.toList = [.tmp 2] := rfl
@[go_sem] theorem rs_8 : Tryd.f8.results.toList = [.cell 2 26] := rfl
@[go_sem] theorem rs_9 : Tryd.f9.results.toList = [.tmp 2] := rfl
@[go_sem] theorem rs_10 : Tryd.f10.results.toList = [.tmp 0] := rfl
@[go_sem] theorem rs_11 : Tryd.f11.results.toList = [.tmp 2] := rfl
@[go_sem] theorem rs_12 : Tryd.f12.results.toList = [.tmp 4] := rfl
@[go_sem] theorem rs_13 : Tryd.f13.results.toList = [.tmp 6, .tmp 7] := rfl
@[go_sem] theorem rs_14 : Tryd.f14.results.toList = [.tmp 8, .tmp 9] := rfl
@[go_sem] theorem rs_15 : Tryd.f15.results.toList = [.tmp 4] := rfl
@[go_sem] theorem rs_16 : Tryd.f16.results.toList = [.tmp 6, .tmp 7] := rfl
@[go_sem] theorem rs_17 : Tryd.f17.results.toList = [.tmp 2] := rfl
@[go_sem] theorem rs_18 : Tryd.f18.results.toList = [.tmp 6] := rfl
@[go_sem] theorem rs_19 : Tryd.f19.results.toList = [.tmp 4] := rfl
@[go_sem] theorem rs_20 : Tryd.f20.results.toList = [.tmp 4] := rfl
@[go_sem] theorem rs_21 : Tryd.f21.results.toList = [.tmp 2] := rfl
@[go_sem] theorem rs_22 : Tryd.f22.results.toList = [.tmp 2, .tmp 3] := rfl
@[go_sem] theorem rs_23 : Tryd.f23.results.toList = [.cell 0 26] := rfl
@[go_sem] theorem rs_24 : Tryd.f24.results.toList = [.tmp 4] := rfl
@[go_sem] theorem rs_25 : Tryd.f25.results.toList = [.tmp 6, .tmp 7] := rfl
@[go_sem] theorem rs_26 : Tryd.f26.results.toList = [.tmp 2] := rfl
@[go_sem] theorem rs_27 : Tryd.f27.results.toList = [.tmp 4] := rfl
@[go_sem] theorem rs_28 : Tryd.f28.results.toList = [.tmp 6] := rfl
@[go_sem] theorem rs_29 : Tryd.f29.results.toList = [.tmp 6] := rfl
@[go_sem] theorem rs_30 : Tryd.f30.results.toList = [.cell 2 22] := rfl
@[go_sem] theorem rs_31 : Tryd.f31.results.toList = [.tmp 6] := rfl
@[go_sem] theorem rs_32 : Tryd.f32.results.toList = [.tmp 4] := rfl
@[go_sem] theorem rs_33 : Tryd.f33.results.toList = [.tmp 2] := rfl
@[go_sem] theorem rs_34 : Tryd.f34.results.toList = [.tmp 4] := rfl
@[go_sem] theorem rs_35 : Tryd.f35.results.toList = [.tmp 2] := rfl
@[go_sem] theorem rs_36 : Tryd.f36.results.toList = [.tmp 2] := rfl
@[go_sem] theorem rs_37 : Tryd.f37.results.toList = [.tmp 2] := rfl
@[go_sem] theorem rs_38 : Tryd.f38.results.toList = [.tmp 2] := rfl
@[go_sem] theorem rs_39 : Tryd.f39.results.toList = [.tmp 2, .tmp 3] := rfl
@[go_sem] theorem rs_40 : Tryd.f40.results.toList = [.tmp 4] := rfl
@[go_sem] theorem rs_41 : Tryd.f41.results.toList = [.tmp 2] := rfl
@[go_sem] theorem rs_42 : Tryd.f42.results.toList = [] := rfl
@[go_sem] theorem rs_43 : Tryd.f43.results.toList = [.tmp 4] := rfl
@[go_sem] theorem rs_44 : Tryd.f44.results.toList = [.tmp 4] := rfl
@[go_sem] theorem rs_45 : Tryd.f45.results.toList = [.tmp 4] := rfl
@[go_sem] theorem rs_46 : Tryd.f46.results.toList = [.tmp 2, .tmp 3] := rfl
@[go_sem] theorem rs_47 : Tryd.f47.results.toList = [.tmp 2] := rfl
@[go_sem] theorem rs_48 : Tryd.f48.results.toList = [.tmp 4] := rfl
@[go_sem] theorem rs_49 : Tryd.f49.results.toList = [.tmp 4] := rfl
@[go_sem] theorem rs_50 : Tryd.f50.results.toList = [] := rfl
@[go_sem] theorem rs_51 : Tryd.f51.results.toList = [.tmp 2] := rfl
@[go_sem] theorem rs_52 : Tryd.f52.results.toList = [.tmp 6] := rfl
@[go_sem] theorem rs_54 : Tryd.f54.results.toList = [.tmp 10] := rfl
@[go_sem] theorem rs_56 : Tryd.f56.results.toList = [] := rfl
@[go_sem] theorem rs_57 : Tryd.f57.results.toList = [] := rfl
@[go_sem] theorem rs_58 : Tryd.f58.results.toList = [] := rfl
@[go_sem] theorem rs_59 : Tryd.f59.results.toList = [.tmp 2, .tmp 3] := rfl
@[go_sem] theorem rs_60 : Tryd.f60.results.toList = [.tmp 4] := rfl
@[go_sem] theorem rs_62 : Tryd.f62.results.toList = [.tmp 4] := rfl
@[go_sem] theorem rs_63 : Tryd.f63.results.toList = [.tmp 4] := rfl
@[go_sem] theorem rs_64 : Tryd.f64.results.toList = [.tmp 6] := rfl
@[go_sem] theorem rs_65 : Tryd.f65.results.toList = [.tmp 6] := rfl
@[go_sem] theorem rs_67 : Tryd.f67.results.toList = [] := rfl
@[go_sem] theorem rs_68 : Tryd.f68.results.toList = [.tmp 2, .tmp 3] := rfl
@[go_sem] theorem rs_72 : Tryd.f72.results.toList = [.tmp 2] := rfl
@[go_sem] theorem rs_77 : Tryd.f77.results.toList = [] := rfl
@[go_sem] theorem rs_85 : Tryd.f85.results.toList = [.tmp 2] := rfl
@[go_sem] theorem rs_88 : Tryd.f88.results.toList = [.tmp 2] := rfl
@[go_sem] theorem rs_91 : Tryd.f91.results.toList = [.tmp 2] := rfl
@[go_sem] theorem rs_92 : Tryd.f92.results.toList = [.tmp 2] := rfl
@[go_sem] theorem rs_109 : Tryd.f109.results.toList = [] := rfl
@[go_sem] theorem rs_110 : Tryd.f110.results.toList = [] := rfl
@[go_sem] theorem rs_114 : Tryd.f114.results.toList = [] := rfl
@[go_sem] theorem rs_115 : Tryd.f115.results.toList = [] := rfl
@[go_sem] theorem rs_116 : Tryd.f116.results.toList = [] := rfl
@[go_sem] theorem rs_117 : Tryd.f117.results.toList = [] := rfl
@[go_sem] theorem rs_119 : Tryd.f119.results.toList = [] := rfl
@[go_sem] theorem rs_120 : Tryd.f120.results.toList = [] := rfl

end Go.Proofs.YtabdihohphlheaaDoor
