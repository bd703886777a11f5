/- Several texts of this claim, joined: Facts PlayAll Frame. -/
import Derived.Test.YtpllcolbcahicaaGreatDoorPk3
import Derived.Test.YtpllcolbcahicaaGreatDoorProg
import Derived.KernelRfl
import Derived.WalkSpells
import Derived.WalkLawsBesides
import Derived.Deep.QuietTactic
import Derived.BigQuiet
import Derived.RegionTactic
import Derived.Lib.Hide
import Derived.Test.YtpllcolbcahicaaGreatDoorRows
import Derived.ProofKit
import Derived.Below
import Derived.Carry
import Derived.ChangeSame
set_option linter.unusedSimpArgs false
set_option linter.unusedVariables false
namespace Go.Proofs.YtpllcolbcahicaaGreatDoor
open Go.PA
@[go_sem] theorem sz_2 : szOf Tryz.prog 2 = 1 := by kernel_rfl
@[go_sem] theorem kn_2 : knownT Tryz.prog 2 = true := by kernel_rfl
@[go_sem] theorem ag_2 : aggOf Tryz.prog 2 = false := by kernel_rfl
@[go_sem] theorem us_2 : (Tryz.prog.underlying 2).isSome = true := by kernel_rfl
@[go_sem] theorem un_2 : Tryz.prog.underlying 2 = some (.int .i64) := by kernel_rfl
@[go_sem] theorem ze_2 : zeros Tryz.prog 2 = some [.sc (.int .i64 0)] := by kernel_rfl
@[go_sem] theorem az_2 : azero1 Tryz.prog 2 = some (.sc (.int .i64 0)) := by kernel_rfl
@[go_sem] theorem by_2 : bytesOf Tryz.prog 2 = 8 := by kernel_rfl
@[go_sem] theorem sz_3 : szOf Tryz.prog 3 = 1 := by kernel_rfl
@[go_sem] theorem kn_3 : knownT Tryz.prog 3 = true := by kernel_rfl
@[go_sem] theorem ag_3 : aggOf Tryz.prog 3 = false := by kernel_rfl
@[go_sem] theorem us_3 : (Tryz.prog.underlying 3).isSome = true := by kernel_rfl
@[go_sem] theorem un_3 : Tryz.prog.underlying 3 = some (.int .i64) := by kernel_rfl
@[go_sem] theorem ze_3 : zeros Tryz.prog 3 = some [.sc (.int .i64 0)] := by kernel_rfl
@[go_sem] theorem az_3 : azero1 Tryz.prog 3 = some (.sc (.int .i64 0)) := by kernel_rfl
@[go_sem] theorem by_3 : bytesOf Tryz.prog 3 = 8 := by kernel_rfl
@[go_sem] theorem sz_4 : szOf Tryz.prog 4 = 1 := by kernel_rfl
@[go_sem] theorem kn_4 : knownT Tryz.prog 4 = true := by kernel_rfl
@[go_sem] theorem ag_4 : aggOf Tryz.prog 4 = false := by kernel_rfl
@[go_sem] theorem us_4 : (Tryz.prog.underlying 4).isSome = true := by kernel_rfl
@[go_sem] theorem un_4 : Tryz.prog.underlying 4 = some .bool := by kernel_rfl
@[go_sem] theorem ze_4 : zeros Tryz.prog 4 = some [.sc (.bool false)] := by kernel_rfl
@[go_sem] theorem az_4 : azero1 Tryz.prog 4 = some (.sc (.bool false)) := by kernel_rfl
@[go_sem] theorem by_4 : bytesOf Tryz.prog 4 = 1 := by kernel_rfl
@[go_sem] theorem sz_5 : szOf Tryz.prog 5 = 1 := by kernel_rfl
@[go_sem] theorem kn_5 : knownT Tryz.prog 5 = true := by kernel_rfl
@[go_sem] theorem ag_5 : aggOf Tryz.prog 5 = false := by kernel_rfl
@[go_sem] theorem us_5 : (Tryz.prog.underlying 5).isSome = true := by kernel_rfl
@[go_sem] theorem un_5 : Tryz.prog.underlying 5 = some (.int .u8) := by kernel_rfl
@[go_sem] theorem ze_5 : zeros Tryz.prog 5 = some [.sc (.int .u8 0)] := by kernel_rfl
@[go_sem] theorem az_5 : azero1 Tryz.prog 5 = some (.sc (.int .u8 0)) := by kernel_rfl
@[go_sem] theorem by_5 : bytesOf Tryz.prog 5 = 1 := by kernel_rfl
@[go_sem] theorem sz_9 : szOf Tryz.prog 9 = 1 := by kernel_rfl
@[go_sem] theorem kn_9 : knownT Tryz.prog 9 = true := by kernel_rfl
@[go_sem] theorem ag_9 : aggOf Tryz.prog 9 = false := by kernel_rfl
@[go_sem] theorem us_9 : (Tryz.prog.underlying 9).isSome = true := by kernel_rfl
@[go_sem] theorem un_9 : Tryz.prog.underlying 9 = some .string := by kernel_rfl
@[go_sem] theorem ze_9 : zeros Tryz.prog 9 = some [.sc (.string ByteArray.empty)] := by kernel_rfl
@[go_sem] theorem az_9 : azero1 Tryz.prog 9 = some (.sc (.string ByteArray.empty)) := by kernel_rfl
@[go_sem] theorem by_9 : bytesOf Tryz.prog 9 = 16 := by kernel_rfl
@[go_sem] theorem sz_12 : szOf Tryz.prog 12 = 1 := by kernel_rfl
@[go_sem] theorem kn_12 : knownT Tryz.prog 12 = true := by kernel_rfl
@[go_sem] theorem ag_12 : aggOf Tryz.prog 12 = false := by kernel_rfl
@[go_sem] theorem us_12 : (Tryz.prog.underlying 12).isSome = true := by kernel_rfl
@[go_sem] theorem un_12 : Tryz.prog.underlying 12 = some (.int .u64) := by kernel_rfl
@[go_sem] theorem ze_12 : zeros Tryz.prog 12 = some [.sc (.int .u64 0)] := by kernel_rfl
@[go_sem] theorem az_12 : azero1 Tryz.prog 12 = some (.sc (.int .u64 0)) := by kernel_rfl
@[go_sem] theorem by_12 : bytesOf Tryz.prog 12 = 8 := by kernel_rfl
@[go_sem] theorem sz_17 : szOf Tryz.prog 17 = 1 := by kernel_rfl
@[go_sem] theorem kn_17 : knownT Tryz.prog 17 = true := by kernel_rfl
@[go_sem] theorem ag_17 : aggOf Tryz.prog 17 = false := by kernel_rfl
@[go_sem] theorem us_17 : (Tryz.prog.underlying 17).isSome = true := by kernel_rfl
@[go_sem] theorem ze_17 : zeros Tryz.prog 17 = some [.sc (.pointer none)] := by kernel_rfl
@[go_sem] theorem by_17 : bytesOf Tryz.prog 17 = 8 := by kernel_rfl
@[go_sem] theorem sz_21 : szOf Tryz.prog 21 = 1 := by kernel_rfl
@[go_sem] theorem kn_21 : knownT Tryz.prog 21 = true := by kernel_rfl
@[go_sem] theorem ag_21 : aggOf Tryz.prog 21 = false := by kernel_rfl
@[go_sem] theorem us_21 : (Tryz.prog.underlying 21).isSome = true := by kernel_rfl
@[go_sem] theorem un_21 : Tryz.prog.underlying 21 = some (.int .i32) := by kernel_rfl
@[go_sem] theorem ze_21 : zeros Tryz.prog 21 = some [.sc (.int .i32 0)] := by kernel_rfl
@[go_sem] theorem az_21 : azero1 Tryz.prog 21 = some (.sc (.int .i32 0)) := by kernel_rfl
@[go_sem] theorem by_21 : bytesOf Tryz.prog 21 = 4 := by kernel_rfl
@[go_sem] theorem sz_22 : szOf Tryz.prog 22 = 1 := by kernel_rfl
@[go_sem] theorem kn_22 : knownT Tryz.prog 22 = true := by kernel_rfl
@[go_sem] theorem ag_22 : aggOf Tryz.prog 22 = false := by kernel_rfl
@[go_sem] theorem us_22 : (Tryz.prog.underlying 22).isSome = true := by kernel_rfl
@[go_sem] theorem el_22 : Go.PA.elemOf Tryz.prog 22 = some 3 := by kernel_rfl
@[go_sem] theorem un_22 : Tryz.prog.underlying 22 = some (.slice 3) := by kernel_rfl
@[go_sem] theorem ze_22 : zeros Tryz.prog 22 = some [.nil] := by kernel_rfl
@[go_sem] theorem az_22 : azero1 Tryz.prog 22 = some (.nil) := by kernel_rfl
@[go_sem] theorem by_22 : bytesOf Tryz.prog 22 = 24 := by kernel_rfl
@[go_sem] theorem sz_23 : szOf Tryz.prog 23 = 1 := by kernel_rfl
@[go_sem] theorem kn_23 : knownT Tryz.prog 23 = true := by kernel_rfl
@[go_sem] theorem ag_23 : aggOf Tryz.prog 23 = false := by kernel_rfl
@[go_sem] theorem us_23 : (Tryz.prog.underlying 23).isSome = true := by kernel_rfl
@[go_sem] theorem ze_23 : zeros Tryz.prog 23 = some [.sc (.pointer none)] := by kernel_rfl
@[go_sem] theorem by_23 : bytesOf Tryz.prog 23 = 8 := by kernel_rfl
@[go_sem] theorem sz_25 : szOf Tryz.prog 25 = 1 := by kernel_rfl
@[go_sem] theorem kn_25 : knownT Tryz.prog 25 = true := by kernel_rfl
@[go_sem] theorem ag_25 : aggOf Tryz.prog 25 = false := by kernel_rfl
@[go_sem] theorem us_25 : (Tryz.prog.underlying 25).isSome = true := by kernel_rfl
@[go_sem] theorem el_25 : Go.PA.elemOf Tryz.prog 25 = some 96 := by kernel_rfl
@[go_sem] theorem un_25 : Tryz.prog.underlying 25 = some (.slice 96) := by kernel_rfl
@[go_sem] theorem ze_25 : zeros Tryz.prog 25 = some [.nil] := by kernel_rfl
@[go_sem] theorem az_25 : azero1 Tryz.prog 25 = some (.nil) := by kernel_rfl
@[go_sem] theorem by_25 : bytesOf Tryz.prog 25 = 24 := by kernel_rfl
@[go_sem] theorem sz_26 : szOf Tryz.prog 26 = 1 := by kernel_rfl
@[go_sem] theorem kn_26 : knownT Tryz.prog 26 = true := by kernel_rfl
@[go_sem] theorem ag_26 : aggOf Tryz.prog 26 = false := by kernel_rfl
@[go_sem] theorem us_26 : (Tryz.prog.underlying 26).isSome = true := by kernel_rfl
@[go_sem] theorem el_26 : Go.PA.elemOf Tryz.prog 26 = some 66 := by kernel_rfl
@[go_sem] theorem un_26 : Tryz.prog.underlying 26 = some (.slice 66) := by kernel_rfl
@[go_sem] theorem ze_26 : zeros Tryz.prog 26 = some [.nil] := by kernel_rfl
@[go_sem] theorem az_26 : azero1 Tryz.prog 26 = some (.nil) := by kernel_rfl
@[go_sem] theorem by_26 : bytesOf Tryz.prog 26 = 24 := by kernel_rfl
@[go_sem] theorem sz_27 : szOf Tryz.prog 27 = 3 := by kernel_rfl
@[go_sem] theorem kn_27 : knownT Tryz.prog 27 = true := by kernel_rfl
@[go_sem] theorem ag_27 : aggOf Tryz.prog 27 = true := by kernel_rfl
@[go_sem] theorem us_27 : (Tryz.prog.underlying 27).isSome = true := by kernel_rfl
@[go_sem] theorem fd_27_0 : fieldOf Tryz.prog 27 0 = some (0, 3) := by kernel_rfl
@[go_sem] theorem fd_27_1 : fieldOf Tryz.prog 27 1 = some (1, 25) := by kernel_rfl
@[go_sem] theorem fd_27_2 : fieldOf Tryz.prog 27 2 = some (2, 26) := by kernel_rfl
@[go_sem] theorem el_27 : Go.PA.elemOf Tryz.prog 27 = none := by kernel_rfl
@[go_sem] theorem ar_27 : arrOf Tryz.prog 27 = none := by kernel_rfl
@[go_sem] theorem fk_27 : fieldsKnown Tryz.prog 27 = true := by kernel_rfl
@[go_sem] theorem ze_27 : zeros Tryz.prog 27 = some [.sc (.int .i64 0), .nil, .nil] := by kernel_rfl
@[go_sem] theorem by_27 : bytesOf Tryz.prog 27 = 56 := by kernel_rfl
@[go_sem] theorem sz_28 : szOf Tryz.prog 28 = 3 := by kernel_rfl
@[go_sem] theorem kn_28 : knownT Tryz.prog 28 = true := by kernel_rfl
@[go_sem] theorem ag_28 : aggOf Tryz.prog 28 = true := by kernel_rfl
@[go_sem] theorem us_28 : (Tryz.prog.underlying 28).isSome = true := by kernel_rfl
@[go_sem] theorem fd_28_0 : fieldOf Tryz.prog 28 0 = some (0, 3) := by kernel_rfl
@[go_sem] theorem fd_28_1 : fieldOf Tryz.prog 28 1 = some (1, 25) := by kernel_rfl
@[go_sem] theorem fd_28_2 : fieldOf Tryz.prog 28 2 = some (2, 26) := by kernel_rfl
@[go_sem] theorem el_28 : Go.PA.elemOf Tryz.prog 28 = none := by kernel_rfl
@[go_sem] theorem ar_28 : arrOf Tryz.prog 28 = none := by kernel_rfl
@[go_sem] theorem fk_28 : fieldsKnown Tryz.prog 28 = true := by kernel_rfl
@[go_sem] theorem ze_28 : zeros Tryz.prog 28 = some [.sc (.int .i64 0), .nil, .nil] := by kernel_rfl
@[go_sem] theorem by_28 : bytesOf Tryz.prog 28 = 56 := by kernel_rfl
@[go_sem] theorem sz_30 : szOf Tryz.prog 30 = 1 := by kernel_rfl
@[go_sem] theorem kn_30 : knownT Tryz.prog 30 = true := by kernel_rfl
@[go_sem] theorem ag_30 : aggOf Tryz.prog 30 = false := by kernel_rfl
@[go_sem] theorem us_30 : (Tryz.prog.underlying 30).isSome = true := by kernel_rfl
@[go_sem] theorem el_30 : Go.PA.elemOf Tryz.prog 30 = some 36 := by kernel_rfl
@[go_sem] theorem un_30 : Tryz.prog.underlying 30 = some (.slice 36) := by kernel_rfl
@[go_sem] theorem ze_30 : zeros Tryz.prog 30 = some [.nil] := by kernel_rfl
@[go_sem] theorem az_30 : azero1 Tryz.prog 30 = some (.nil) := by kernel_rfl
@[go_sem] theorem by_30 : bytesOf Tryz.prog 30 = 24 := by kernel_rfl
@[go_sem] theorem sz_32 : szOf Tryz.prog 32 = 1 := by kernel_rfl
@[go_sem] theorem kn_32 : knownT Tryz.prog 32 = true := by kernel_rfl
@[go_sem] theorem ag_32 : aggOf Tryz.prog 32 = true := by kernel_rfl
@[go_sem] theorem us_32 : (Tryz.prog.underlying 32).isSome = true := by kernel_rfl
@[go_sem] theorem fd_32_0 : fieldOf Tryz.prog 32 0 = some (0, 30) := by kernel_rfl
@[go_sem] theorem el_32 : Go.PA.elemOf Tryz.prog 32 = none := by kernel_rfl
@[go_sem] theorem ar_32 : arrOf Tryz.prog 32 = none := by kernel_rfl
@[go_sem] theorem fk_32 : fieldsKnown Tryz.prog 32 = true := by kernel_rfl
@[go_sem] theorem ze_32 : zeros Tryz.prog 32 = some [.nil] := by kernel_rfl
@[go_sem] theorem by_32 : bytesOf Tryz.prog 32 = 24 := by kernel_rfl
@[go_sem] theorem sz_33 : szOf Tryz.prog 33 = 1 := by kernel_rfl
@[go_sem] theorem kn_33 : knownT Tryz.prog 33 = true := by kernel_rfl
@[go_sem] theorem ag_33 : aggOf Tryz.prog 33 = true := by kernel_rfl
@[go_sem] theorem us_33 : (Tryz.prog.underlying 33).isSome = true := by kernel_rfl
@[go_sem] theorem fd_33_0 : fieldOf Tryz.prog 33 0 = some (0, 30) := by kernel_rfl
@[go_sem] theorem el_33 : Go.PA.elemOf Tryz.prog 33 = none := by kernel_rfl
@[go_sem] theorem ar_33 : arrOf Tryz.prog 33 = none := by kernel_rfl
@[go_sem] theorem fk_33 : fieldsKnown Tryz.prog 33 = true := by kernel_rfl
@[go_sem] theorem ze_33 : zeros Tryz.prog 33 = some [.nil] := by kernel_rfl
@[go_sem] theorem by_33 : bytesOf Tryz.prog 33 = 24 := by kernel_rfl
@[go_sem] theorem sz_35 : szOf Tryz.prog 35 = 8 := by kernel_rfl
@[go_sem] theorem kn_35 : knownT Tryz.prog 35 = true := by kernel_rfl
@[go_sem] theorem ag_35 : aggOf Tryz.prog 35 = true := by kernel_rfl
@[go_sem] theorem us_35 : (Tryz.prog.underlying 35).isSome = true := by kernel_rfl
@[go_sem] theorem fd_35_0 : fieldOf Tryz.prog 35 0 = some (0, 3) := by kernel_rfl
@[go_sem] theorem fd_35_1 : fieldOf Tryz.prog 35 1 = some (1, 3) := by kernel_rfl
@[go_sem] theorem fd_35_2 : fieldOf Tryz.prog 35 2 = some (2, 3) := by kernel_rfl
@[go_sem] theorem fd_35_3 : fieldOf Tryz.prog 35 3 = some (3, 3) := by kernel_rfl
@[go_sem] theorem fd_35_4 : fieldOf Tryz.prog 35 4 = some (4, 3) := by kernel_rfl
@[go_sem] theorem fd_35_5 : fieldOf Tryz.prog 35 5 = some (5, 3) := by kernel_rfl
@[go_sem] theorem fd_35_6 : fieldOf Tryz.prog 35 6 = some (6, 3) := by kernel_rfl
@[go_sem] theorem fd_35_7 : fieldOf Tryz.prog 35 7 = some (7, 3) := by kernel_rfl
@[go_sem] theorem el_35 : Go.PA.elemOf Tryz.prog 35 = none := by kernel_rfl
@[go_sem] theorem ar_35 : arrOf Tryz.prog 35 = none := by kernel_rfl
@[go_sem] theorem fk_35 : fieldsKnown Tryz.prog 35 = true := by kernel_rfl
@[go_sem] theorem sg_35 : sigOf Tryz.prog 35 = some [.int, .int, .int, .int, .int, .int, .int, .int] := by kernel_rfl
@[go_sem] theorem ze_35 : zeros Tryz.prog 35 = some [.sc (.int .i64 0), .sc (.int .i64 0), .sc (.int .i64 0), .sc (.int .i64 0), .sc (.int .i64 0), .sc (.int .i64 0), .sc (.int .i64 0), .sc (.int .i64 0)] := by kernel_rfl
@[go_sem] theorem by_35 : bytesOf Tryz.prog 35 = 64 := by kernel_rfl
@[go_sem] theorem sz_36 : szOf Tryz.prog 36 = 8 := by kernel_rfl
@[go_sem] theorem kn_36 : knownT Tryz.prog 36 = true := by kernel_rfl
@[go_sem] theorem ag_36 : aggOf Tryz.prog 36 = true := by kernel_rfl
@[go_sem] theorem us_36 : (Tryz.prog.underlying 36).isSome = true := by kernel_rfl
@[go_sem] theorem fd_36_0 : fieldOf Tryz.prog 36 0 = some (0, 3) := by kernel_rfl
@[go_sem] theorem fd_36_1 : fieldOf Tryz.prog 36 1 = some (1, 3) := by kernel_rfl
@[go_sem] theorem fd_36_2 : fieldOf Tryz.prog 36 2 = some (2, 3) := by kernel_rfl
@[go_sem] theorem fd_36_3 : fieldOf Tryz.prog 36 3 = some (3, 3) := by kernel_rfl
@[go_sem] theorem fd_36_4 : fieldOf Tryz.prog 36 4 = some (4, 3) := by kernel_rfl
@[go_sem] theorem fd_36_5 : fieldOf Tryz.prog 36 5 = some (5, 3) := by kernel_rfl
@[go_sem] theorem fd_36_6 : fieldOf Tryz.prog 36 6 = some (6, 3) := by kernel_rfl
@[go_sem] theorem fd_36_7 : fieldOf Tryz.prog 36 7 = some (7, 3) := by kernel_rfl
@[go_sem] theorem el_36 : Go.PA.elemOf Tryz.prog 36 = none := by kernel_rfl
@[go_sem] theorem ar_36 : arrOf Tryz.prog 36 = none := by kernel_rfl
@[go_sem] theorem fk_36 : fieldsKnown Tryz.prog 36 = true := by kernel_rfl
@[go_sem] theorem sg_36 : sigOf Tryz.prog 36 = some [.int, .int, .int, .int, .int, .int, .int, .int] := by kernel_rfl
@[go_sem] theorem ze_36 : zeros Tryz.prog 36 = some [.sc (.int .i64 0), .sc (.int .i64 0), .sc (.int .i64 0), .sc (.int .i64 0), .sc (.int .i64 0), .sc (.int .i64 0), .sc (.int .i64 0), .sc (.int .i64 0)] := by kernel_rfl
@[go_sem] theorem by_36 : bytesOf Tryz.prog 36 = 64 := by kernel_rfl
@[go_sem] theorem sz_37 : szOf Tryz.prog 37 = 16 := by kernel_rfl
@[go_sem] theorem kn_37 : knownT Tryz.prog 37 = true := by kernel_rfl
@[go_sem] theorem ag_37 : aggOf Tryz.prog 37 = true := by kernel_rfl
@[go_sem] theorem us_37 : (Tryz.prog.underlying 37).isSome = true := by kernel_rfl
@[go_sem] theorem el_37 : Go.PA.elemOf Tryz.prog 37 = none := by kernel_rfl
@[go_sem] theorem ar_37 : arrOf Tryz.prog 37 = some (2, 36) := by kernel_rfl
@[go_sem] theorem fk_37 : fieldsKnown Tryz.prog 37 = true := by kernel_rfl
@[go_sem] theorem fd_37_0 : fieldOf Tryz.prog 37 0 = none := by kernel_rfl
@[go_sem] theorem fd_37_1 : fieldOf Tryz.prog 37 1 = none := by kernel_rfl
@[go_sem] theorem ze_37 : zeros Tryz.prog 37 = some [.sc (.int .i64 0), .sc (.int .i64 0), .sc (.int .i64 0), .sc (.int .i64 0), .sc (.int .i64 0), .sc (.int .i64 0), .sc (.int .i64 0), .sc (.int .i64 0), .sc (.int .i64 0), .sc (.int .i64 0), .sc (.int .i64 0), .sc (.int .i64 0), .sc (.int .i64 0), .sc (.int .i64 0), .sc (.int .i64 0), .sc (.int .i64 0)] := by kernel_rfl
@[go_sem] theorem by_37 : bytesOf Tryz.prog 37 = 128 := by kernel_rfl
@[go_sem] theorem sz_38 : szOf Tryz.prog 38 = 1 := by kernel_rfl
@[go_sem] theorem kn_38 : knownT Tryz.prog 38 = true := by kernel_rfl
@[go_sem] theorem ag_38 : aggOf Tryz.prog 38 = false := by kernel_rfl
@[go_sem] theorem us_38 : (Tryz.prog.underlying 38).isSome = true := by kernel_rfl
@[go_sem] theorem un_38 : Tryz.prog.underlying 38 = some (.int .i64) := by kernel_rfl
@[go_sem] theorem ze_38 : zeros Tryz.prog 38 = some [.sc (.int .i64 0)] := by kernel_rfl
@[go_sem] theorem az_38 : azero1 Tryz.prog 38 = some (.sc (.int .i64 0)) := by kernel_rfl
@[go_sem] theorem by_38 : bytesOf Tryz.prog 38 = 8 := by kernel_rfl
@[go_sem] theorem sz_42 : szOf Tryz.prog 42 = 1 := by kernel_rfl
@[go_sem] theorem kn_42 : knownT Tryz.prog 42 = true := by kernel_rfl
@[go_sem] theorem ag_42 : aggOf Tryz.prog 42 = false := by kernel_rfl
@[go_sem] theorem us_42 : (Tryz.prog.underlying 42).isSome = true := by kernel_rfl
@[go_sem] theorem el_42 : Go.PA.elemOf Tryz.prog 42 = some 81 := by kernel_rfl
@[go_sem] theorem un_42 : Tryz.prog.underlying 42 = some (.slice 81) := by kernel_rfl
@[go_sem] theorem ze_42 : zeros Tryz.prog 42 = some [.nil] := by kernel_rfl
@[go_sem] theorem az_42 : azero1 Tryz.prog 42 = some (.nil) := by kernel_rfl
@[go_sem] theorem by_42 : bytesOf Tryz.prog 42 = 24 := by kernel_rfl
@[go_sem] theorem sz_44 : szOf Tryz.prog 44 = 4 := by kernel_rfl
@[go_sem] theorem kn_44 : knownT Tryz.prog 44 = true := by kernel_rfl
@[go_sem] theorem ag_44 : aggOf Tryz.prog 44 = true := by kernel_rfl
@[go_sem] theorem us_44 : (Tryz.prog.underlying 44).isSome = true := by kernel_rfl
@[go_sem] theorem fd_44_0 : fieldOf Tryz.prog 44 0 = some (0, 3) := by kernel_rfl
@[go_sem] theorem fd_44_1 : fieldOf Tryz.prog 44 1 = some (1, 3) := by kernel_rfl
@[go_sem] theorem fd_44_2 : fieldOf Tryz.prog 44 2 = some (2, 3) := by kernel_rfl
@[go_sem] theorem fd_44_3 : fieldOf Tryz.prog 44 3 = some (3, 42) := by kernel_rfl
@[go_sem] theorem el_44 : Go.PA.elemOf Tryz.prog 44 = none := by kernel_rfl
@[go_sem] theorem ar_44 : arrOf Tryz.prog 44 = none := by kernel_rfl
@[go_sem] theorem fk_44 : fieldsKnown Tryz.prog 44 = true := by kernel_rfl
@[go_sem] theorem ze_44 : zeros Tryz.prog 44 = some [.sc (.int .i64 0), .sc (.int .i64 0), .sc (.int .i64 0), .nil] := by kernel_rfl
@[go_sem] theorem by_44 : bytesOf Tryz.prog 44 = 48 := by kernel_rfl
@[go_sem] theorem sz_45 : szOf Tryz.prog 45 = 4 := by kernel_rfl
@[go_sem] theorem kn_45 : knownT Tryz.prog 45 = true := by kernel_rfl
@[go_sem] theorem ag_45 : aggOf Tryz.prog 45 = true := by kernel_rfl
@[go_sem] theorem us_45 : (Tryz.prog.underlying 45).isSome = true := by kernel_rfl
@[go_sem] theorem fd_45_0 : fieldOf Tryz.prog 45 0 = some (0, 3) := by kernel_rfl
@[go_sem] theorem fd_45_1 : fieldOf Tryz.prog 45 1 = some (1, 3) := by kernel_rfl
@[go_sem] theorem fd_45_2 : fieldOf Tryz.prog 45 2 = some (2, 3) := by kernel_rfl
@[go_sem] theorem fd_45_3 : fieldOf Tryz.prog 45 3 = some (3, 42) := by kernel_rfl
@[go_sem] theorem el_45 : Go.PA.elemOf Tryz.prog 45 = none := by kernel_rfl
@[go_sem] theorem ar_45 : arrOf Tryz.prog 45 = none := by kernel_rfl
@[go_sem] theorem fk_45 : fieldsKnown Tryz.prog 45 = true := by kernel_rfl
@[go_sem] theorem ze_45 : zeros Tryz.prog 45 = some [.sc (.int .i64 0), .sc (.int .i64 0), .sc (.int .i64 0), .nil] := by kernel_rfl
@[go_sem] theorem by_45 : bytesOf Tryz.prog 45 = 48 := by kernel_rfl
@[go_sem] theorem sz_47 : szOf Tryz.prog 47 = 3 := by kernel_rfl
@[go_sem] theorem kn_47 : knownT Tryz.prog 47 = true := by kernel_rfl
@[go_sem] theorem ag_47 : aggOf Tryz.prog 47 = true := by kernel_rfl
@[go_sem] theorem us_47 : (Tryz.prog.underlying 47).isSome = true := by kernel_rfl
@[go_sem] theorem el_47 : Go.PA.elemOf Tryz.prog 47 = none := by kernel_rfl
@[go_sem] theorem ar_47 : arrOf Tryz.prog 47 = some (3, 3) := by kernel_rfl
@[go_sem] theorem fk_47 : fieldsKnown Tryz.prog 47 = true := by kernel_rfl
@[go_sem] theorem fd_47_0 : fieldOf Tryz.prog 47 0 = none := by kernel_rfl
@[go_sem] theorem fd_47_1 : fieldOf Tryz.prog 47 1 = none := by kernel_rfl
@[go_sem] theorem fd_47_2 : fieldOf Tryz.prog 47 2 = none := by kernel_rfl
@[go_sem] theorem ze_47 : zeros Tryz.prog 47 = some [.sc (.int .i64 0), .sc (.int .i64 0), .sc (.int .i64 0)] := by kernel_rfl
@[go_sem] theorem by_47 : bytesOf Tryz.prog 47 = 24 := by kernel_rfl
@[go_sem] theorem sz_48 : szOf Tryz.prog 48 = 1 := by kernel_rfl
@[go_sem] theorem kn_48 : knownT Tryz.prog 48 = true := by kernel_rfl
@[go_sem] theorem ag_48 : aggOf Tryz.prog 48 = false := by kernel_rfl
@[go_sem] theorem us_48 : (Tryz.prog.underlying 48).isSome = true := by kernel_rfl
@[go_sem] theorem el_48 : Go.PA.elemOf Tryz.prog 48 = some 55 := by kernel_rfl
@[go_sem] theorem un_48 : Tryz.prog.underlying 48 = some (.slice 55) := by kernel_rfl
@[go_sem] theorem ze_48 : zeros Tryz.prog 48 = some [.nil] := by kernel_rfl
@[go_sem] theorem az_48 : azero1 Tryz.prog 48 = some (.nil) := by kernel_rfl
@[go_sem] theorem by_48 : bytesOf Tryz.prog 48 = 24 := by kernel_rfl
@[go_sem] theorem sz_49 : szOf Tryz.prog 49 = 1 := by kernel_rfl
@[go_sem] theorem kn_49 : knownT Tryz.prog 49 = true := by kernel_rfl
@[go_sem] theorem ag_49 : aggOf Tryz.prog 49 = false := by kernel_rfl
@[go_sem] theorem us_49 : (Tryz.prog.underlying 49).isSome = true := by kernel_rfl
@[go_sem] theorem el_49 : Go.PA.elemOf Tryz.prog 49 = some 92 := by kernel_rfl
@[go_sem] theorem un_49 : Tryz.prog.underlying 49 = some (.slice 92) := by kernel_rfl
@[go_sem] theorem ze_49 : zeros Tryz.prog 49 = some [.nil] := by kernel_rfl
@[go_sem] theorem az_49 : azero1 Tryz.prog 49 = some (.nil) := by kernel_rfl
@[go_sem] theorem by_49 : bytesOf Tryz.prog 49 = 24 := by kernel_rfl
@[go_sem] theorem sz_50 : szOf Tryz.prog 50 = 3 := by kernel_rfl
@[go_sem] theorem kn_50 : knownT Tryz.prog 50 = true := by kernel_rfl
@[go_sem] theorem ag_50 : aggOf Tryz.prog 50 = true := by kernel_rfl
@[go_sem] theorem us_50 : (Tryz.prog.underlying 50).isSome = true := by kernel_rfl
@[go_sem] theorem fd_50_0 : fieldOf Tryz.prog 50 0 = some (0, 48) := by kernel_rfl
@[go_sem] theorem fd_50_1 : fieldOf Tryz.prog 50 1 = some (1, 3) := by kernel_rfl
@[go_sem] theorem fd_50_2 : fieldOf Tryz.prog 50 2 = some (2, 49) := by kernel_rfl
@[go_sem] theorem el_50 : Go.PA.elemOf Tryz.prog 50 = none := by kernel_rfl
@[go_sem] theorem ar_50 : arrOf Tryz.prog 50 = none := by kernel_rfl
@[go_sem] theorem fk_50 : fieldsKnown Tryz.prog 50 = true := by kernel_rfl
@[go_sem] theorem ze_50 : zeros Tryz.prog 50 = some [.nil, .sc (.int .i64 0), .nil] := by kernel_rfl
@[go_sem] theorem by_50 : bytesOf Tryz.prog 50 = 56 := by kernel_rfl
@[go_sem] theorem sz_51 : szOf Tryz.prog 51 = 3 := by kernel_rfl
@[go_sem] theorem kn_51 : knownT Tryz.prog 51 = true := by kernel_rfl
@[go_sem] theorem ag_51 : aggOf Tryz.prog 51 = true := by kernel_rfl
@[go_sem] theorem us_51 : (Tryz.prog.underlying 51).isSome = true := by kernel_rfl
@[go_sem] theorem fd_51_0 : fieldOf Tryz.prog 51 0 = some (0, 48) := by kernel_rfl
@[go_sem] theorem fd_51_1 : fieldOf Tryz.prog 51 1 = some (1, 3) := by kernel_rfl
@[go_sem] theorem fd_51_2 : fieldOf Tryz.prog 51 2 = some (2, 49) := by kernel_rfl
@[go_sem] theorem el_51 : Go.PA.elemOf Tryz.prog 51 = none := by kernel_rfl
@[go_sem] theorem ar_51 : arrOf Tryz.prog 51 = none := by kernel_rfl
@[go_sem] theorem fk_51 : fieldsKnown Tryz.prog 51 = true := by kernel_rfl
@[go_sem] theorem ze_51 : zeros Tryz.prog 51 = some [.nil, .sc (.int .i64 0), .nil] := by kernel_rfl
@[go_sem] theorem by_51 : bytesOf Tryz.prog 51 = 56 := by kernel_rfl
@[go_sem] theorem sz_54 : szOf Tryz.prog 54 = 2 := by kernel_rfl
@[go_sem] theorem kn_54 : knownT Tryz.prog 54 = true := by kernel_rfl
@[go_sem] theorem ag_54 : aggOf Tryz.prog 54 = true := by kernel_rfl
@[go_sem] theorem us_54 : (Tryz.prog.underlying 54).isSome = true := by kernel_rfl
@[go_sem] theorem fd_54_0 : fieldOf Tryz.prog 54 0 = some (0, 3) := by kernel_rfl
@[go_sem] theorem fd_54_1 : fieldOf Tryz.prog 54 1 = some (1, 3) := by kernel_rfl
@[go_sem] theorem el_54 : Go.PA.elemOf Tryz.prog 54 = none := by kernel_rfl
@[go_sem] theorem ar_54 : arrOf Tryz.prog 54 = none := by kernel_rfl
@[go_sem] theorem fk_54 : fieldsKnown Tryz.prog 54 = true := by kernel_rfl
@[go_sem] theorem sg_54 : sigOf Tryz.prog 54 = some [.int, .int] := by kernel_rfl
@[go_sem] theorem ze_54 : zeros Tryz.prog 54 = some [.sc (.int .i64 0), .sc (.int .i64 0)] := by kernel_rfl
@[go_sem] theorem by_54 : bytesOf Tryz.prog 54 = 16 := by kernel_rfl
@[go_sem] theorem sz_55 : szOf Tryz.prog 55 = 2 := by kernel_rfl
@[go_sem] theorem kn_55 : knownT Tryz.prog 55 = true := by kernel_rfl
@[go_sem] theorem ag_55 : aggOf Tryz.prog 55 = true := by kernel_rfl
@[go_sem] theorem us_55 : (Tryz.prog.underlying 55).isSome = true := by kernel_rfl
@[go_sem] theorem fd_55_0 : fieldOf Tryz.prog 55 0 = some (0, 3) := by kernel_rfl
@[go_sem] theorem fd_55_1 : fieldOf Tryz.prog 55 1 = some (1, 3) := by kernel_rfl
@[go_sem] theorem el_55 : Go.PA.elemOf Tryz.prog 55 = none := by kernel_rfl
@[go_sem] theorem ar_55 : arrOf Tryz.prog 55 = none := by kernel_rfl
@[go_sem] theorem fk_55 : fieldsKnown Tryz.prog 55 = true := by kernel_rfl
@[go_sem] theorem sg_55 : sigOf Tryz.prog 55 = some [.int, .int] := by kernel_rfl
@[go_sem] theorem ze_55 : zeros Tryz.prog 55 = some [.sc (.int .i64 0), .sc (.int .i64 0)] := by kernel_rfl
@[go_sem] theorem by_55 : bytesOf Tryz.prog 55 = 16 := by kernel_rfl
@[go_sem] theorem sz_59 : szOf Tryz.prog 59 = 2 := by kernel_rfl
@[go_sem] theorem kn_59 : knownT Tryz.prog 59 = true := by kernel_rfl
@[go_sem] theorem ag_59 : aggOf Tryz.prog 59 = true := by kernel_rfl
@[go_sem] theorem us_59 : (Tryz.prog.underlying 59).isSome = true := by kernel_rfl
@[go_sem] theorem fd_59_0 : fieldOf Tryz.prog 59 0 = some (0, 22) := by kernel_rfl
@[go_sem] theorem fd_59_1 : fieldOf Tryz.prog 59 1 = some (1, 3) := by kernel_rfl
@[go_sem] theorem el_59 : Go.PA.elemOf Tryz.prog 59 = none := by kernel_rfl
@[go_sem] theorem ar_59 : arrOf Tryz.prog 59 = none := by kernel_rfl
@[go_sem] theorem fk_59 : fieldsKnown Tryz.prog 59 = true := by kernel_rfl
@[go_sem] theorem ze_59 : zeros Tryz.prog 59 = some [.nil, .sc (.int .i64 0)] := by kernel_rfl
@[go_sem] theorem by_59 : bytesOf Tryz.prog 59 = 32 := by kernel_rfl
@[go_sem] theorem sz_60 : szOf Tryz.prog 60 = 2 := by kernel_rfl
@[go_sem] theorem kn_60 : knownT Tryz.prog 60 = true := by kernel_rfl
@[go_sem] theorem ag_60 : aggOf Tryz.prog 60 = true := by kernel_rfl
@[go_sem] theorem us_60 : (Tryz.prog.underlying 60).isSome = true := by kernel_rfl
@[go_sem] theorem fd_60_0 : fieldOf Tryz.prog 60 0 = some (0, 22) := by kernel_rfl
@[go_sem] theorem fd_60_1 : fieldOf Tryz.prog 60 1 = some (1, 3) := by kernel_rfl
@[go_sem] theorem el_60 : Go.PA.elemOf Tryz.prog 60 = none := by kernel_rfl
@[go_sem] theorem ar_60 : arrOf Tryz.prog 60 = none := by kernel_rfl
@[go_sem] theorem fk_60 : fieldsKnown Tryz.prog 60 = true := by kernel_rfl
@[go_sem] theorem ze_60 : zeros Tryz.prog 60 = some [.nil, .sc (.int .i64 0)] := by kernel_rfl
@[go_sem] theorem by_60 : bytesOf Tryz.prog 60 = 32 := by kernel_rfl
@[go_sem] theorem sz_65 : szOf Tryz.prog 65 = 6 := by kernel_rfl
@[go_sem] theorem kn_65 : knownT Tryz.prog 65 = true := by kernel_rfl
@[go_sem] theorem ag_65 : aggOf Tryz.prog 65 = true := by kernel_rfl
@[go_sem] theorem us_65 : (Tryz.prog.underlying 65).isSome = true := by kernel_rfl
@[go_sem] theorem fd_65_0 : fieldOf Tryz.prog 65 0 = some (0, 3) := by kernel_rfl
@[go_sem] theorem fd_65_1 : fieldOf Tryz.prog 65 1 = some (1, 3) := by kernel_rfl
@[go_sem] theorem fd_65_2 : fieldOf Tryz.prog 65 2 = some (2, 3) := by kernel_rfl
@[go_sem] theorem fd_65_3 : fieldOf Tryz.prog 65 3 = some (3, 3) := by kernel_rfl
@[go_sem] theorem fd_65_4 : fieldOf Tryz.prog 65 4 = some (4, 3) := by kernel_rfl
@[go_sem] theorem fd_65_5 : fieldOf Tryz.prog 65 5 = some (5, 3) := by kernel_rfl
@[go_sem] theorem el_65 : Go.PA.elemOf Tryz.prog 65 = none := by kernel_rfl
@[go_sem] theorem ar_65 : arrOf Tryz.prog 65 = none := by kernel_rfl
@[go_sem] theorem fk_65 : fieldsKnown Tryz.prog 65 = true := by kernel_rfl
@[go_sem] theorem sg_65 : sigOf Tryz.prog 65 = some [.int, .int, .int, .int, .int, .int] := by kernel_rfl
@[go_sem] theorem ze_65 : zeros Tryz.prog 65 = some [.sc (.int .i64 0), .sc (.int .i64 0), .sc (.int .i64 0), .sc (.int .i64 0), .sc (.int .i64 0), .sc (.int .i64 0)] := by kernel_rfl
@[go_sem] theorem by_65 : bytesOf Tryz.prog 65 = 48 := by kernel_rfl
@[go_sem] theorem sz_66 : szOf Tryz.prog 66 = 6 := by kernel_rfl
@[go_sem] theorem kn_66 : knownT Tryz.prog 66 = true := by kernel_rfl
@[go_sem] theorem ag_66 : aggOf Tryz.prog 66 = true := by kernel_rfl
@[go_sem] theorem us_66 : (Tryz.prog.underlying 66).isSome = true := by kernel_rfl
@[go_sem] theorem fd_66_0 : fieldOf Tryz.prog 66 0 = some (0, 3) := by kernel_rfl
@[go_sem] theorem fd_66_1 : fieldOf Tryz.prog 66 1 = some (1, 3) := by kernel_rfl
@[go_sem] theorem fd_66_2 : fieldOf Tryz.prog 66 2 = some (2, 3) := by kernel_rfl
@[go_sem] theorem fd_66_3 : fieldOf Tryz.prog 66 3 = some (3, 3) := by kernel_rfl
@[go_sem] theorem fd_66_4 : fieldOf Tryz.prog 66 4 = some (4, 3) := by kernel_rfl
@[go_sem] theorem fd_66_5 : fieldOf Tryz.prog 66 5 = some (5, 3) := by kernel_rfl
@[go_sem] theorem el_66 : Go.PA.elemOf Tryz.prog 66 = none := by kernel_rfl
@[go_sem] theorem ar_66 : arrOf Tryz.prog 66 = none := by kernel_rfl
@[go_sem] theorem fk_66 : fieldsKnown Tryz.prog 66 = true := by kernel_rfl
@[go_sem] theorem sg_66 : sigOf Tryz.prog 66 = some [.int, .int, .int, .int, .int, .int] := by kernel_rfl
@[go_sem] theorem ze_66 : zeros Tryz.prog 66 = some [.sc (.int .i64 0), .sc (.int .i64 0), .sc (.int .i64 0), .sc (.int .i64 0), .sc (.int .i64 0), .sc (.int .i64 0)] := by kernel_rfl
@[go_sem] theorem by_66 : bytesOf Tryz.prog 66 = 48 := by kernel_rfl
@[go_sem] theorem sz_80 : szOf Tryz.prog 80 = 6 := by kernel_rfl
@[go_sem] theorem kn_80 : knownT Tryz.prog 80 = true := by kernel_rfl
@[go_sem] theorem ag_80 : aggOf Tryz.prog 80 = true := by kernel_rfl
@[go_sem] theorem us_80 : (Tryz.prog.underlying 80).isSome = true := by kernel_rfl
@[go_sem] theorem fd_80_0 : fieldOf Tryz.prog 80 0 = some (0, 3) := by kernel_rfl
@[go_sem] theorem fd_80_1 : fieldOf Tryz.prog 80 1 = some (1, 3) := by kernel_rfl
@[go_sem] theorem fd_80_2 : fieldOf Tryz.prog 80 2 = some (2, 3) := by kernel_rfl
@[go_sem] theorem fd_80_3 : fieldOf Tryz.prog 80 3 = some (3, 3) := by kernel_rfl
@[go_sem] theorem fd_80_4 : fieldOf Tryz.prog 80 4 = some (4, 3) := by kernel_rfl
@[go_sem] theorem fd_80_5 : fieldOf Tryz.prog 80 5 = some (5, 9) := by kernel_rfl
@[go_sem] theorem el_80 : Go.PA.elemOf Tryz.prog 80 = none := by kernel_rfl
@[go_sem] theorem ar_80 : arrOf Tryz.prog 80 = none := by kernel_rfl
@[go_sem] theorem fk_80 : fieldsKnown Tryz.prog 80 = true := by kernel_rfl
@[go_sem] theorem sg_80 : sigOf Tryz.prog 80 = some [.int, .int, .int, .int, .int, .str] := by kernel_rfl
@[go_sem] theorem ze_80 : zeros Tryz.prog 80 = some [.sc (.int .i64 0), .sc (.int .i64 0), .sc (.int .i64 0), .sc (.int .i64 0), .sc (.int .i64 0), .sc (.string ByteArray.empty)] := by kernel_rfl
@[go_sem] theorem by_80 : bytesOf Tryz.prog 80 = 56 := by kernel_rfl
@[go_sem] theorem sz_81 : szOf Tryz.prog 81 = 6 := by kernel_rfl
@[go_sem] theorem kn_81 : knownT Tryz.prog 81 = true := by kernel_rfl
@[go_sem] theorem ag_81 : aggOf Tryz.prog 81 = true := by kernel_rfl
@[go_sem] theorem us_81 : (Tryz.prog.underlying 81).isSome = true := by kernel_rfl
@[go_sem] theorem fd_81_0 : fieldOf Tryz.prog 81 0 = some (0, 3) := by kernel_rfl
@[go_sem] theorem fd_81_1 : fieldOf Tryz.prog 81 1 = some (1, 3) := by kernel_rfl
@[go_sem] theorem fd_81_2 : fieldOf Tryz.prog 81 2 = some (2, 3) := by kernel_rfl
@[go_sem] theorem fd_81_3 : fieldOf Tryz.prog 81 3 = some (3, 3) := by kernel_rfl
@[go_sem] theorem fd_81_4 : fieldOf Tryz.prog 81 4 = some (4, 3) := by kernel_rfl
@[go_sem] theorem fd_81_5 : fieldOf Tryz.prog 81 5 = some (5, 9) := by kernel_rfl
@[go_sem] theorem el_81 : Go.PA.elemOf Tryz.prog 81 = none := by kernel_rfl
@[go_sem] theorem ar_81 : arrOf Tryz.prog 81 = none := by kernel_rfl
@[go_sem] theorem fk_81 : fieldsKnown Tryz.prog 81 = true := by kernel_rfl
@[go_sem] theorem sg_81 : sigOf Tryz.prog 81 = some [.int, .int, .int, .int, .int, .str] := by kernel_rfl
@[go_sem] theorem ze_81 : zeros Tryz.prog 81 = some [.sc (.int .i64 0), .sc (.int .i64 0), .sc (.int .i64 0), .sc (.int .i64 0), .sc (.int .i64 0), .sc (.string ByteArray.empty)] := by kernel_rfl
@[go_sem] theorem by_81 : bytesOf Tryz.prog 81 = 56 := by kernel_rfl
@[go_sem] theorem sz_85 : szOf Tryz.prog 85 = 1 := by kernel_rfl
@[go_sem] theorem kn_85 : knownT Tryz.prog 85 = true := by kernel_rfl
@[go_sem] theorem ag_85 : aggOf Tryz.prog 85 = false := by kernel_rfl
@[go_sem] theorem us_85 : (Tryz.prog.underlying 85).isSome = true := by kernel_rfl
@[go_sem] theorem mp_85 : mapOf Tryz.prog 85 = some (3, .int .i64, 3) := by kernel_rfl
@[go_sem] theorem mi_85 : IMap Tryz.prog 85 (.sc (.int .i64 0)) := ⟨_, _, mp_85, by kernel_rfl⟩
@[go_sem] theorem im_85 : isMapT Tryz.prog 85 = true := by kernel_rfl
@[go_sem] theorem by_85 : bytesOf Tryz.prog 85 = 8 := by kernel_rfl
@[go_sem] theorem sz_89 : szOf Tryz.prog 89 = 4 := by kernel_rfl
@[go_sem] theorem kn_89 : knownT Tryz.prog 89 = true := by kernel_rfl
@[go_sem] theorem ag_89 : aggOf Tryz.prog 89 = true := by kernel_rfl
@[go_sem] theorem us_89 : (Tryz.prog.underlying 89).isSome = true := by kernel_rfl
@[go_sem] theorem fd_89_0 : fieldOf Tryz.prog 89 0 = some (0, 3) := by kernel_rfl
@[go_sem] theorem fd_89_1 : fieldOf Tryz.prog 89 1 = some (1, 3) := by kernel_rfl
@[go_sem] theorem fd_89_2 : fieldOf Tryz.prog 89 2 = some (2, 3) := by kernel_rfl
@[go_sem] theorem fd_89_3 : fieldOf Tryz.prog 89 3 = some (3, 3) := by kernel_rfl
@[go_sem] theorem el_89 : Go.PA.elemOf Tryz.prog 89 = none := by kernel_rfl
@[go_sem] theorem ar_89 : arrOf Tryz.prog 89 = none := by kernel_rfl
@[go_sem] theorem fk_89 : fieldsKnown Tryz.prog 89 = true := by kernel_rfl
@[go_sem] theorem sg_89 : sigOf Tryz.prog 89 = some [.int, .int, .int, .int] := by kernel_rfl
@[go_sem] theorem ze_89 : zeros Tryz.prog 89 = some [.sc (.int .i64 0), .sc (.int .i64 0), .sc (.int .i64 0), .sc (.int .i64 0)] := by kernel_rfl
@[go_sem] theorem by_89 : bytesOf Tryz.prog 89 = 32 := by kernel_rfl
@[go_sem] theorem sz_90 : szOf Tryz.prog 90 = 4 := by kernel_rfl
@[go_sem] theorem kn_90 : knownT Tryz.prog 90 = true := by kernel_rfl
@[go_sem] theorem ag_90 : aggOf Tryz.prog 90 = true := by kernel_rfl
@[go_sem] theorem us_90 : (Tryz.prog.underlying 90).isSome = true := by kernel_rfl
@[go_sem] theorem fd_90_0 : fieldOf Tryz.prog 90 0 = some (0, 3) := by kernel_rfl
@[go_sem] theorem fd_90_1 : fieldOf Tryz.prog 90 1 = some (1, 3) := by kernel_rfl
@[go_sem] theorem fd_90_2 : fieldOf Tryz.prog 90 2 = some (2, 3) := by kernel_rfl
@[go_sem] theorem fd_90_3 : fieldOf Tryz.prog 90 3 = some (3, 3) := by kernel_rfl
@[go_sem] theorem el_90 : Go.PA.elemOf Tryz.prog 90 = none := by kernel_rfl
@[go_sem] theorem ar_90 : arrOf Tryz.prog 90 = none := by kernel_rfl
@[go_sem] theorem fk_90 : fieldsKnown Tryz.prog 90 = true := by kernel_rfl
@[go_sem] theorem sg_90 : sigOf Tryz.prog 90 = some [.int, .int, .int, .int] := by kernel_rfl
@[go_sem] theorem ze_90 : zeros Tryz.prog 90 = some [.sc (.int .i64 0), .sc (.int .i64 0), .sc (.int .i64 0), .sc (.int .i64 0)] := by kernel_rfl
@[go_sem] theorem by_90 : bytesOf Tryz.prog 90 = 32 := by kernel_rfl
@[go_sem] theorem sz_91 : szOf Tryz.prog 91 = 5 := by kernel_rfl
@[go_sem] theorem kn_91 : knownT Tryz.prog 91 = true := by kernel_rfl
@[go_sem] theorem ag_91 : aggOf Tryz.prog 91 = true := by kernel_rfl
@[go_sem] theorem us_91 : (Tryz.prog.underlying 91).isSome = true := by kernel_rfl
@[go_sem] theorem fd_91_0 : fieldOf Tryz.prog 91 0 = some (0, 3) := by kernel_rfl
@[go_sem] theorem fd_91_1 : fieldOf Tryz.prog 91 1 = some (1, 3) := by kernel_rfl
@[go_sem] theorem fd_91_2 : fieldOf Tryz.prog 91 2 = some (2, 3) := by kernel_rfl
@[go_sem] theorem fd_91_3 : fieldOf Tryz.prog 91 3 = some (3, 3) := by kernel_rfl
@[go_sem] theorem fd_91_4 : fieldOf Tryz.prog 91 4 = some (4, 3) := by kernel_rfl
@[go_sem] theorem el_91 : Go.PA.elemOf Tryz.prog 91 = none := by kernel_rfl
@[go_sem] theorem ar_91 : arrOf Tryz.prog 91 = none := by kernel_rfl
@[go_sem] theorem fk_91 : fieldsKnown Tryz.prog 91 = true := by kernel_rfl
@[go_sem] theorem sg_91 : sigOf Tryz.prog 91 = some [.int, .int, .int, .int, .int] := by kernel_rfl
@[go_sem] theorem ze_91 : zeros Tryz.prog 91 = some [.sc (.int .i64 0), .sc (.int .i64 0), .sc (.int .i64 0), .sc (.int .i64 0), .sc (.int .i64 0)] := by kernel_rfl
@[go_sem] theorem by_91 : bytesOf Tryz.prog 91 = 40 := by kernel_rfl
@[go_sem] theorem sz_92 : szOf Tryz.prog 92 = 5 := by kernel_rfl
@[go_sem] theorem kn_92 : knownT Tryz.prog 92 = true := by kernel_rfl
@[go_sem] theorem ag_92 : aggOf Tryz.prog 92 = true := by kernel_rfl
@[go_sem] theorem us_92 : (Tryz.prog.underlying 92).isSome = true := by kernel_rfl
@[go_sem] theorem fd_92_0 : fieldOf Tryz.prog 92 0 = some (0, 3) := by kernel_rfl
@[go_sem] theorem fd_92_1 : fieldOf Tryz.prog 92 1 = some (1, 3) := by kernel_rfl
@[go_sem] theorem fd_92_2 : fieldOf Tryz.prog 92 2 = some (2, 3) := by kernel_rfl
@[go_sem] theorem fd_92_3 : fieldOf Tryz.prog 92 3 = some (3, 3) := by kernel_rfl
@[go_sem] theorem fd_92_4 : fieldOf Tryz.prog 92 4 = some (4, 3) := by kernel_rfl
@[go_sem] theorem el_92 : Go.PA.elemOf Tryz.prog 92 = none := by kernel_rfl
@[go_sem] theorem ar_92 : arrOf Tryz.prog 92 = none := by kernel_rfl
@[go_sem] theorem fk_92 : fieldsKnown Tryz.prog 92 = true := by kernel_rfl
@[go_sem] theorem sg_92 : sigOf Tryz.prog 92 = some [.int, .int, .int, .int, .int] := by kernel_rfl
@[go_sem] theorem ze_92 : zeros Tryz.prog 92 = some [.sc (.int .i64 0), .sc (.int .i64 0), .sc (.int .i64 0), .sc (.int .i64 0), .sc (.int .i64 0)] := by kernel_rfl
@[go_sem] theorem by_92 : bytesOf Tryz.prog 92 = 40 := by kernel_rfl
@[go_sem] theorem sz_95 : szOf Tryz.prog 95 = 2 := by kernel_rfl
@[go_sem] theorem kn_95 : knownT Tryz.prog 95 = true := by kernel_rfl
@[go_sem] theorem ag_95 : aggOf Tryz.prog 95 = true := by kernel_rfl
@[go_sem] theorem us_95 : (Tryz.prog.underlying 95).isSome = true := by kernel_rfl
@[go_sem] theorem fd_95_0 : fieldOf Tryz.prog 95 0 = some (0, 3) := by kernel_rfl
@[go_sem] theorem fd_95_1 : fieldOf Tryz.prog 95 1 = some (1, 3) := by kernel_rfl
@[go_sem] theorem el_95 : Go.PA.elemOf Tryz.prog 95 = none := by kernel_rfl
@[go_sem] theorem ar_95 : arrOf Tryz.prog 95 = none := by kernel_rfl
@[go_sem] theorem fk_95 : fieldsKnown Tryz.prog 95 = true := by kernel_rfl
@[go_sem] theorem sg_95 : sigOf Tryz.prog 95 = some [.int, .int] := by kernel_rfl
@[go_sem] theorem ze_95 : zeros Tryz.prog 95 = some [.sc (.int .i64 0), .sc (.int .i64 0)] := by kernel_rfl
@[go_sem] theorem by_95 : bytesOf Tryz.prog 95 = 16 := by kernel_rfl
@[go_sem] theorem sz_96 : szOf Tryz.prog 96 = 2 := by kernel_rfl
@[go_sem] theorem kn_96 : knownT Tryz.prog 96 = true := by kernel_rfl
@[go_sem] theorem ag_96 : aggOf Tryz.prog 96 = true := by kernel_rfl
@[go_sem] theorem us_96 : (Tryz.prog.underlying 96).isSome = true := by kernel_rfl
@[go_sem] theorem fd_96_0 : fieldOf Tryz.prog 96 0 = some (0, 3) := by kernel_rfl
@[go_sem] theorem fd_96_1 : fieldOf Tryz.prog 96 1 = some (1, 3) := by kernel_rfl
@[go_sem] theorem el_96 : Go.PA.elemOf Tryz.prog 96 = none := by kernel_rfl
@[go_sem] theorem ar_96 : arrOf Tryz.prog 96 = none := by kernel_rfl
@[go_sem] theorem fk_96 : fieldsKnown Tryz.prog 96 = true := by kernel_rfl
@[go_sem] theorem sg_96 : sigOf Tryz.prog 96 = some [.int, .int] := by kernel_rfl
@[go_sem] theorem ze_96 : zeros Tryz.prog 96 = some [.sc (.int .i64 0), .sc (.int .i64 0)] := by kernel_rfl
@[go_sem] theorem by_96 : bytesOf Tryz.prog 96 = 16 := by kernel_rfl
@[go_sem] theorem sz_97 : szOf Tryz.prog 97 = 1 := by kernel_rfl
@[go_sem] theorem kn_97 : knownT Tryz.prog 97 = true := by kernel_rfl
@[go_sem] theorem ag_97 : aggOf Tryz.prog 97 = false := by kernel_rfl
@[go_sem] theorem us_97 : (Tryz.prog.underlying 97).isSome = true := by kernel_rfl
@[go_sem] theorem el_97 : Go.PA.elemOf Tryz.prog 97 = some 192 := by kernel_rfl
@[go_sem] theorem un_97 : Tryz.prog.underlying 97 = some (.slice 192) := by kernel_rfl
@[go_sem] theorem ze_97 : zeros Tryz.prog 97 = some [.nil] := by kernel_rfl
@[go_sem] theorem az_97 : azero1 Tryz.prog 97 = some (.nil) := by kernel_rfl
@[go_sem] theorem by_97 : bytesOf Tryz.prog 97 = 24 := by kernel_rfl
@[go_sem] theorem sz_98 : szOf Tryz.prog 98 = 1 := by kernel_rfl
@[go_sem] theorem kn_98 : knownT Tryz.prog 98 = true := by kernel_rfl
@[go_sem] theorem ag_98 : aggOf Tryz.prog 98 = false := by kernel_rfl
@[go_sem] theorem us_98 : (Tryz.prog.underlying 98).isSome = true := by kernel_rfl
@[go_sem] theorem el_98 : Go.PA.elemOf Tryz.prog 98 = some 194 := by kernel_rfl
@[go_sem] theorem un_98 : Tryz.prog.underlying 98 = some (.slice 194) := by kernel_rfl
@[go_sem] theorem ze_98 : zeros Tryz.prog 98 = some [.nil] := by kernel_rfl
@[go_sem] theorem az_98 : azero1 Tryz.prog 98 = some (.nil) := by kernel_rfl
@[go_sem] theorem by_98 : bytesOf Tryz.prog 98 = 24 := by kernel_rfl
@[go_sem] theorem sz_99 : szOf Tryz.prog 99 = 3 := by kernel_rfl
@[go_sem] theorem kn_99 : knownT Tryz.prog 99 = true := by kernel_rfl
@[go_sem] theorem ag_99 : aggOf Tryz.prog 99 = true := by kernel_rfl
@[go_sem] theorem us_99 : (Tryz.prog.underlying 99).isSome = true := by kernel_rfl
@[go_sem] theorem fd_99_0 : fieldOf Tryz.prog 99 0 = some (0, 97) := by kernel_rfl
@[go_sem] theorem fd_99_1 : fieldOf Tryz.prog 99 1 = some (1, 22) := by kernel_rfl
@[go_sem] theorem fd_99_2 : fieldOf Tryz.prog 99 2 = some (2, 98) := by kernel_rfl
@[go_sem] theorem el_99 : Go.PA.elemOf Tryz.prog 99 = none := by kernel_rfl
@[go_sem] theorem ar_99 : arrOf Tryz.prog 99 = none := by kernel_rfl
@[go_sem] theorem fk_99 : fieldsKnown Tryz.prog 99 = true := by kernel_rfl
@[go_sem] theorem ze_99 : zeros Tryz.prog 99 = some [.nil, .nil, .nil] := by kernel_rfl
@[go_sem] theorem by_99 : bytesOf Tryz.prog 99 = 72 := by kernel_rfl
@[go_sem] theorem sz_100 : szOf Tryz.prog 100 = 3 := by kernel_rfl
@[go_sem] theorem kn_100 : knownT Tryz.prog 100 = true := by kernel_rfl
@[go_sem] theorem ag_100 : aggOf Tryz.prog 100 = true := by kernel_rfl
@[go_sem] theorem us_100 : (Tryz.prog.underlying 100).isSome = true := by kernel_rfl
@[go_sem] theorem fd_100_0 : fieldOf Tryz.prog 100 0 = some (0, 97) := by kernel_rfl
@[go_sem] theorem fd_100_1 : fieldOf Tryz.prog 100 1 = some (1, 22) := by kernel_rfl
@[go_sem] theorem fd_100_2 : fieldOf Tryz.prog 100 2 = some (2, 98) := by kernel_rfl
@[go_sem] theorem el_100 : Go.PA.elemOf Tryz.prog 100 = none := by kernel_rfl
@[go_sem] theorem ar_100 : arrOf Tryz.prog 100 = none := by kernel_rfl
@[go_sem] theorem fk_100 : fieldsKnown Tryz.prog 100 = true := by kernel_rfl
@[go_sem] theorem ze_100 : zeros Tryz.prog 100 = some [.nil, .nil, .nil] := by kernel_rfl
@[go_sem] theorem by_100 : bytesOf Tryz.prog 100 = 72 := by kernel_rfl
@[go_sem] theorem sz_101 : szOf Tryz.prog 101 = 1 := by kernel_rfl
@[go_sem] theorem kn_101 : knownT Tryz.prog 101 = true := by kernel_rfl
@[go_sem] theorem ag_101 : aggOf Tryz.prog 101 = false := by kernel_rfl
@[go_sem] theorem us_101 : (Tryz.prog.underlying 101).isSome = true := by kernel_rfl
@[go_sem] theorem el_101 : Go.PA.elemOf Tryz.prog 101 = some 197 := by kernel_rfl
@[go_sem] theorem un_101 : Tryz.prog.underlying 101 = some (.slice 197) := by kernel_rfl
@[go_sem] theorem ze_101 : zeros Tryz.prog 101 = some [.nil] := by kernel_rfl
@[go_sem] theorem az_101 : azero1 Tryz.prog 101 = some (.nil) := by kernel_rfl
@[go_sem] theorem by_101 : bytesOf Tryz.prog 101 = 24 := by kernel_rfl
@[go_sem] theorem sz_102 : szOf Tryz.prog 102 = 7 := by kernel_rfl
@[go_sem] theorem kn_102 : knownT Tryz.prog 102 = true := by kernel_rfl
@[go_sem] theorem ag_102 : aggOf Tryz.prog 102 = true := by kernel_rfl
@[go_sem] theorem us_102 : (Tryz.prog.underlying 102).isSome = true := by kernel_rfl
@[go_sem] theorem fd_102_0 : fieldOf Tryz.prog 102 0 = some (0, 28) := by kernel_rfl
@[go_sem] theorem fd_102_1 : fieldOf Tryz.prog 102 1 = some (3, 100) := by kernel_rfl
@[go_sem] theorem fd_102_2 : fieldOf Tryz.prog 102 2 = some (6, 101) := by kernel_rfl
@[go_sem] theorem el_102 : Go.PA.elemOf Tryz.prog 102 = none := by kernel_rfl
@[go_sem] theorem ar_102 : arrOf Tryz.prog 102 = none := by kernel_rfl
@[go_sem] theorem fk_102 : fieldsKnown Tryz.prog 102 = true := by kernel_rfl
@[go_sem] theorem ze_102 : zeros Tryz.prog 102 = some [.sc (.int .i64 0), .nil, .nil, .nil, .nil, .nil, .nil] := by kernel_rfl
@[go_sem] theorem by_102 : bytesOf Tryz.prog 102 = 152 := by kernel_rfl
@[go_sem] theorem sz_103 : szOf Tryz.prog 103 = 7 := by kernel_rfl
@[go_sem] theorem kn_103 : knownT Tryz.prog 103 = true := by kernel_rfl
@[go_sem] theorem ag_103 : aggOf Tryz.prog 103 = true := by kernel_rfl
@[go_sem] theorem us_103 : (Tryz.prog.underlying 103).isSome = true := by kernel_rfl
@[go_sem] theorem fd_103_0 : fieldOf Tryz.prog 103 0 = some (0, 28) := by kernel_rfl
@[go_sem] theorem fd_103_1 : fieldOf Tryz.prog 103 1 = some (3, 100) := by kernel_rfl
@[go_sem] theorem fd_103_2 : fieldOf Tryz.prog 103 2 = some (6, 101) := by kernel_rfl
@[go_sem] theorem el_103 : Go.PA.elemOf Tryz.prog 103 = none := by kernel_rfl
@[go_sem] theorem ar_103 : arrOf Tryz.prog 103 = none := by kernel_rfl
@[go_sem] theorem fk_103 : fieldsKnown Tryz.prog 103 = true := by kernel_rfl
@[go_sem] theorem ze_103 : zeros Tryz.prog 103 = some [.sc (.int .i64 0), .nil, .nil, .nil, .nil, .nil, .nil] := by kernel_rfl
@[go_sem] theorem by_103 : bytesOf Tryz.prog 103 = 152 := by kernel_rfl
@[go_sem] theorem sz_104 : szOf Tryz.prog 104 = 1 := by kernel_rfl
@[go_sem] theorem kn_104 : knownT Tryz.prog 104 = true := by kernel_rfl
@[go_sem] theorem ag_104 : aggOf Tryz.prog 104 = false := by kernel_rfl
@[go_sem] theorem us_104 : (Tryz.prog.underlying 104).isSome = true := by kernel_rfl
@[go_sem] theorem el_104 : Go.PA.elemOf Tryz.prog 104 = some 202 := by kernel_rfl
@[go_sem] theorem un_104 : Tryz.prog.underlying 104 = some (.slice 202) := by kernel_rfl
@[go_sem] theorem ze_104 : zeros Tryz.prog 104 = some [.nil] := by kernel_rfl
@[go_sem] theorem az_104 : azero1 Tryz.prog 104 = some (.nil) := by kernel_rfl
@[go_sem] theorem by_104 : bytesOf Tryz.prog 104 = 24 := by kernel_rfl
@[go_sem] theorem sz_105 : szOf Tryz.prog 105 = 1 := by kernel_rfl
@[go_sem] theorem kn_105 : knownT Tryz.prog 105 = true := by kernel_rfl
@[go_sem] theorem ag_105 : aggOf Tryz.prog 105 = false := by kernel_rfl
@[go_sem] theorem us_105 : (Tryz.prog.underlying 105).isSome = true := by kernel_rfl
@[go_sem] theorem el_105 : Go.PA.elemOf Tryz.prog 105 = some 205 := by kernel_rfl
@[go_sem] theorem un_105 : Tryz.prog.underlying 105 = some (.slice 205) := by kernel_rfl
@[go_sem] theorem ze_105 : zeros Tryz.prog 105 = some [.nil] := by kernel_rfl
@[go_sem] theorem az_105 : azero1 Tryz.prog 105 = some (.nil) := by kernel_rfl
@[go_sem] theorem by_105 : bytesOf Tryz.prog 105 = 24 := by kernel_rfl
@[go_sem] theorem sz_106 : szOf Tryz.prog 106 = 4 := by kernel_rfl
@[go_sem] theorem kn_106 : knownT Tryz.prog 106 = true := by kernel_rfl
@[go_sem] theorem ag_106 : aggOf Tryz.prog 106 = true := by kernel_rfl
@[go_sem] theorem us_106 : (Tryz.prog.underlying 106).isSome = true := by kernel_rfl
@[go_sem] theorem fd_106_0 : fieldOf Tryz.prog 106 0 = some (0, 42) := by kernel_rfl
@[go_sem] theorem fd_106_1 : fieldOf Tryz.prog 106 1 = some (1, 104) := by kernel_rfl
@[go_sem] theorem fd_106_2 : fieldOf Tryz.prog 106 2 = some (2, 105) := by kernel_rfl
@[go_sem] theorem fd_106_3 : fieldOf Tryz.prog 106 3 = some (3, 22) := by kernel_rfl
@[go_sem] theorem el_106 : Go.PA.elemOf Tryz.prog 106 = none := by kernel_rfl
@[go_sem] theorem ar_106 : arrOf Tryz.prog 106 = none := by kernel_rfl
@[go_sem] theorem fk_106 : fieldsKnown Tryz.prog 106 = true := by kernel_rfl
@[go_sem] theorem ze_106 : zeros Tryz.prog 106 = some [.nil, .nil, .nil, .nil] := by kernel_rfl
@[go_sem] theorem by_106 : bytesOf Tryz.prog 106 = 96 := by kernel_rfl
@[go_sem] theorem sz_107 : szOf Tryz.prog 107 = 4 := by kernel_rfl
@[go_sem] theorem kn_107 : knownT Tryz.prog 107 = true := by kernel_rfl
@[go_sem] theorem ag_107 : aggOf Tryz.prog 107 = true := by kernel_rfl
@[go_sem] theorem us_107 : (Tryz.prog.underlying 107).isSome = true := by kernel_rfl
@[go_sem] theorem fd_107_0 : fieldOf Tryz.prog 107 0 = some (0, 42) := by kernel_rfl
@[go_sem] theorem fd_107_1 : fieldOf Tryz.prog 107 1 = some (1, 104) := by kernel_rfl
@[go_sem] theorem fd_107_2 : fieldOf Tryz.prog 107 2 = some (2, 105) := by kernel_rfl
@[go_sem] theorem fd_107_3 : fieldOf Tryz.prog 107 3 = some (3, 22) := by kernel_rfl
@[go_sem] theorem el_107 : Go.PA.elemOf Tryz.prog 107 = none := by kernel_rfl
@[go_sem] theorem ar_107 : arrOf Tryz.prog 107 = none := by kernel_rfl
@[go_sem] theorem fk_107 : fieldsKnown Tryz.prog 107 = true := by kernel_rfl
@[go_sem] theorem ze_107 : zeros Tryz.prog 107 = some [.nil, .nil, .nil, .nil] := by kernel_rfl
@[go_sem] theorem by_107 : bytesOf Tryz.prog 107 = 96 := by kernel_rfl
@[go_sem] theorem sz_108 : szOf Tryz.prog 108 = 1 := by kernel_rfl
@[go_sem] theorem kn_108 : knownT Tryz.prog 108 = true := by kernel_rfl
@[go_sem] theorem ag_108 : aggOf Tryz.prog 108 = false := by kernel_rfl
@[go_sem] theorem us_108 : (Tryz.prog.underlying 108).isSome = true := by kernel_rfl
@[go_sem] theorem el_108 : Go.PA.elemOf Tryz.prog 108 = some 159 := by kernel_rfl
@[go_sem] theorem un_108 : Tryz.prog.underlying 108 = some (.slice 159) := by kernel_rfl
@[go_sem] theorem ze_108 : zeros Tryz.prog 108 = some [.nil] := by kernel_rfl
@[go_sem] theorem az_108 : azero1 Tryz.prog 108 = some (.nil) := by kernel_rfl
@[go_sem] theorem by_108 : bytesOf Tryz.prog 108 = 24 := by kernel_rfl
@[go_sem] theorem sz_109 : szOf Tryz.prog 109 = 1 := by kernel_rfl
@[go_sem] theorem kn_109 : knownT Tryz.prog 109 = true := by kernel_rfl
@[go_sem] theorem ag_109 : aggOf Tryz.prog 109 = false := by kernel_rfl
@[go_sem] theorem us_109 : (Tryz.prog.underlying 109).isSome = true := by kernel_rfl
@[go_sem] theorem el_109 : Go.PA.elemOf Tryz.prog 109 = some 240 := by kernel_rfl
@[go_sem] theorem un_109 : Tryz.prog.underlying 109 = some (.slice 240) := by kernel_rfl
@[go_sem] theorem ze_109 : zeros Tryz.prog 109 = some [.nil] := by kernel_rfl
@[go_sem] theorem az_109 : azero1 Tryz.prog 109 = some (.nil) := by kernel_rfl
@[go_sem] theorem by_109 : bytesOf Tryz.prog 109 = 24 := by kernel_rfl
@[go_sem] theorem sz_110 : szOf Tryz.prog 110 = 1 := by kernel_rfl
@[go_sem] theorem kn_110 : knownT Tryz.prog 110 = true := by kernel_rfl
@[go_sem] theorem ag_110 : aggOf Tryz.prog 110 = false := by kernel_rfl
@[go_sem] theorem us_110 : (Tryz.prog.underlying 110).isSome = true := by kernel_rfl
@[go_sem] theorem el_110 : Go.PA.elemOf Tryz.prog 110 = some 218 := by kernel_rfl
@[go_sem] theorem un_110 : Tryz.prog.underlying 110 = some (.slice 218) := by kernel_rfl
@[go_sem] theorem ze_110 : zeros Tryz.prog 110 = some [.nil] := by kernel_rfl
@[go_sem] theorem az_110 : azero1 Tryz.prog 110 = some (.nil) := by kernel_rfl
@[go_sem] theorem by_110 : bytesOf Tryz.prog 110 = 24 := by kernel_rfl
@[go_sem] theorem sz_111 : szOf Tryz.prog 111 = 3 := by kernel_rfl
@[go_sem] theorem kn_111 : knownT Tryz.prog 111 = true := by kernel_rfl
@[go_sem] theorem ag_111 : aggOf Tryz.prog 111 = true := by kernel_rfl
@[go_sem] theorem us_111 : (Tryz.prog.underlying 111).isSome = true := by kernel_rfl
@[go_sem] theorem fd_111_0 : fieldOf Tryz.prog 111 0 = some (0, 108) := by kernel_rfl
@[go_sem] theorem fd_111_1 : fieldOf Tryz.prog 111 1 = some (1, 109) := by kernel_rfl
@[go_sem] theorem fd_111_2 : fieldOf Tryz.prog 111 2 = some (2, 110) := by kernel_rfl
@[go_sem] theorem el_111 : Go.PA.elemOf Tryz.prog 111 = none := by kernel_rfl
@[go_sem] theorem ar_111 : arrOf Tryz.prog 111 = none := by kernel_rfl
@[go_sem] theorem fk_111 : fieldsKnown Tryz.prog 111 = true := by kernel_rfl
@[go_sem] theorem ze_111 : zeros Tryz.prog 111 = some [.nil, .nil, .nil] := by kernel_rfl
@[go_sem] theorem by_111 : bytesOf Tryz.prog 111 = 72 := by kernel_rfl
@[go_sem] theorem sz_112 : szOf Tryz.prog 112 = 3 := by kernel_rfl
@[go_sem] theorem kn_112 : knownT Tryz.prog 112 = true := by kernel_rfl
@[go_sem] theorem ag_112 : aggOf Tryz.prog 112 = true := by kernel_rfl
@[go_sem] theorem us_112 : (Tryz.prog.underlying 112).isSome = true := by kernel_rfl
@[go_sem] theorem fd_112_0 : fieldOf Tryz.prog 112 0 = some (0, 108) := by kernel_rfl
@[go_sem] theorem fd_112_1 : fieldOf Tryz.prog 112 1 = some (1, 109) := by kernel_rfl
@[go_sem] theorem fd_112_2 : fieldOf Tryz.prog 112 2 = some (2, 110) := by kernel_rfl
@[go_sem] theorem el_112 : Go.PA.elemOf Tryz.prog 112 = none := by kernel_rfl
@[go_sem] theorem ar_112 : arrOf Tryz.prog 112 = none := by kernel_rfl
@[go_sem] theorem fk_112 : fieldsKnown Tryz.prog 112 = true := by kernel_rfl
@[go_sem] theorem ze_112 : zeros Tryz.prog 112 = some [.nil, .nil, .nil] := by kernel_rfl
@[go_sem] theorem by_112 : bytesOf Tryz.prog 112 = 72 := by kernel_rfl
@[go_sem] theorem sz_113 : szOf Tryz.prog 113 = 15 := by kernel_rfl
@[go_sem] theorem kn_113 : knownT Tryz.prog 113 = true := by kernel_rfl
@[go_sem] theorem ag_113 : aggOf Tryz.prog 113 = true := by kernel_rfl
@[go_sem] theorem us_113 : (Tryz.prog.underlying 113).isSome = true := by kernel_rfl
@[go_sem] theorem fd_113_0 : fieldOf Tryz.prog 113 0 = some (0, 103) := by kernel_rfl
@[go_sem] theorem fd_113_1 : fieldOf Tryz.prog 113 1 = some (7, 107) := by kernel_rfl
@[go_sem] theorem fd_113_2 : fieldOf Tryz.prog 113 2 = some (11, 112) := by kernel_rfl
@[go_sem] theorem fd_113_3 : fieldOf Tryz.prog 113 3 = some (14, 33) := by kernel_rfl
@[go_sem] theorem el_113 : Go.PA.elemOf Tryz.prog 113 = none := by kernel_rfl
@[go_sem] theorem ar_113 : arrOf Tryz.prog 113 = none := by kernel_rfl
@[go_sem] theorem fk_113 : fieldsKnown Tryz.prog 113 = true := by kernel_rfl
@[go_sem] theorem ze_113 : zeros Tryz.prog 113 = some [.sc (.int .i64 0), .nil, .nil, .nil, .nil, .nil, .nil, .nil, .nil, .nil, .nil, .nil, .nil, .nil, .nil] := by kernel_rfl
@[go_sem] theorem by_113 : bytesOf Tryz.prog 113 = 344 := by kernel_rfl
@[go_sem] theorem sz_114 : szOf Tryz.prog 114 = 15 := by kernel_rfl
@[go_sem] theorem kn_114 : knownT Tryz.prog 114 = true := by kernel_rfl
@[go_sem] theorem ag_114 : aggOf Tryz.prog 114 = true := by kernel_rfl
@[go_sem] theorem us_114 : (Tryz.prog.underlying 114).isSome = true := by kernel_rfl
@[go_sem] theorem fd_114_0 : fieldOf Tryz.prog 114 0 = some (0, 103) := by kernel_rfl
@[go_sem] theorem fd_114_1 : fieldOf Tryz.prog 114 1 = some (7, 107) := by kernel_rfl
@[go_sem] theorem fd_114_2 : fieldOf Tryz.prog 114 2 = some (11, 112) := by kernel_rfl
@[go_sem] theorem fd_114_3 : fieldOf Tryz.prog 114 3 = some (14, 33) := by kernel_rfl
@[go_sem] theorem el_114 : Go.PA.elemOf Tryz.prog 114 = none := by kernel_rfl
@[go_sem] theorem ar_114 : arrOf Tryz.prog 114 = none := by kernel_rfl
@[go_sem] theorem fk_114 : fieldsKnown Tryz.prog 114 = true := by kernel_rfl
@[go_sem] theorem ze_114 : zeros Tryz.prog 114 = some [.sc (.int .i64 0), .nil, .nil, .nil, .nil, .nil, .nil, .nil, .nil, .nil, .nil, .nil, .nil, .nil, .nil] := by kernel_rfl
@[go_sem] theorem by_114 : bytesOf Tryz.prog 114 = 344 := by kernel_rfl
@[go_sem] theorem sz_119 : szOf Tryz.prog 119 = 7 := by kernel_rfl
@[go_sem] theorem kn_119 : knownT Tryz.prog 119 = true := by kernel_rfl
@[go_sem] theorem ag_119 : aggOf Tryz.prog 119 = true := by kernel_rfl
@[go_sem] theorem us_119 : (Tryz.prog.underlying 119).isSome = true := by kernel_rfl
@[go_sem] theorem fd_119_0 : fieldOf Tryz.prog 119 0 = some (0, 3) := by kernel_rfl
@[go_sem] theorem fd_119_1 : fieldOf Tryz.prog 119 1 = some (1, 3) := by kernel_rfl
@[go_sem] theorem fd_119_2 : fieldOf Tryz.prog 119 2 = some (2, 3) := by kernel_rfl
@[go_sem] theorem fd_119_3 : fieldOf Tryz.prog 119 3 = some (3, 3) := by kernel_rfl
@[go_sem] theorem fd_119_4 : fieldOf Tryz.prog 119 4 = some (4, 3) := by kernel_rfl
@[go_sem] theorem fd_119_5 : fieldOf Tryz.prog 119 5 = some (5, 3) := by kernel_rfl
@[go_sem] theorem fd_119_6 : fieldOf Tryz.prog 119 6 = some (6, 3) := by kernel_rfl
@[go_sem] theorem el_119 : Go.PA.elemOf Tryz.prog 119 = none := by kernel_rfl
@[go_sem] theorem ar_119 : arrOf Tryz.prog 119 = none := by kernel_rfl
@[go_sem] theorem fk_119 : fieldsKnown Tryz.prog 119 = true := by kernel_rfl
@[go_sem] theorem sg_119 : sigOf Tryz.prog 119 = some [.int, .int, .int, .int, .int, .int, .int] := by kernel_rfl
@[go_sem] theorem ze_119 : zeros Tryz.prog 119 = some [.sc (.int .i64 0), .sc (.int .i64 0), .sc (.int .i64 0), .sc (.int .i64 0), .sc (.int .i64 0), .sc (.int .i64 0), .sc (.int .i64 0)] := by kernel_rfl
@[go_sem] theorem by_119 : bytesOf Tryz.prog 119 = 56 := by kernel_rfl
@[go_sem] theorem sz_120 : szOf Tryz.prog 120 = 7 := by kernel_rfl
@[go_sem] theorem kn_120 : knownT Tryz.prog 120 = true := by kernel_rfl
@[go_sem] theorem ag_120 : aggOf Tryz.prog 120 = true := by kernel_rfl
@[go_sem] theorem us_120 : (Tryz.prog.underlying 120).isSome = true := by kernel_rfl
@[go_sem] theorem fd_120_0 : fieldOf Tryz.prog 120 0 = some (0, 3) := by kernel_rfl
@[go_sem] theorem fd_120_1 : fieldOf Tryz.prog 120 1 = some (1, 3) := by kernel_rfl
@[go_sem] theorem fd_120_2 : fieldOf Tryz.prog 120 2 = some (2, 3) := by kernel_rfl
@[go_sem] theorem fd_120_3 : fieldOf Tryz.prog 120 3 = some (3, 3) := by kernel_rfl
@[go_sem] theorem fd_120_4 : fieldOf Tryz.prog 120 4 = some (4, 3) := by kernel_rfl
@[go_sem] theorem fd_120_5 : fieldOf Tryz.prog 120 5 = some (5, 3) := by kernel_rfl
@[go_sem] theorem fd_120_6 : fieldOf Tryz.prog 120 6 = some (6, 3) := by kernel_rfl
@[go_sem] theorem el_120 : Go.PA.elemOf Tryz.prog 120 = none := by kernel_rfl
@[go_sem] theorem ar_120 : arrOf Tryz.prog 120 = none := by kernel_rfl
@[go_sem] theorem fk_120 : fieldsKnown Tryz.prog 120 = true := by kernel_rfl
@[go_sem] theorem sg_120 : sigOf Tryz.prog 120 = some [.int, .int, .int, .int, .int, .int, .int] := by kernel_rfl
@[go_sem] theorem ze_120 : zeros Tryz.prog 120 = some [.sc (.int .i64 0), .sc (.int .i64 0), .sc (.int .i64 0), .sc (.int .i64 0), .sc (.int .i64 0), .sc (.int .i64 0), .sc (.int .i64 0)] := by kernel_rfl
@[go_sem] theorem by_120 : bytesOf Tryz.prog 120 = 56 := by kernel_rfl
@[go_sem] theorem sz_121 : szOf Tryz.prog 121 = 1 := by kernel_rfl
@[go_sem] theorem kn_121 : knownT Tryz.prog 121 = true := by kernel_rfl
@[go_sem] theorem ag_121 : aggOf Tryz.prog 121 = false := by kernel_rfl
@[go_sem] theorem us_121 : (Tryz.prog.underlying 121).isSome = true := by kernel_rfl
@[go_sem] theorem el_121 : Go.PA.elemOf Tryz.prog 121 = some 120 := by kernel_rfl
@[go_sem] theorem un_121 : Tryz.prog.underlying 121 = some (.slice 120) := by kernel_rfl
@[go_sem] theorem ze_121 : zeros Tryz.prog 121 = some [.nil] := by kernel_rfl
@[go_sem] theorem az_121 : azero1 Tryz.prog 121 = some (.nil) := by kernel_rfl
@[go_sem] theorem by_121 : bytesOf Tryz.prog 121 = 24 := by kernel_rfl
@[go_sem] theorem sz_129 : szOf Tryz.prog 129 = 1 := by kernel_rfl
@[go_sem] theorem kn_129 : knownT Tryz.prog 129 = true := by kernel_rfl
@[go_sem] theorem ag_129 : aggOf Tryz.prog 129 = false := by kernel_rfl
@[go_sem] theorem us_129 : (Tryz.prog.underlying 129).isSome = true := by kernel_rfl
@[go_sem] theorem ze_129 : zeros Tryz.prog 129 = some [.sc (.pointer none)] := by kernel_rfl
@[go_sem] theorem by_129 : bytesOf Tryz.prog 129 = 8 := by kernel_rfl
@[go_sem] theorem sz_134 : szOf Tryz.prog 134 = 4 := by kernel_rfl
@[go_sem] theorem kn_134 : knownT Tryz.prog 134 = true := by kernel_rfl
@[go_sem] theorem ag_134 : aggOf Tryz.prog 134 = true := by kernel_rfl
@[go_sem] theorem us_134 : (Tryz.prog.underlying 134).isSome = true := by kernel_rfl
@[go_sem] theorem fd_134_0 : fieldOf Tryz.prog 134 0 = some (0, 3) := by kernel_rfl
@[go_sem] theorem fd_134_1 : fieldOf Tryz.prog 134 1 = some (1, 3) := by kernel_rfl
@[go_sem] theorem fd_134_2 : fieldOf Tryz.prog 134 2 = some (2, 3) := by kernel_rfl
@[go_sem] theorem fd_134_3 : fieldOf Tryz.prog 134 3 = some (3, 25) := by kernel_rfl
@[go_sem] theorem el_134 : Go.PA.elemOf Tryz.prog 134 = none := by kernel_rfl
@[go_sem] theorem ar_134 : arrOf Tryz.prog 134 = none := by kernel_rfl
@[go_sem] theorem fk_134 : fieldsKnown Tryz.prog 134 = true := by kernel_rfl
@[go_sem] theorem ze_134 : zeros Tryz.prog 134 = some [.sc (.int .i64 0), .sc (.int .i64 0), .sc (.int .i64 0), .nil] := by kernel_rfl
@[go_sem] theorem by_134 : bytesOf Tryz.prog 134 = 48 := by kernel_rfl
@[go_sem] theorem sz_135 : szOf Tryz.prog 135 = 4 := by kernel_rfl
@[go_sem] theorem kn_135 : knownT Tryz.prog 135 = true := by kernel_rfl
@[go_sem] theorem ag_135 : aggOf Tryz.prog 135 = true := by kernel_rfl
@[go_sem] theorem us_135 : (Tryz.prog.underlying 135).isSome = true := by kernel_rfl
@[go_sem] theorem fd_135_0 : fieldOf Tryz.prog 135 0 = some (0, 3) := by kernel_rfl
@[go_sem] theorem fd_135_1 : fieldOf Tryz.prog 135 1 = some (1, 3) := by kernel_rfl
@[go_sem] theorem fd_135_2 : fieldOf Tryz.prog 135 2 = some (2, 3) := by kernel_rfl
@[go_sem] theorem fd_135_3 : fieldOf Tryz.prog 135 3 = some (3, 25) := by kernel_rfl
@[go_sem] theorem el_135 : Go.PA.elemOf Tryz.prog 135 = none := by kernel_rfl
@[go_sem] theorem ar_135 : arrOf Tryz.prog 135 = none := by kernel_rfl
@[go_sem] theorem fk_135 : fieldsKnown Tryz.prog 135 = true := by kernel_rfl
@[go_sem] theorem ze_135 : zeros Tryz.prog 135 = some [.sc (.int .i64 0), .sc (.int .i64 0), .sc (.int .i64 0), .nil] := by kernel_rfl
@[go_sem] theorem by_135 : bytesOf Tryz.prog 135 = 48 := by kernel_rfl
@[go_sem] theorem sz_140 : szOf Tryz.prog 140 = 1 := by kernel_rfl
@[go_sem] theorem kn_140 : knownT Tryz.prog 140 = true := by kernel_rfl
@[go_sem] theorem ag_140 : aggOf Tryz.prog 140 = false := by kernel_rfl
@[go_sem] theorem us_140 : (Tryz.prog.underlying 140).isSome = true := by kernel_rfl
@[go_sem] theorem ze_140 : zeros Tryz.prog 140 = some [.sc (.pointer none)] := by kernel_rfl
@[go_sem] theorem by_140 : bytesOf Tryz.prog 140 = 8 := by kernel_rfl
@[go_sem] theorem sz_141 : szOf Tryz.prog 141 = 4 := by kernel_rfl
@[go_sem] theorem kn_141 : knownT Tryz.prog 141 = true := by kernel_rfl
@[go_sem] theorem ag_141 : aggOf Tryz.prog 141 = true := by kernel_rfl
@[go_sem] theorem us_141 : (Tryz.prog.underlying 141).isSome = true := by kernel_rfl
@[go_sem] theorem fd_141_0 : fieldOf Tryz.prog 141 0 = some (0, 33) := by kernel_rfl
@[go_sem] theorem fd_141_1 : fieldOf Tryz.prog 141 1 = some (1, 3) := by kernel_rfl
@[go_sem] theorem fd_141_2 : fieldOf Tryz.prog 141 2 = some (2, 3) := by kernel_rfl
@[go_sem] theorem fd_141_3 : fieldOf Tryz.prog 141 3 = some (3, 30) := by kernel_rfl
@[go_sem] theorem el_141 : Go.PA.elemOf Tryz.prog 141 = none := by kernel_rfl
@[go_sem] theorem ar_141 : arrOf Tryz.prog 141 = none := by kernel_rfl
@[go_sem] theorem fk_141 : fieldsKnown Tryz.prog 141 = true := by kernel_rfl
@[go_sem] theorem ze_141 : zeros Tryz.prog 141 = some [.nil, .sc (.int .i64 0), .sc (.int .i64 0), .nil] := by kernel_rfl
@[go_sem] theorem by_141 : bytesOf Tryz.prog 141 = 64 := by kernel_rfl
@[go_sem] theorem sz_142 : szOf Tryz.prog 142 = 4 := by kernel_rfl
@[go_sem] theorem kn_142 : knownT Tryz.prog 142 = true := by kernel_rfl
@[go_sem] theorem ag_142 : aggOf Tryz.prog 142 = true := by kernel_rfl
@[go_sem] theorem us_142 : (Tryz.prog.underlying 142).isSome = true := by kernel_rfl
@[go_sem] theorem fd_142_0 : fieldOf Tryz.prog 142 0 = some (0, 33) := by kernel_rfl
@[go_sem] theorem fd_142_1 : fieldOf Tryz.prog 142 1 = some (1, 3) := by kernel_rfl
@[go_sem] theorem fd_142_2 : fieldOf Tryz.prog 142 2 = some (2, 3) := by kernel_rfl
@[go_sem] theorem fd_142_3 : fieldOf Tryz.prog 142 3 = some (3, 30) := by kernel_rfl
@[go_sem] theorem el_142 : Go.PA.elemOf Tryz.prog 142 = none := by kernel_rfl
@[go_sem] theorem ar_142 : arrOf Tryz.prog 142 = none := by kernel_rfl
@[go_sem] theorem fk_142 : fieldsKnown Tryz.prog 142 = true := by kernel_rfl
@[go_sem] theorem ze_142 : zeros Tryz.prog 142 = some [.nil, .sc (.int .i64 0), .sc (.int .i64 0), .nil] := by kernel_rfl
@[go_sem] theorem by_142 : bytesOf Tryz.prog 142 = 64 := by kernel_rfl
@[go_sem] theorem sz_146 : szOf Tryz.prog 146 = 1 := by kernel_rfl
@[go_sem] theorem kn_146 : knownT Tryz.prog 146 = true := by kernel_rfl
@[go_sem] theorem ag_146 : aggOf Tryz.prog 146 = false := by kernel_rfl
@[go_sem] theorem us_146 : (Tryz.prog.underlying 146).isSome = true := by kernel_rfl
@[go_sem] theorem el_146 : Go.PA.elemOf Tryz.prog 146 = some 30 := by kernel_rfl
@[go_sem] theorem un_146 : Tryz.prog.underlying 146 = some (.slice 30) := by kernel_rfl
@[go_sem] theorem ze_146 : zeros Tryz.prog 146 = some [.nil] := by kernel_rfl
@[go_sem] theorem az_146 : azero1 Tryz.prog 146 = some (.nil) := by kernel_rfl
@[go_sem] theorem by_146 : bytesOf Tryz.prog 146 = 24 := by kernel_rfl
@[go_sem] theorem sz_152 : szOf Tryz.prog 152 = 1 := by kernel_rfl
@[go_sem] theorem kn_152 : knownT Tryz.prog 152 = true := by kernel_rfl
@[go_sem] theorem ag_152 : aggOf Tryz.prog 152 = false := by kernel_rfl
@[go_sem] theorem us_152 : (Tryz.prog.underlying 152).isSome = true := by kernel_rfl
@[go_sem] theorem im_152 : isMapT Tryz.prog 152 = true := by kernel_rfl
@[go_sem] theorem by_152 : bytesOf Tryz.prog 152 = 8 := by kernel_rfl
@[go_sem] theorem sz_154 : szOf Tryz.prog 154 = 8 := by kernel_rfl
@[go_sem] theorem kn_154 : knownT Tryz.prog 154 = true := by kernel_rfl
@[go_sem] theorem ag_154 : aggOf Tryz.prog 154 = true := by kernel_rfl
@[go_sem] theorem us_154 : (Tryz.prog.underlying 154).isSome = true := by kernel_rfl
@[go_sem] theorem el_154 : Go.PA.elemOf Tryz.prog 154 = none := by kernel_rfl
@[go_sem] theorem ar_154 : arrOf Tryz.prog 154 = some (2, 90) := by kernel_rfl
@[go_sem] theorem fk_154 : fieldsKnown Tryz.prog 154 = true := by kernel_rfl
@[go_sem] theorem fd_154_0 : fieldOf Tryz.prog 154 0 = none := by kernel_rfl
@[go_sem] theorem fd_154_1 : fieldOf Tryz.prog 154 1 = none := by kernel_rfl
@[go_sem] theorem ze_154 : zeros Tryz.prog 154 = some [.sc (.int .i64 0), .sc (.int .i64 0), .sc (.int .i64 0), .sc (.int .i64 0), .sc (.int .i64 0), .sc (.int .i64 0), .sc (.int .i64 0), .sc (.int .i64 0)] := by kernel_rfl
@[go_sem] theorem by_154 : bytesOf Tryz.prog 154 = 64 := by kernel_rfl
@[go_sem] theorem sz_156 : szOf Tryz.prog 156 = 4 := by kernel_rfl
@[go_sem] theorem kn_156 : knownT Tryz.prog 156 = true := by kernel_rfl
@[go_sem] theorem ag_156 : aggOf Tryz.prog 156 = true := by kernel_rfl
@[go_sem] theorem us_156 : (Tryz.prog.underlying 156).isSome = true := by kernel_rfl
@[go_sem] theorem fd_156_0 : fieldOf Tryz.prog 156 0 = some (0, 3) := by kernel_rfl
@[go_sem] theorem fd_156_1 : fieldOf Tryz.prog 156 1 = some (1, 3) := by kernel_rfl
@[go_sem] theorem fd_156_2 : fieldOf Tryz.prog 156 2 = some (2, 3) := by kernel_rfl
@[go_sem] theorem fd_156_3 : fieldOf Tryz.prog 156 3 = some (3, 3) := by kernel_rfl
@[go_sem] theorem el_156 : Go.PA.elemOf Tryz.prog 156 = none := by kernel_rfl
@[go_sem] theorem ar_156 : arrOf Tryz.prog 156 = none := by kernel_rfl
@[go_sem] theorem fk_156 : fieldsKnown Tryz.prog 156 = true := by kernel_rfl
@[go_sem] theorem sg_156 : sigOf Tryz.prog 156 = some [.int, .int, .int, .int] := by kernel_rfl
@[go_sem] theorem ze_156 : zeros Tryz.prog 156 = some [.sc (.int .i64 0), .sc (.int .i64 0), .sc (.int .i64 0), .sc (.int .i64 0)] := by kernel_rfl
@[go_sem] theorem by_156 : bytesOf Tryz.prog 156 = 32 := by kernel_rfl
@[go_sem] theorem sz_157 : szOf Tryz.prog 157 = 4 := by kernel_rfl
@[go_sem] theorem kn_157 : knownT Tryz.prog 157 = true := by kernel_rfl
@[go_sem] theorem ag_157 : aggOf Tryz.prog 157 = true := by kernel_rfl
@[go_sem] theorem us_157 : (Tryz.prog.underlying 157).isSome = true := by kernel_rfl
@[go_sem] theorem fd_157_0 : fieldOf Tryz.prog 157 0 = some (0, 3) := by kernel_rfl
@[go_sem] theorem fd_157_1 : fieldOf Tryz.prog 157 1 = some (1, 3) := by kernel_rfl
@[go_sem] theorem fd_157_2 : fieldOf Tryz.prog 157 2 = some (2, 3) := by kernel_rfl
@[go_sem] theorem fd_157_3 : fieldOf Tryz.prog 157 3 = some (3, 3) := by kernel_rfl
@[go_sem] theorem el_157 : Go.PA.elemOf Tryz.prog 157 = none := by kernel_rfl
@[go_sem] theorem ar_157 : arrOf Tryz.prog 157 = none := by kernel_rfl
@[go_sem] theorem fk_157 : fieldsKnown Tryz.prog 157 = true := by kernel_rfl
@[go_sem] theorem sg_157 : sigOf Tryz.prog 157 = some [.int, .int, .int, .int] := by kernel_rfl
@[go_sem] theorem ze_157 : zeros Tryz.prog 157 = some [.sc (.int .i64 0), .sc (.int .i64 0), .sc (.int .i64 0), .sc (.int .i64 0)] := by kernel_rfl
@[go_sem] theorem by_157 : bytesOf Tryz.prog 157 = 32 := by kernel_rfl
@[go_sem] theorem sz_158 : szOf Tryz.prog 158 = 7 := by kernel_rfl
@[go_sem] theorem kn_158 : knownT Tryz.prog 158 = true := by kernel_rfl
@[go_sem] theorem ag_158 : aggOf Tryz.prog 158 = true := by kernel_rfl
@[go_sem] theorem us_158 : (Tryz.prog.underlying 158).isSome = true := by kernel_rfl
@[go_sem] theorem fd_158_0 : fieldOf Tryz.prog 158 0 = some (0, 3) := by kernel_rfl
@[go_sem] theorem fd_158_1 : fieldOf Tryz.prog 158 1 = some (1, 3) := by kernel_rfl
@[go_sem] theorem fd_158_2 : fieldOf Tryz.prog 158 2 = some (2, 3) := by kernel_rfl
@[go_sem] theorem fd_158_3 : fieldOf Tryz.prog 158 3 = some (3, 3) := by kernel_rfl
@[go_sem] theorem fd_158_4 : fieldOf Tryz.prog 158 4 = some (4, 3) := by kernel_rfl
@[go_sem] theorem fd_158_5 : fieldOf Tryz.prog 158 5 = some (5, 3) := by kernel_rfl
@[go_sem] theorem fd_158_6 : fieldOf Tryz.prog 158 6 = some (6, 4) := by kernel_rfl
@[go_sem] theorem el_158 : Go.PA.elemOf Tryz.prog 158 = none := by kernel_rfl
@[go_sem] theorem ar_158 : arrOf Tryz.prog 158 = none := by kernel_rfl
@[go_sem] theorem fk_158 : fieldsKnown Tryz.prog 158 = true := by kernel_rfl
@[go_sem] theorem sg_158 : sigOf Tryz.prog 158 = some [.int, .int, .int, .int, .int, .int, .bool] := by kernel_rfl
@[go_sem] theorem ze_158 : zeros Tryz.prog 158 = some [.sc (.int .i64 0), .sc (.int .i64 0), .sc (.int .i64 0), .sc (.int .i64 0), .sc (.int .i64 0), .sc (.int .i64 0), .sc (.bool false)] := by kernel_rfl
@[go_sem] theorem by_158 : bytesOf Tryz.prog 158 = 56 := by kernel_rfl
@[go_sem] theorem sz_159 : szOf Tryz.prog 159 = 7 := by kernel_rfl
@[go_sem] theorem kn_159 : knownT Tryz.prog 159 = true := by kernel_rfl
@[go_sem] theorem ag_159 : aggOf Tryz.prog 159 = true := by kernel_rfl
@[go_sem] theorem us_159 : (Tryz.prog.underlying 159).isSome = true := by kernel_rfl
@[go_sem] theorem fd_159_0 : fieldOf Tryz.prog 159 0 = some (0, 3) := by kernel_rfl
@[go_sem] theorem fd_159_1 : fieldOf Tryz.prog 159 1 = some (1, 3) := by kernel_rfl
@[go_sem] theorem fd_159_2 : fieldOf Tryz.prog 159 2 = some (2, 3) := by kernel_rfl
@[go_sem] theorem fd_159_3 : fieldOf Tryz.prog 159 3 = some (3, 3) := by kernel_rfl
@[go_sem] theorem fd_159_4 : fieldOf Tryz.prog 159 4 = some (4, 3) := by kernel_rfl
@[go_sem] theorem fd_159_5 : fieldOf Tryz.prog 159 5 = some (5, 3) := by kernel_rfl
@[go_sem] theorem fd_159_6 : fieldOf Tryz.prog 159 6 = some (6, 4) := by kernel_rfl
@[go_sem] theorem el_159 : Go.PA.elemOf Tryz.prog 159 = none := by kernel_rfl
@[go_sem] theorem ar_159 : arrOf Tryz.prog 159 = none := by kernel_rfl
@[go_sem] theorem fk_159 : fieldsKnown Tryz.prog 159 = true := by kernel_rfl
@[go_sem] theorem sg_159 : sigOf Tryz.prog 159 = some [.int, .int, .int, .int, .int, .int, .bool] := by kernel_rfl
@[go_sem] theorem ze_159 : zeros Tryz.prog 159 = some [.sc (.int .i64 0), .sc (.int .i64 0), .sc (.int .i64 0), .sc (.int .i64 0), .sc (.int .i64 0), .sc (.int .i64 0), .sc (.bool false)] := by kernel_rfl
@[go_sem] theorem by_159 : bytesOf Tryz.prog 159 = 56 := by kernel_rfl
@[go_sem] theorem sz_165 : szOf Tryz.prog 165 = 1 := by kernel_rfl
@[go_sem] theorem kn_165 : knownT Tryz.prog 165 = true := by kernel_rfl
@[go_sem] theorem ag_165 : aggOf Tryz.prog 165 = false := by kernel_rfl
@[go_sem] theorem us_165 : (Tryz.prog.underlying 165).isSome = true := by kernel_rfl
@[go_sem] theorem el_165 : Go.PA.elemOf Tryz.prog 165 = some 215 := by kernel_rfl
@[go_sem] theorem un_165 : Tryz.prog.underlying 165 = some (.slice 215) := by kernel_rfl
@[go_sem] theorem ze_165 : zeros Tryz.prog 165 = some [.nil] := by kernel_rfl
@[go_sem] theorem az_165 : azero1 Tryz.prog 165 = some (.nil) := by kernel_rfl
@[go_sem] theorem by_165 : bytesOf Tryz.prog 165 = 24 := by kernel_rfl
@[go_sem] theorem sz_175 : szOf Tryz.prog 175 = 1 := by kernel_rfl
@[go_sem] theorem kn_175 : knownT Tryz.prog 175 = true := by kernel_rfl
@[go_sem] theorem ag_175 : aggOf Tryz.prog 175 = false := by kernel_rfl
@[go_sem] theorem us_175 : (Tryz.prog.underlying 175).isSome = true := by kernel_rfl
@[go_sem] theorem el_175 : Go.PA.elemOf Tryz.prog 175 = some 9 := by kernel_rfl
@[go_sem] theorem un_175 : Tryz.prog.underlying 175 = some (.slice 9) := by kernel_rfl
@[go_sem] theorem ze_175 : zeros Tryz.prog 175 = some [.nil] := by kernel_rfl
@[go_sem] theorem az_175 : azero1 Tryz.prog 175 = some (.nil) := by kernel_rfl
@[go_sem] theorem by_175 : bytesOf Tryz.prog 175 = 24 := by kernel_rfl
@[go_sem] theorem sz_186 : szOf Tryz.prog 186 = 1 := by kernel_rfl
@[go_sem] theorem kn_186 : knownT Tryz.prog 186 = true := by kernel_rfl
@[go_sem] theorem ag_186 : aggOf Tryz.prog 186 = false := by kernel_rfl
@[go_sem] theorem us_186 : (Tryz.prog.underlying 186).isSome = true := by kernel_rfl
@[go_sem] theorem ze_186 : zeros Tryz.prog 186 = some [.sc (.pointer none)] := by kernel_rfl
@[go_sem] theorem by_186 : bytesOf Tryz.prog 186 = 8 := by kernel_rfl
@[go_sem] theorem sz_187 : szOf Tryz.prog 187 = 1 := by kernel_rfl
@[go_sem] theorem kn_187 : knownT Tryz.prog 187 = true := by kernel_rfl
@[go_sem] theorem ag_187 : aggOf Tryz.prog 187 = false := by kernel_rfl
@[go_sem] theorem us_187 : (Tryz.prog.underlying 187).isSome = true := by kernel_rfl
@[go_sem] theorem ze_187 : zeros Tryz.prog 187 = some [.sc (.pointer none)] := by kernel_rfl
@[go_sem] theorem by_187 : bytesOf Tryz.prog 187 = 8 := by kernel_rfl
@[go_sem] theorem sz_191 : szOf Tryz.prog 191 = 5 := by kernel_rfl
@[go_sem] theorem kn_191 : knownT Tryz.prog 191 = true := by kernel_rfl
@[go_sem] theorem ag_191 : aggOf Tryz.prog 191 = true := by kernel_rfl
@[go_sem] theorem us_191 : (Tryz.prog.underlying 191).isSome = true := by kernel_rfl
@[go_sem] theorem fd_191_0 : fieldOf Tryz.prog 191 0 = some (0, 3) := by kernel_rfl
@[go_sem] theorem fd_191_1 : fieldOf Tryz.prog 191 1 = some (1, 3) := by kernel_rfl
@[go_sem] theorem fd_191_2 : fieldOf Tryz.prog 191 2 = some (2, 3) := by kernel_rfl
@[go_sem] theorem fd_191_3 : fieldOf Tryz.prog 191 3 = some (3, 3) := by kernel_rfl
@[go_sem] theorem fd_191_4 : fieldOf Tryz.prog 191 4 = some (4, 3) := by kernel_rfl
@[go_sem] theorem el_191 : Go.PA.elemOf Tryz.prog 191 = none := by kernel_rfl
@[go_sem] theorem ar_191 : arrOf Tryz.prog 191 = none := by kernel_rfl
@[go_sem] theorem fk_191 : fieldsKnown Tryz.prog 191 = true := by kernel_rfl
@[go_sem] theorem sg_191 : sigOf Tryz.prog 191 = some [.int, .int, .int, .int, .int] := by kernel_rfl
@[go_sem] theorem ze_191 : zeros Tryz.prog 191 = some [.sc (.int .i64 0), .sc (.int .i64 0), .sc (.int .i64 0), .sc (.int .i64 0), .sc (.int .i64 0)] := by kernel_rfl
@[go_sem] theorem by_191 : bytesOf Tryz.prog 191 = 40 := by kernel_rfl
@[go_sem] theorem sz_192 : szOf Tryz.prog 192 = 5 := by kernel_rfl
@[go_sem] theorem kn_192 : knownT Tryz.prog 192 = true := by kernel_rfl
@[go_sem] theorem ag_192 : aggOf Tryz.prog 192 = true := by kernel_rfl
@[go_sem] theorem us_192 : (Tryz.prog.underlying 192).isSome = true := by kernel_rfl
@[go_sem] theorem fd_192_0 : fieldOf Tryz.prog 192 0 = some (0, 3) := by kernel_rfl
@[go_sem] theorem fd_192_1 : fieldOf Tryz.prog 192 1 = some (1, 3) := by kernel_rfl
@[go_sem] theorem fd_192_2 : fieldOf Tryz.prog 192 2 = some (2, 3) := by kernel_rfl
@[go_sem] theorem fd_192_3 : fieldOf Tryz.prog 192 3 = some (3, 3) := by kernel_rfl
@[go_sem] theorem fd_192_4 : fieldOf Tryz.prog 192 4 = some (4, 3) := by kernel_rfl
@[go_sem] theorem el_192 : Go.PA.elemOf Tryz.prog 192 = none := by kernel_rfl
@[go_sem] theorem ar_192 : arrOf Tryz.prog 192 = none := by kernel_rfl
@[go_sem] theorem fk_192 : fieldsKnown Tryz.prog 192 = true := by kernel_rfl
@[go_sem] theorem sg_192 : sigOf Tryz.prog 192 = some [.int, .int, .int, .int, .int] := by kernel_rfl
@[go_sem] theorem ze_192 : zeros Tryz.prog 192 = some [.sc (.int .i64 0), .sc (.int .i64 0), .sc (.int .i64 0), .sc (.int .i64 0), .sc (.int .i64 0)] := by kernel_rfl
@[go_sem] theorem by_192 : bytesOf Tryz.prog 192 = 40 := by kernel_rfl
@[go_sem] theorem sz_193 : szOf Tryz.prog 193 = 3 := by kernel_rfl
@[go_sem] theorem kn_193 : knownT Tryz.prog 193 = true := by kernel_rfl
@[go_sem] theorem ag_193 : aggOf Tryz.prog 193 = true := by kernel_rfl
@[go_sem] theorem us_193 : (Tryz.prog.underlying 193).isSome = true := by kernel_rfl
@[go_sem] theorem fd_193_0 : fieldOf Tryz.prog 193 0 = some (0, 3) := by kernel_rfl
@[go_sem] theorem fd_193_1 : fieldOf Tryz.prog 193 1 = some (1, 3) := by kernel_rfl
@[go_sem] theorem fd_193_2 : fieldOf Tryz.prog 193 2 = some (2, 97) := by kernel_rfl
@[go_sem] theorem el_193 : Go.PA.elemOf Tryz.prog 193 = none := by kernel_rfl
@[go_sem] theorem ar_193 : arrOf Tryz.prog 193 = none := by kernel_rfl
@[go_sem] theorem fk_193 : fieldsKnown Tryz.prog 193 = true := by kernel_rfl
@[go_sem] theorem ze_193 : zeros Tryz.prog 193 = some [.sc (.int .i64 0), .sc (.int .i64 0), .nil] := by kernel_rfl
@[go_sem] theorem by_193 : bytesOf Tryz.prog 193 = 40 := by kernel_rfl
@[go_sem] theorem sz_194 : szOf Tryz.prog 194 = 3 := by kernel_rfl
@[go_sem] theorem kn_194 : knownT Tryz.prog 194 = true := by kernel_rfl
@[go_sem] theorem ag_194 : aggOf Tryz.prog 194 = true := by kernel_rfl
@[go_sem] theorem us_194 : (Tryz.prog.underlying 194).isSome = true := by kernel_rfl
@[go_sem] theorem fd_194_0 : fieldOf Tryz.prog 194 0 = some (0, 3) := by kernel_rfl
@[go_sem] theorem fd_194_1 : fieldOf Tryz.prog 194 1 = some (1, 3) := by kernel_rfl
@[go_sem] theorem fd_194_2 : fieldOf Tryz.prog 194 2 = some (2, 97) := by kernel_rfl
@[go_sem] theorem el_194 : Go.PA.elemOf Tryz.prog 194 = none := by kernel_rfl
@[go_sem] theorem ar_194 : arrOf Tryz.prog 194 = none := by kernel_rfl
@[go_sem] theorem fk_194 : fieldsKnown Tryz.prog 194 = true := by kernel_rfl
@[go_sem] theorem ze_194 : zeros Tryz.prog 194 = some [.sc (.int .i64 0), .sc (.int .i64 0), .nil] := by kernel_rfl
@[go_sem] theorem by_194 : bytesOf Tryz.prog 194 = 40 := by kernel_rfl
@[go_sem] theorem sz_196 : szOf Tryz.prog 196 = 7 := by kernel_rfl
@[go_sem] theorem kn_196 : knownT Tryz.prog 196 = true := by kernel_rfl
@[go_sem] theorem ag_196 : aggOf Tryz.prog 196 = true := by kernel_rfl
@[go_sem] theorem us_196 : (Tryz.prog.underlying 196).isSome = true := by kernel_rfl
@[go_sem] theorem fd_196_0 : fieldOf Tryz.prog 196 0 = some (0, 192) := by kernel_rfl
@[go_sem] theorem fd_196_1 : fieldOf Tryz.prog 196 1 = some (5, 3) := by kernel_rfl
@[go_sem] theorem fd_196_2 : fieldOf Tryz.prog 196 2 = some (6, 3) := by kernel_rfl
@[go_sem] theorem el_196 : Go.PA.elemOf Tryz.prog 196 = none := by kernel_rfl
@[go_sem] theorem ar_196 : arrOf Tryz.prog 196 = none := by kernel_rfl
@[go_sem] theorem fk_196 : fieldsKnown Tryz.prog 196 = true := by kernel_rfl
@[go_sem] theorem sg_196 : sigOf Tryz.prog 196 = some [.int, .int, .int, .int, .int, .int, .int] := by kernel_rfl
@[go_sem] theorem ze_196 : zeros Tryz.prog 196 = some [.sc (.int .i64 0), .sc (.int .i64 0), .sc (.int .i64 0), .sc (.int .i64 0), .sc (.int .i64 0), .sc (.int .i64 0), .sc (.int .i64 0)] := by kernel_rfl
@[go_sem] theorem by_196 : bytesOf Tryz.prog 196 = 56 := by kernel_rfl
@[go_sem] theorem sz_197 : szOf Tryz.prog 197 = 7 := by kernel_rfl
@[go_sem] theorem kn_197 : knownT Tryz.prog 197 = true := by kernel_rfl
@[go_sem] theorem ag_197 : aggOf Tryz.prog 197 = true := by kernel_rfl
@[go_sem] theorem us_197 : (Tryz.prog.underlying 197).isSome = true := by kernel_rfl
@[go_sem] theorem fd_197_0 : fieldOf Tryz.prog 197 0 = some (0, 192) := by kernel_rfl
@[go_sem] theorem fd_197_1 : fieldOf Tryz.prog 197 1 = some (5, 3) := by kernel_rfl
@[go_sem] theorem fd_197_2 : fieldOf Tryz.prog 197 2 = some (6, 3) := by kernel_rfl
@[go_sem] theorem el_197 : Go.PA.elemOf Tryz.prog 197 = none := by kernel_rfl
@[go_sem] theorem ar_197 : arrOf Tryz.prog 197 = none := by kernel_rfl
@[go_sem] theorem fk_197 : fieldsKnown Tryz.prog 197 = true := by kernel_rfl
@[go_sem] theorem sg_197 : sigOf Tryz.prog 197 = some [.int, .int, .int, .int, .int, .int, .int] := by kernel_rfl
@[go_sem] theorem ze_197 : zeros Tryz.prog 197 = some [.sc (.int .i64 0), .sc (.int .i64 0), .sc (.int .i64 0), .sc (.int .i64 0), .sc (.int .i64 0), .sc (.int .i64 0), .sc (.int .i64 0)] := by kernel_rfl
@[go_sem] theorem by_197 : bytesOf Tryz.prog 197 = 56 := by kernel_rfl
@[go_sem] theorem sz_198 : szOf Tryz.prog 198 = 1 := by kernel_rfl
@[go_sem] theorem kn_198 : knownT Tryz.prog 198 = true := by kernel_rfl
@[go_sem] theorem ag_198 : aggOf Tryz.prog 198 = false := by kernel_rfl
@[go_sem] theorem us_198 : (Tryz.prog.underlying 198).isSome = true := by kernel_rfl
@[go_sem] theorem ze_198 : zeros Tryz.prog 198 = some [.sc (.pointer none)] := by kernel_rfl
@[go_sem] theorem by_198 : bytesOf Tryz.prog 198 = 8 := by kernel_rfl
@[go_sem] theorem sz_201 : szOf Tryz.prog 201 = 5 := by kernel_rfl
@[go_sem] theorem kn_201 : knownT Tryz.prog 201 = true := by kernel_rfl
@[go_sem] theorem ag_201 : aggOf Tryz.prog 201 = true := by kernel_rfl
@[go_sem] theorem us_201 : (Tryz.prog.underlying 201).isSome = true := by kernel_rfl
@[go_sem] theorem fd_201_0 : fieldOf Tryz.prog 201 0 = some (0, 3) := by kernel_rfl
@[go_sem] theorem fd_201_1 : fieldOf Tryz.prog 201 1 = some (1, 3) := by kernel_rfl
@[go_sem] theorem fd_201_2 : fieldOf Tryz.prog 201 2 = some (2, 3) := by kernel_rfl
@[go_sem] theorem fd_201_3 : fieldOf Tryz.prog 201 3 = some (3, 3) := by kernel_rfl
@[go_sem] theorem fd_201_4 : fieldOf Tryz.prog 201 4 = some (4, 3) := by kernel_rfl
@[go_sem] theorem el_201 : Go.PA.elemOf Tryz.prog 201 = none := by kernel_rfl
@[go_sem] theorem ar_201 : arrOf Tryz.prog 201 = none := by kernel_rfl
@[go_sem] theorem fk_201 : fieldsKnown Tryz.prog 201 = true := by kernel_rfl
@[go_sem] theorem sg_201 : sigOf Tryz.prog 201 = some [.int, .int, .int, .int, .int] := by kernel_rfl
@[go_sem] theorem ze_201 : zeros Tryz.prog 201 = some [.sc (.int .i64 0), .sc (.int .i64 0), .sc (.int .i64 0), .sc (.int .i64 0), .sc (.int .i64 0)] := by kernel_rfl
@[go_sem] theorem by_201 : bytesOf Tryz.prog 201 = 40 := by kernel_rfl
@[go_sem] theorem sz_202 : szOf Tryz.prog 202 = 5 := by kernel_rfl
@[go_sem] theorem kn_202 : knownT Tryz.prog 202 = true := by kernel_rfl
@[go_sem] theorem ag_202 : aggOf Tryz.prog 202 = true := by kernel_rfl
@[go_sem] theorem us_202 : (Tryz.prog.underlying 202).isSome = true := by kernel_rfl
@[go_sem] theorem fd_202_0 : fieldOf Tryz.prog 202 0 = some (0, 3) := by kernel_rfl
@[go_sem] theorem fd_202_1 : fieldOf Tryz.prog 202 1 = some (1, 3) := by kernel_rfl
@[go_sem] theorem fd_202_2 : fieldOf Tryz.prog 202 2 = some (2, 3) := by kernel_rfl
@[go_sem] theorem fd_202_3 : fieldOf Tryz.prog 202 3 = some (3, 3) := by kernel_rfl
@[go_sem] theorem fd_202_4 : fieldOf Tryz.prog 202 4 = some (4, 3) := by kernel_rfl
@[go_sem] theorem el_202 : Go.PA.elemOf Tryz.prog 202 = none := by kernel_rfl
@[go_sem] theorem ar_202 : arrOf Tryz.prog 202 = none := by kernel_rfl
@[go_sem] theorem fk_202 : fieldsKnown Tryz.prog 202 = true := by kernel_rfl
@[go_sem] theorem sg_202 : sigOf Tryz.prog 202 = some [.int, .int, .int, .int, .int] := by kernel_rfl
@[go_sem] theorem ze_202 : zeros Tryz.prog 202 = some [.sc (.int .i64 0), .sc (.int .i64 0), .sc (.int .i64 0), .sc (.int .i64 0), .sc (.int .i64 0)] := by kernel_rfl
@[go_sem] theorem by_202 : bytesOf Tryz.prog 202 = 40 := by kernel_rfl
@[go_sem] theorem sz_204 : szOf Tryz.prog 204 = 3 := by kernel_rfl
@[go_sem] theorem kn_204 : knownT Tryz.prog 204 = true := by kernel_rfl
@[go_sem] theorem ag_204 : aggOf Tryz.prog 204 = true := by kernel_rfl
@[go_sem] theorem us_204 : (Tryz.prog.underlying 204).isSome = true := by kernel_rfl
@[go_sem] theorem fd_204_0 : fieldOf Tryz.prog 204 0 = some (0, 3) := by kernel_rfl
@[go_sem] theorem fd_204_1 : fieldOf Tryz.prog 204 1 = some (1, 3) := by kernel_rfl
@[go_sem] theorem fd_204_2 : fieldOf Tryz.prog 204 2 = some (2, 3) := by kernel_rfl
@[go_sem] theorem el_204 : Go.PA.elemOf Tryz.prog 204 = none := by kernel_rfl
@[go_sem] theorem ar_204 : arrOf Tryz.prog 204 = none := by kernel_rfl
@[go_sem] theorem fk_204 : fieldsKnown Tryz.prog 204 = true := by kernel_rfl
@[go_sem] theorem sg_204 : sigOf Tryz.prog 204 = some [.int, .int, .int] := by kernel_rfl
@[go_sem] theorem ze_204 : zeros Tryz.prog 204 = some [.sc (.int .i64 0), .sc (.int .i64 0), .sc (.int .i64 0)] := by kernel_rfl
@[go_sem] theorem by_204 : bytesOf Tryz.prog 204 = 24 := by kernel_rfl
@[go_sem] theorem sz_205 : szOf Tryz.prog 205 = 3 := by kernel_rfl
@[go_sem] theorem kn_205 : knownT Tryz.prog 205 = true := by kernel_rfl
@[go_sem] theorem ag_205 : aggOf Tryz.prog 205 = true := by kernel_rfl
@[go_sem] theorem us_205 : (Tryz.prog.underlying 205).isSome = true := by kernel_rfl
@[go_sem] theorem fd_205_0 : fieldOf Tryz.prog 205 0 = some (0, 3) := by kernel_rfl
@[go_sem] theorem fd_205_1 : fieldOf Tryz.prog 205 1 = some (1, 3) := by kernel_rfl
@[go_sem] theorem fd_205_2 : fieldOf Tryz.prog 205 2 = some (2, 3) := by kernel_rfl
@[go_sem] theorem el_205 : Go.PA.elemOf Tryz.prog 205 = none := by kernel_rfl
@[go_sem] theorem ar_205 : arrOf Tryz.prog 205 = none := by kernel_rfl
@[go_sem] theorem fk_205 : fieldsKnown Tryz.prog 205 = true := by kernel_rfl
@[go_sem] theorem sg_205 : sigOf Tryz.prog 205 = some [.int, .int, .int] := by kernel_rfl
@[go_sem] theorem ze_205 : zeros Tryz.prog 205 = some [.sc (.int .i64 0), .sc (.int .i64 0), .sc (.int .i64 0)] := by kernel_rfl
@[go_sem] theorem by_205 : bytesOf Tryz.prog 205 = 24 := by kernel_rfl
@[go_sem] theorem sz_206 : szOf Tryz.prog 206 = 1 := by kernel_rfl
@[go_sem] theorem kn_206 : knownT Tryz.prog 206 = true := by kernel_rfl
@[go_sem] theorem ag_206 : aggOf Tryz.prog 206 = false := by kernel_rfl
@[go_sem] theorem us_206 : (Tryz.prog.underlying 206).isSome = true := by kernel_rfl
@[go_sem] theorem ze_206 : zeros Tryz.prog 206 = some [.sc (.pointer none)] := by kernel_rfl
@[go_sem] theorem by_206 : bytesOf Tryz.prog 206 = 8 := by kernel_rfl
@[go_sem] theorem sz_207 : szOf Tryz.prog 207 = 16 := by kernel_rfl
@[go_sem] theorem kn_207 : knownT Tryz.prog 207 = true := by kernel_rfl
@[go_sem] theorem ag_207 : aggOf Tryz.prog 207 = true := by kernel_rfl
@[go_sem] theorem us_207 : (Tryz.prog.underlying 207).isSome = true := by kernel_rfl
@[go_sem] theorem fd_207_0 : fieldOf Tryz.prog 207 0 = some (0, 114) := by kernel_rfl
@[go_sem] theorem fd_207_1 : fieldOf Tryz.prog 207 1 = some (15, 3) := by kernel_rfl
@[go_sem] theorem el_207 : Go.PA.elemOf Tryz.prog 207 = none := by kernel_rfl
@[go_sem] theorem ar_207 : arrOf Tryz.prog 207 = none := by kernel_rfl
@[go_sem] theorem fk_207 : fieldsKnown Tryz.prog 207 = true := by kernel_rfl
@[go_sem] theorem ze_207 : zeros Tryz.prog 207 = some [.sc (.int .i64 0), .nil, .nil, .nil, .nil, .nil, .nil, .nil, .nil, .nil, .nil, .nil, .nil, .nil, .nil, .sc (.int .i64 0)] := by kernel_rfl
@[go_sem] theorem by_207 : bytesOf Tryz.prog 207 = 352 := by kernel_rfl
@[go_sem] theorem sz_208 : szOf Tryz.prog 208 = 16 := by kernel_rfl
@[go_sem] theorem kn_208 : knownT Tryz.prog 208 = true := by kernel_rfl
@[go_sem] theorem ag_208 : aggOf Tryz.prog 208 = true := by kernel_rfl
@[go_sem] theorem us_208 : (Tryz.prog.underlying 208).isSome = true := by kernel_rfl
@[go_sem] theorem fd_208_0 : fieldOf Tryz.prog 208 0 = some (0, 114) := by kernel_rfl
@[go_sem] theorem fd_208_1 : fieldOf Tryz.prog 208 1 = some (15, 3) := by kernel_rfl
@[go_sem] theorem el_208 : Go.PA.elemOf Tryz.prog 208 = none := by kernel_rfl
@[go_sem] theorem ar_208 : arrOf Tryz.prog 208 = none := by kernel_rfl
@[go_sem] theorem fk_208 : fieldsKnown Tryz.prog 208 = true := by kernel_rfl
@[go_sem] theorem ze_208 : zeros Tryz.prog 208 = some [.sc (.int .i64 0), .nil, .nil, .nil, .nil, .nil, .nil, .nil, .nil, .nil, .nil, .nil, .nil, .nil, .nil, .sc (.int .i64 0)] := by kernel_rfl
@[go_sem] theorem by_208 : bytesOf Tryz.prog 208 = 352 := by kernel_rfl
@[go_sem] theorem sz_214 : szOf Tryz.prog 214 = 2 := by kernel_rfl
@[go_sem] theorem kn_214 : knownT Tryz.prog 214 = true := by kernel_rfl
@[go_sem] theorem ag_214 : aggOf Tryz.prog 214 = true := by kernel_rfl
@[go_sem] theorem us_214 : (Tryz.prog.underlying 214).isSome = true := by kernel_rfl
@[go_sem] theorem fd_214_0 : fieldOf Tryz.prog 214 0 = some (0, 3) := by kernel_rfl
@[go_sem] theorem fd_214_1 : fieldOf Tryz.prog 214 1 = some (1, 3) := by kernel_rfl
@[go_sem] theorem el_214 : Go.PA.elemOf Tryz.prog 214 = none := by kernel_rfl
@[go_sem] theorem ar_214 : arrOf Tryz.prog 214 = none := by kernel_rfl
@[go_sem] theorem fk_214 : fieldsKnown Tryz.prog 214 = true := by kernel_rfl
@[go_sem] theorem sg_214 : sigOf Tryz.prog 214 = some [.int, .int] := by kernel_rfl
@[go_sem] theorem ze_214 : zeros Tryz.prog 214 = some [.sc (.int .i64 0), .sc (.int .i64 0)] := by kernel_rfl
@[go_sem] theorem by_214 : bytesOf Tryz.prog 214 = 16 := by kernel_rfl
@[go_sem] theorem sz_215 : szOf Tryz.prog 215 = 2 := by kernel_rfl
@[go_sem] theorem kn_215 : knownT Tryz.prog 215 = true := by kernel_rfl
@[go_sem] theorem ag_215 : aggOf Tryz.prog 215 = true := by kernel_rfl
@[go_sem] theorem us_215 : (Tryz.prog.underlying 215).isSome = true := by kernel_rfl
@[go_sem] theorem fd_215_0 : fieldOf Tryz.prog 215 0 = some (0, 3) := by kernel_rfl
@[go_sem] theorem fd_215_1 : fieldOf Tryz.prog 215 1 = some (1, 3) := by kernel_rfl
@[go_sem] theorem el_215 : Go.PA.elemOf Tryz.prog 215 = none := by kernel_rfl
@[go_sem] theorem ar_215 : arrOf Tryz.prog 215 = none := by kernel_rfl
@[go_sem] theorem fk_215 : fieldsKnown Tryz.prog 215 = true := by kernel_rfl
@[go_sem] theorem sg_215 : sigOf Tryz.prog 215 = some [.int, .int] := by kernel_rfl
@[go_sem] theorem ze_215 : zeros Tryz.prog 215 = some [.sc (.int .i64 0), .sc (.int .i64 0)] := by kernel_rfl
@[go_sem] theorem by_215 : bytesOf Tryz.prog 215 = 16 := by kernel_rfl
@[go_sem] theorem sz_217 : szOf Tryz.prog 217 = 7 := by kernel_rfl
@[go_sem] theorem kn_217 : knownT Tryz.prog 217 = true := by kernel_rfl
@[go_sem] theorem ag_217 : aggOf Tryz.prog 217 = true := by kernel_rfl
@[go_sem] theorem us_217 : (Tryz.prog.underlying 217).isSome = true := by kernel_rfl
@[go_sem] theorem fd_217_0 : fieldOf Tryz.prog 217 0 = some (0, 3) := by kernel_rfl
@[go_sem] theorem fd_217_1 : fieldOf Tryz.prog 217 1 = some (1, 3) := by kernel_rfl
@[go_sem] theorem fd_217_2 : fieldOf Tryz.prog 217 2 = some (2, 3) := by kernel_rfl
@[go_sem] theorem fd_217_3 : fieldOf Tryz.prog 217 3 = some (3, 3) := by kernel_rfl
@[go_sem] theorem fd_217_4 : fieldOf Tryz.prog 217 4 = some (4, 3) := by kernel_rfl
@[go_sem] theorem fd_217_5 : fieldOf Tryz.prog 217 5 = some (5, 3) := by kernel_rfl
@[go_sem] theorem fd_217_6 : fieldOf Tryz.prog 217 6 = some (6, 3) := by kernel_rfl
@[go_sem] theorem el_217 : Go.PA.elemOf Tryz.prog 217 = none := by kernel_rfl
@[go_sem] theorem ar_217 : arrOf Tryz.prog 217 = none := by kernel_rfl
@[go_sem] theorem fk_217 : fieldsKnown Tryz.prog 217 = true := by kernel_rfl
@[go_sem] theorem sg_217 : sigOf Tryz.prog 217 = some [.int, .int, .int, .int, .int, .int, .int] := by kernel_rfl
@[go_sem] theorem ze_217 : zeros Tryz.prog 217 = some [.sc (.int .i64 0), .sc (.int .i64 0), .sc (.int .i64 0), .sc (.int .i64 0), .sc (.int .i64 0), .sc (.int .i64 0), .sc (.int .i64 0)] := by kernel_rfl
@[go_sem] theorem by_217 : bytesOf Tryz.prog 217 = 56 := by kernel_rfl
@[go_sem] theorem sz_218 : szOf Tryz.prog 218 = 7 := by kernel_rfl
@[go_sem] theorem kn_218 : knownT Tryz.prog 218 = true := by kernel_rfl
@[go_sem] theorem ag_218 : aggOf Tryz.prog 218 = true := by kernel_rfl
@[go_sem] theorem us_218 : (Tryz.prog.underlying 218).isSome = true := by kernel_rfl
@[go_sem] theorem fd_218_0 : fieldOf Tryz.prog 218 0 = some (0, 3) := by kernel_rfl
@[go_sem] theorem fd_218_1 : fieldOf Tryz.prog 218 1 = some (1, 3) := by kernel_rfl
@[go_sem] theorem fd_218_2 : fieldOf Tryz.prog 218 2 = some (2, 3) := by kernel_rfl
@[go_sem] theorem fd_218_3 : fieldOf Tryz.prog 218 3 = some (3, 3) := by kernel_rfl
@[go_sem] theorem fd_218_4 : fieldOf Tryz.prog 218 4 = some (4, 3) := by kernel_rfl
@[go_sem] theorem fd_218_5 : fieldOf Tryz.prog 218 5 = some (5, 3) := by kernel_rfl
@[go_sem] theorem fd_218_6 : fieldOf Tryz.prog 218 6 = some (6, 3) := by kernel_rfl
@[go_sem] theorem el_218 : Go.PA.elemOf Tryz.prog 218 = none := by kernel_rfl
@[go_sem] theorem ar_218 : arrOf Tryz.prog 218 = none := by kernel_rfl
@[go_sem] theorem fk_218 : fieldsKnown Tryz.prog 218 = true := by kernel_rfl
@[go_sem] theorem sg_218 : sigOf Tryz.prog 218 = some [.int, .int, .int, .int, .int, .int, .int] := by kernel_rfl
@[go_sem] theorem ze_218 : zeros Tryz.prog 218 = some [.sc (.int .i64 0), .sc (.int .i64 0), .sc (.int .i64 0), .sc (.int .i64 0), .sc (.int .i64 0), .sc (.int .i64 0), .sc (.int .i64 0)] := by kernel_rfl
@[go_sem] theorem by_218 : bytesOf Tryz.prog 218 = 56 := by kernel_rfl
@[go_sem] theorem sz_229 : szOf Tryz.prog 229 = 2 := by kernel_rfl
@[go_sem] theorem kn_229 : knownT Tryz.prog 229 = true := by kernel_rfl
@[go_sem] theorem ag_229 : aggOf Tryz.prog 229 = true := by kernel_rfl
@[go_sem] theorem us_229 : (Tryz.prog.underlying 229).isSome = true := by kernel_rfl
@[go_sem] theorem el_229 : Go.PA.elemOf Tryz.prog 229 = none := by kernel_rfl
@[go_sem] theorem ar_229 : arrOf Tryz.prog 229 = some (2, 3) := by kernel_rfl
@[go_sem] theorem fk_229 : fieldsKnown Tryz.prog 229 = true := by kernel_rfl
@[go_sem] theorem fd_229_0 : fieldOf Tryz.prog 229 0 = none := by kernel_rfl
@[go_sem] theorem fd_229_1 : fieldOf Tryz.prog 229 1 = none := by kernel_rfl
@[go_sem] theorem ze_229 : zeros Tryz.prog 229 = some [.sc (.int .i64 0), .sc (.int .i64 0)] := by kernel_rfl
@[go_sem] theorem by_229 : bytesOf Tryz.prog 229 = 16 := by kernel_rfl
@[go_sem] theorem sz_230 : szOf Tryz.prog 230 = 6 := by kernel_rfl
@[go_sem] theorem kn_230 : knownT Tryz.prog 230 = true := by kernel_rfl
@[go_sem] theorem ag_230 : aggOf Tryz.prog 230 = true := by kernel_rfl
@[go_sem] theorem us_230 : (Tryz.prog.underlying 230).isSome = true := by kernel_rfl
@[go_sem] theorem el_230 : Go.PA.elemOf Tryz.prog 230 = none := by kernel_rfl
@[go_sem] theorem ar_230 : arrOf Tryz.prog 230 = some (3, 229) := by kernel_rfl
@[go_sem] theorem fk_230 : fieldsKnown Tryz.prog 230 = true := by kernel_rfl
@[go_sem] theorem fd_230_0 : fieldOf Tryz.prog 230 0 = none := by kernel_rfl
@[go_sem] theorem fd_230_1 : fieldOf Tryz.prog 230 1 = none := by kernel_rfl
@[go_sem] theorem fd_230_2 : fieldOf Tryz.prog 230 2 = none := by kernel_rfl
@[go_sem] theorem ze_230 : zeros Tryz.prog 230 = some [.sc (.int .i64 0), .sc (.int .i64 0), .sc (.int .i64 0), .sc (.int .i64 0), .sc (.int .i64 0), .sc (.int .i64 0)] := by kernel_rfl
@[go_sem] theorem by_230 : bytesOf Tryz.prog 230 = 48 := by kernel_rfl
@[go_sem] theorem sz_234 : szOf Tryz.prog 234 = 1 := by kernel_rfl
@[go_sem] theorem kn_234 : knownT Tryz.prog 234 = true := by kernel_rfl
@[go_sem] theorem ag_234 : aggOf Tryz.prog 234 = false := by kernel_rfl
@[go_sem] theorem us_234 : (Tryz.prog.underlying 234).isSome = true := by kernel_rfl
@[go_sem] theorem un_234 : Tryz.prog.underlying 234 = some (.int .u64) := by kernel_rfl
@[go_sem] theorem ze_234 : zeros Tryz.prog 234 = some [.sc (.int .u64 0)] := by kernel_rfl
@[go_sem] theorem az_234 : azero1 Tryz.prog 234 = some (.sc (.int .u64 0)) := by kernel_rfl
@[go_sem] theorem by_234 : bytesOf Tryz.prog 234 = 8 := by kernel_rfl
@[go_sem] theorem sz_235 : szOf Tryz.prog 235 = 1 := by kernel_rfl
@[go_sem] theorem kn_235 : knownT Tryz.prog 235 = true := by kernel_rfl
@[go_sem] theorem ag_235 : aggOf Tryz.prog 235 = false := by kernel_rfl
@[go_sem] theorem us_235 : (Tryz.prog.underlying 235).isSome = true := by kernel_rfl
@[go_sem] theorem ze_235 : zeros Tryz.prog 235 = some [.sc (.pointer none)] := by kernel_rfl
@[go_sem] theorem by_235 : bytesOf Tryz.prog 235 = 8 := by kernel_rfl
@[go_sem] theorem sz_239 : szOf Tryz.prog 239 = 3 := by kernel_rfl
@[go_sem] theorem kn_239 : knownT Tryz.prog 239 = true := by kernel_rfl
@[go_sem] theorem ag_239 : aggOf Tryz.prog 239 = true := by kernel_rfl
@[go_sem] theorem us_239 : (Tryz.prog.underlying 239).isSome = true := by kernel_rfl
@[go_sem] theorem fd_239_0 : fieldOf Tryz.prog 239 0 = some (0, 3) := by kernel_rfl
@[go_sem] theorem fd_239_1 : fieldOf Tryz.prog 239 1 = some (1, 3) := by kernel_rfl
@[go_sem] theorem fd_239_2 : fieldOf Tryz.prog 239 2 = some (2, 3) := by kernel_rfl
@[go_sem] theorem el_239 : Go.PA.elemOf Tryz.prog 239 = none := by kernel_rfl
@[go_sem] theorem ar_239 : arrOf Tryz.prog 239 = none := by kernel_rfl
@[go_sem] theorem fk_239 : fieldsKnown Tryz.prog 239 = true := by kernel_rfl
@[go_sem] theorem sg_239 : sigOf Tryz.prog 239 = some [.int, .int, .int] := by kernel_rfl
@[go_sem] theorem ze_239 : zeros Tryz.prog 239 = some [.sc (.int .i64 0), .sc (.int .i64 0), .sc (.int .i64 0)] := by kernel_rfl
@[go_sem] theorem by_239 : bytesOf Tryz.prog 239 = 24 := by kernel_rfl
@[go_sem] theorem sz_240 : szOf Tryz.prog 240 = 3 := by kernel_rfl
@[go_sem] theorem kn_240 : knownT Tryz.prog 240 = true := by kernel_rfl
@[go_sem] theorem ag_240 : aggOf Tryz.prog 240 = true := by kernel_rfl
@[go_sem] theorem us_240 : (Tryz.prog.underlying 240).isSome = true := by kernel_rfl
@[go_sem] theorem fd_240_0 : fieldOf Tryz.prog 240 0 = some (0, 3) := by kernel_rfl
@[go_sem] theorem fd_240_1 : fieldOf Tryz.prog 240 1 = some (1, 3) := by kernel_rfl
@[go_sem] theorem fd_240_2 : fieldOf Tryz.prog 240 2 = some (2, 3) := by kernel_rfl
@[go_sem] theorem el_240 : Go.PA.elemOf Tryz.prog 240 = none := by kernel_rfl
@[go_sem] theorem ar_240 : arrOf Tryz.prog 240 = none := by kernel_rfl
@[go_sem] theorem fk_240 : fieldsKnown Tryz.prog 240 = true := by kernel_rfl
@[go_sem] theorem sg_240 : sigOf Tryz.prog 240 = some [.int, .int, .int] := by kernel_rfl
@[go_sem] theorem ze_240 : zeros Tryz.prog 240 = some [.sc (.int .i64 0), .sc (.int .i64 0), .sc (.int .i64 0)] := by kernel_rfl
@[go_sem] theorem by_240 : bytesOf Tryz.prog 240 = 24 := by kernel_rfl
@[go_sem] theorem sz_241 : szOf Tryz.prog 241 = 4 := by kernel_rfl
@[go_sem] theorem kn_241 : knownT Tryz.prog 241 = true := by kernel_rfl
@[go_sem] theorem ag_241 : aggOf Tryz.prog 241 = true := by kernel_rfl
@[go_sem] theorem us_241 : (Tryz.prog.underlying 241).isSome = true := by kernel_rfl
@[go_sem] theorem fd_241_0 : fieldOf Tryz.prog 241 0 = some (0, 108) := by kernel_rfl
@[go_sem] theorem fd_241_1 : fieldOf Tryz.prog 241 1 = some (1, 109) := by kernel_rfl
@[go_sem] theorem fd_241_2 : fieldOf Tryz.prog 241 2 = some (2, 3) := by kernel_rfl
@[go_sem] theorem fd_241_3 : fieldOf Tryz.prog 241 3 = some (3, 3) := by kernel_rfl
@[go_sem] theorem el_241 : Go.PA.elemOf Tryz.prog 241 = none := by kernel_rfl
@[go_sem] theorem ar_241 : arrOf Tryz.prog 241 = none := by kernel_rfl
@[go_sem] theorem fk_241 : fieldsKnown Tryz.prog 241 = true := by kernel_rfl
@[go_sem] theorem ze_241 : zeros Tryz.prog 241 = some [.nil, .nil, .sc (.int .i64 0), .sc (.int .i64 0)] := by kernel_rfl
@[go_sem] theorem by_241 : bytesOf Tryz.prog 241 = 64 := by kernel_rfl
@[go_sem] theorem sz_242 : szOf Tryz.prog 242 = 4 := by kernel_rfl
@[go_sem] theorem kn_242 : knownT Tryz.prog 242 = true := by kernel_rfl
@[go_sem] theorem ag_242 : aggOf Tryz.prog 242 = true := by kernel_rfl
@[go_sem] theorem us_242 : (Tryz.prog.underlying 242).isSome = true := by kernel_rfl
@[go_sem] theorem fd_242_0 : fieldOf Tryz.prog 242 0 = some (0, 108) := by kernel_rfl
@[go_sem] theorem fd_242_1 : fieldOf Tryz.prog 242 1 = some (1, 109) := by kernel_rfl
@[go_sem] theorem fd_242_2 : fieldOf Tryz.prog 242 2 = some (2, 3) := by kernel_rfl
@[go_sem] theorem fd_242_3 : fieldOf Tryz.prog 242 3 = some (3, 3) := by kernel_rfl
@[go_sem] theorem el_242 : Go.PA.elemOf Tryz.prog 242 = none := by kernel_rfl
@[go_sem] theorem ar_242 : arrOf Tryz.prog 242 = none := by kernel_rfl
@[go_sem] theorem fk_242 : fieldsKnown Tryz.prog 242 = true := by kernel_rfl
@[go_sem] theorem ze_242 : zeros Tryz.prog 242 = some [.nil, .nil, .sc (.int .i64 0), .sc (.int .i64 0)] := by kernel_rfl
@[go_sem] theorem by_242 : bytesOf Tryz.prog 242 = 64 := by kernel_rfl
@[go_sem] theorem sz_257 : szOf Tryz.prog 257 = 2 := by kernel_rfl
@[go_sem] theorem kn_257 : knownT Tryz.prog 257 = true := by kernel_rfl
@[go_sem] theorem ag_257 : aggOf Tryz.prog 257 = true := by kernel_rfl
@[go_sem] theorem us_257 : (Tryz.prog.underlying 257).isSome = true := by kernel_rfl
@[go_sem] theorem fd_257_0 : fieldOf Tryz.prog 257 0 = some (0, 3) := by kernel_rfl
@[go_sem] theorem fd_257_1 : fieldOf Tryz.prog 257 1 = some (1, 38) := by kernel_rfl
@[go_sem] theorem el_257 : Go.PA.elemOf Tryz.prog 257 = none := by kernel_rfl
@[go_sem] theorem ar_257 : arrOf Tryz.prog 257 = none := by kernel_rfl
@[go_sem] theorem fk_257 : fieldsKnown Tryz.prog 257 = true := by kernel_rfl
@[go_sem] theorem sg_257 : sigOf Tryz.prog 257 = some [.int, .int] := by kernel_rfl
@[go_sem] theorem ze_257 : zeros Tryz.prog 257 = some [.sc (.int .i64 0), .sc (.int .i64 0)] := by kernel_rfl
@[go_sem] theorem by_257 : bytesOf Tryz.prog 257 = 16 := by kernel_rfl
@[go_sem] theorem sz_260 : szOf Tryz.prog 260 = 1 := by kernel_rfl
@[go_sem] theorem kn_260 : knownT Tryz.prog 260 = true := by kernel_rfl
@[go_sem] theorem ag_260 : aggOf Tryz.prog 260 = false := by kernel_rfl
@[go_sem] theorem us_260 : (Tryz.prog.underlying 260).isSome = true := by kernel_rfl
@[go_sem] theorem el_260 : Go.PA.elemOf Tryz.prog 260 = some 257 := by kernel_rfl
@[go_sem] theorem un_260 : Tryz.prog.underlying 260 = some (.slice 257) := by kernel_rfl
@[go_sem] theorem ze_260 : zeros Tryz.prog 260 = some [.nil] := by kernel_rfl
@[go_sem] theorem az_260 : azero1 Tryz.prog 260 = some (.nil) := by kernel_rfl
@[go_sem] theorem by_260 : bytesOf Tryz.prog 260 = 24 := by kernel_rfl
@[go_sem] theorem sz_264 : szOf Tryz.prog 264 = 1 := by kernel_rfl
@[go_sem] theorem kn_264 : knownT Tryz.prog 264 = true := by kernel_rfl
@[go_sem] theorem ag_264 : aggOf Tryz.prog 264 = false := by kernel_rfl
@[go_sem] theorem us_264 : (Tryz.prog.underlying 264).isSome = true := by kernel_rfl
@[go_sem] theorem ze_264 : zeros Tryz.prog 264 = some [.sc (.pointer none)] := by kernel_rfl
@[go_sem] theorem by_264 : bytesOf Tryz.prog 264 = 8 := by kernel_rfl
@[go_sem] theorem sz_268 : szOf Tryz.prog 268 = 1 := by kernel_rfl
@[go_sem] theorem kn_268 : knownT Tryz.prog 268 = true := by kernel_rfl
@[go_sem] theorem ag_268 : aggOf Tryz.prog 268 = false := by kernel_rfl
@[go_sem] theorem us_268 : (Tryz.prog.underlying 268).isSome = true := by kernel_rfl
@[go_sem] theorem un_268 : Tryz.prog.underlying 268 = some (.int .i64) := by kernel_rfl
@[go_sem] theorem ze_268 : zeros Tryz.prog 268 = some [.sc (.int .i64 0)] := by kernel_rfl
@[go_sem] theorem az_268 : azero1 Tryz.prog 268 = some (.sc (.int .i64 0)) := by kernel_rfl
@[go_sem] theorem by_268 : bytesOf Tryz.prog 268 = 8 := by kernel_rfl
@[go_sem] theorem sz_275 : szOf Tryz.prog 275 = 1 := by kernel_rfl
@[go_sem] theorem kn_275 : knownT Tryz.prog 275 = true := by kernel_rfl
@[go_sem] theorem ag_275 : aggOf Tryz.prog 275 = false := by kernel_rfl
@[go_sem] theorem us_275 : (Tryz.prog.underlying 275).isSome = true := by kernel_rfl
@[go_sem] theorem un_275 : Tryz.prog.underlying 275 = some (.int .u32) := by kernel_rfl
@[go_sem] theorem ze_275 : zeros Tryz.prog 275 = some [.sc (.int .u32 0)] := by kernel_rfl
@[go_sem] theorem az_275 : azero1 Tryz.prog 275 = some (.sc (.int .u32 0)) := by kernel_rfl
@[go_sem] theorem by_275 : bytesOf Tryz.prog 275 = 4 := by kernel_rfl
@[go_sem] theorem sz_277 : szOf Tryz.prog 277 = 1 := by kernel_rfl
@[go_sem] theorem kn_277 : knownT Tryz.prog 277 = true := by kernel_rfl
@[go_sem] theorem ag_277 : aggOf Tryz.prog 277 = false := by kernel_rfl
@[go_sem] theorem us_277 : (Tryz.prog.underlying 277).isSome = true := by kernel_rfl
@[go_sem] theorem un_277 : Tryz.prog.underlying 277 = some (.int .u64) := by kernel_rfl
@[go_sem] theorem ze_277 : zeros Tryz.prog 277 = some [.sc (.int .u64 0)] := by kernel_rfl
@[go_sem] theorem az_277 : azero1 Tryz.prog 277 = some (.sc (.int .u64 0)) := by kernel_rfl
@[go_sem] theorem by_277 : bytesOf Tryz.prog 277 = 8 := by kernel_rfl
@[go_sem] theorem sz_292 : szOf Tryz.prog 292 = 1 := by kernel_rfl
@[go_sem] theorem kn_292 : knownT Tryz.prog 292 = true := by kernel_rfl
@[go_sem] theorem ag_292 : aggOf Tryz.prog 292 = false := by kernel_rfl
@[go_sem] theorem us_292 : (Tryz.prog.underlying 292).isSome = true := by kernel_rfl
@[go_sem] theorem ze_292 : zeros Tryz.prog 292 = some [.sc (.pointer none)] := by kernel_rfl
@[go_sem] theorem by_292 : bytesOf Tryz.prog 292 = 8 := by kernel_rfl
@[go_sem] theorem sz_293 : szOf Tryz.prog 293 = 1 := by kernel_rfl
@[go_sem] theorem kn_293 : knownT Tryz.prog 293 = true := by kernel_rfl
@[go_sem] theorem ag_293 : aggOf Tryz.prog 293 = false := by kernel_rfl
@[go_sem] theorem us_293 : (Tryz.prog.underlying 293).isSome = true := by kernel_rfl
@[go_sem] theorem ze_293 : zeros Tryz.prog 293 = some [.sc (.pointer none)] := by kernel_rfl
@[go_sem] theorem by_293 : bytesOf Tryz.prog 293 = 8 := by kernel_rfl
@[go_sem] theorem sz_314 : szOf Tryz.prog 314 = 1 := by kernel_rfl
@[go_sem] theorem kn_314 : knownT Tryz.prog 314 = true := by kernel_rfl
@[go_sem] theorem ag_314 : aggOf Tryz.prog 314 = false := by kernel_rfl
@[go_sem] theorem us_314 : (Tryz.prog.underlying 314).isSome = true := by kernel_rfl
@[go_sem] theorem un_314 : Tryz.prog.underlying 314 = some (.int .u64) := by kernel_rfl
@[go_sem] theorem ze_314 : zeros Tryz.prog 314 = some [.sc (.int .u64 0)] := by kernel_rfl
@[go_sem] theorem az_314 : azero1 Tryz.prog 314 = some (.sc (.int .u64 0)) := by kernel_rfl
@[go_sem] theorem by_314 : bytesOf Tryz.prog 314 = 8 := by kernel_rfl
@[go_sem] theorem sz_318 : szOf Tryz.prog 318 = 1 := by kernel_rfl
@[go_sem] theorem kn_318 : knownT Tryz.prog 318 = true := by kernel_rfl
@[go_sem] theorem ag_318 : aggOf Tryz.prog 318 = false := by kernel_rfl
@[go_sem] theorem us_318 : (Tryz.prog.underlying 318).isSome = true := by kernel_rfl
@[go_sem] theorem ze_318 : zeros Tryz.prog 318 = some [.sc (.pointer none)] := by kernel_rfl
@[go_sem] theorem by_318 : bytesOf Tryz.prog 318 = 8 := by kernel_rfl
@[go_sem] theorem sz_349 : szOf Tryz.prog 349 = 1 := by kernel_rfl
@[go_sem] theorem kn_349 : knownT Tryz.prog 349 = true := by kernel_rfl
@[go_sem] theorem ag_349 : aggOf Tryz.prog 349 = false := by kernel_rfl
@[go_sem] theorem us_349 : (Tryz.prog.underlying 349).isSome = true := by kernel_rfl
@[go_sem] theorem ze_349 : zeros Tryz.prog 349 = some [.sc (.pointer none)] := by kernel_rfl
@[go_sem] theorem by_349 : bytesOf Tryz.prog 349 = 8 := by kernel_rfl
@[go_sem] theorem sz_354 : szOf Tryz.prog 354 = 2 := by kernel_rfl
@[go_sem] theorem kn_354 : knownT Tryz.prog 354 = true := by kernel_rfl
@[go_sem] theorem ag_354 : aggOf Tryz.prog 354 = true := by kernel_rfl
@[go_sem] theorem us_354 : (Tryz.prog.underlying 354).isSome = true := by kernel_rfl
@[go_sem] theorem fd_354_0 : fieldOf Tryz.prog 354 0 = some (0, 3) := by kernel_rfl
@[go_sem] theorem fd_354_1 : fieldOf Tryz.prog 354 1 = some (1, 3) := by kernel_rfl
@[go_sem] theorem el_354 : Go.PA.elemOf Tryz.prog 354 = none := by kernel_rfl
@[go_sem] theorem ar_354 : arrOf Tryz.prog 354 = none := by kernel_rfl
@[go_sem] theorem fk_354 : fieldsKnown Tryz.prog 354 = true := by kernel_rfl
@[go_sem] theorem sg_354 : sigOf Tryz.prog 354 = some [.int, .int] := by kernel_rfl
@[go_sem] theorem ze_354 : zeros Tryz.prog 354 = some [.sc (.int .i64 0), .sc (.int .i64 0)] := by kernel_rfl
@[go_sem] theorem by_354 : bytesOf Tryz.prog 354 = 16 := by kernel_rfl
@[go_sem] theorem sz_355 : szOf Tryz.prog 355 = 2 := by kernel_rfl
@[go_sem] theorem kn_355 : knownT Tryz.prog 355 = true := by kernel_rfl
@[go_sem] theorem ag_355 : aggOf Tryz.prog 355 = true := by kernel_rfl
@[go_sem] theorem us_355 : (Tryz.prog.underlying 355).isSome = true := by kernel_rfl
@[go_sem] theorem fd_355_0 : fieldOf Tryz.prog 355 0 = some (0, 3) := by kernel_rfl
@[go_sem] theorem fd_355_1 : fieldOf Tryz.prog 355 1 = some (1, 3) := by kernel_rfl
@[go_sem] theorem el_355 : Go.PA.elemOf Tryz.prog 355 = none := by kernel_rfl
@[go_sem] theorem ar_355 : arrOf Tryz.prog 355 = none := by kernel_rfl
@[go_sem] theorem fk_355 : fieldsKnown Tryz.prog 355 = true := by kernel_rfl
@[go_sem] theorem sg_355 : sigOf Tryz.prog 355 = some [.int, .int] := by kernel_rfl
@[go_sem] theorem ze_355 : zeros Tryz.prog 355 = some [.sc (.int .i64 0), .sc (.int .i64 0)] := by kernel_rfl
@[go_sem] theorem by_355 : bytesOf Tryz.prog 355 = 16 := by kernel_rfl
@[go_sem] theorem sz_366 : szOf Tryz.prog 366 = 1 := by kernel_rfl
@[go_sem] theorem kn_366 : knownT Tryz.prog 366 = true := by kernel_rfl
@[go_sem] theorem ag_366 : aggOf Tryz.prog 366 = false := by kernel_rfl
@[go_sem] theorem us_366 : (Tryz.prog.underlying 366).isSome = true := by kernel_rfl
@[go_sem] theorem mp_366 : mapOf Tryz.prog 366 = some (3, .int .i64, 4) := by kernel_rfl
@[go_sem] theorem mi_366 : IMap Tryz.prog 366 (.sc (.bool false)) := ⟨_, _, mp_366, by kernel_rfl⟩
@[go_sem] theorem im_366 : isMapT Tryz.prog 366 = true := by kernel_rfl
@[go_sem] theorem by_366 : bytesOf Tryz.prog 366 = 8 := by kernel_rfl
@[go_sem] theorem sz_368 : szOf Tryz.prog 368 = 3 := by kernel_rfl
@[go_sem] theorem kn_368 : knownT Tryz.prog 368 = true := by kernel_rfl
@[go_sem] theorem ag_368 : aggOf Tryz.prog 368 = true := by kernel_rfl
@[go_sem] theorem us_368 : (Tryz.prog.underlying 368).isSome = true := by kernel_rfl
@[go_sem] theorem fd_368_0 : fieldOf Tryz.prog 368 0 = some (0, 3) := by kernel_rfl
@[go_sem] theorem fd_368_1 : fieldOf Tryz.prog 368 1 = some (1, 3) := by kernel_rfl
@[go_sem] theorem fd_368_2 : fieldOf Tryz.prog 368 2 = some (2, 3) := by kernel_rfl
@[go_sem] theorem el_368 : Go.PA.elemOf Tryz.prog 368 = none := by kernel_rfl
@[go_sem] theorem ar_368 : arrOf Tryz.prog 368 = none := by kernel_rfl
@[go_sem] theorem fk_368 : fieldsKnown Tryz.prog 368 = true := by kernel_rfl
@[go_sem] theorem sg_368 : sigOf Tryz.prog 368 = some [.int, .int, .int] := by kernel_rfl
@[go_sem] theorem ze_368 : zeros Tryz.prog 368 = some [.sc (.int .i64 0), .sc (.int .i64 0), .sc (.int .i64 0)] := by kernel_rfl
@[go_sem] theorem by_368 : bytesOf Tryz.prog 368 = 24 := by kernel_rfl
@[go_sem] theorem sz_369 : szOf Tryz.prog 369 = 3 := by kernel_rfl
@[go_sem] theorem kn_369 : knownT Tryz.prog 369 = true := by kernel_rfl
@[go_sem] theorem ag_369 : aggOf Tryz.prog 369 = true := by kernel_rfl
@[go_sem] theorem us_369 : (Tryz.prog.underlying 369).isSome = true := by kernel_rfl
@[go_sem] theorem fd_369_0 : fieldOf Tryz.prog 369 0 = some (0, 3) := by kernel_rfl
@[go_sem] theorem fd_369_1 : fieldOf Tryz.prog 369 1 = some (1, 3) := by kernel_rfl
@[go_sem] theorem fd_369_2 : fieldOf Tryz.prog 369 2 = some (2, 3) := by kernel_rfl
@[go_sem] theorem el_369 : Go.PA.elemOf Tryz.prog 369 = none := by kernel_rfl
@[go_sem] theorem ar_369 : arrOf Tryz.prog 369 = none := by kernel_rfl
@[go_sem] theorem fk_369 : fieldsKnown Tryz.prog 369 = true := by kernel_rfl
@[go_sem] theorem sg_369 : sigOf Tryz.prog 369 = some [.int, .int, .int] := by kernel_rfl
@[go_sem] theorem ze_369 : zeros Tryz.prog 369 = some [.sc (.int .i64 0), .sc (.int .i64 0), .sc (.int .i64 0)] := by kernel_rfl
@[go_sem] theorem by_369 : bytesOf Tryz.prog 369 = 24 := by kernel_rfl
@[go_sem] theorem sz_377 : szOf Tryz.prog 377 = 1 := by kernel_rfl
@[go_sem] theorem kn_377 : knownT Tryz.prog 377 = true := by kernel_rfl
@[go_sem] theorem ag_377 : aggOf Tryz.prog 377 = false := by kernel_rfl
@[go_sem] theorem us_377 : (Tryz.prog.underlying 377).isSome = true := by kernel_rfl
@[go_sem] theorem el_377 : Go.PA.elemOf Tryz.prog 377 = some 5 := by kernel_rfl
@[go_sem] theorem un_377 : Tryz.prog.underlying 377 = some (.slice 5) := by kernel_rfl
@[go_sem] theorem ze_377 : zeros Tryz.prog 377 = some [.nil] := by kernel_rfl
@[go_sem] theorem az_377 : azero1 Tryz.prog 377 = some (.nil) := by kernel_rfl
@[go_sem] theorem by_377 : bytesOf Tryz.prog 377 = 24 := by kernel_rfl
@[go_sem] theorem sz_380 : szOf Tryz.prog 380 = 1 := by kernel_rfl
@[go_sem] theorem kn_380 : knownT Tryz.prog 380 = true := by kernel_rfl
@[go_sem] theorem ag_380 : aggOf Tryz.prog 380 = false := by kernel_rfl
@[go_sem] theorem us_380 : (Tryz.prog.underlying 380).isSome = true := by kernel_rfl
@[go_sem] theorem ze_380 : zeros Tryz.prog 380 = some [.sc (.pointer none)] := by kernel_rfl
@[go_sem] theorem by_380 : bytesOf Tryz.prog 380 = 8 := by kernel_rfl
@[go_sem] theorem sz_396 : szOf Tryz.prog 396 = 3 := by kernel_rfl
@[go_sem] theorem kn_396 : knownT Tryz.prog 396 = true := by kernel_rfl
@[go_sem] theorem ag_396 : aggOf Tryz.prog 396 = true := by kernel_rfl
@[go_sem] theorem us_396 : (Tryz.prog.underlying 396).isSome = true := by kernel_rfl
@[go_sem] theorem fd_396_0 : fieldOf Tryz.prog 396 0 = some (0, 9) := by kernel_rfl
@[go_sem] theorem fd_396_1 : fieldOf Tryz.prog 396 1 = some (1, 9) := by kernel_rfl
@[go_sem] theorem fd_396_2 : fieldOf Tryz.prog 396 2 = some (2, 310) := by kernel_rfl
@[go_sem] theorem el_396 : Go.PA.elemOf Tryz.prog 396 = none := by kernel_rfl
@[go_sem] theorem ar_396 : arrOf Tryz.prog 396 = none := by kernel_rfl
@[go_sem] theorem fk_396 : fieldsKnown Tryz.prog 396 = true := by kernel_rfl
@[go_sem] theorem by_396 : bytesOf Tryz.prog 396 = 48 := by kernel_rfl
@[go_sem] theorem sz_397 : szOf Tryz.prog 397 = 3 := by kernel_rfl
@[go_sem] theorem kn_397 : knownT Tryz.prog 397 = true := by kernel_rfl
@[go_sem] theorem ag_397 : aggOf Tryz.prog 397 = true := by kernel_rfl
@[go_sem] theorem us_397 : (Tryz.prog.underlying 397).isSome = true := by kernel_rfl
@[go_sem] theorem fd_397_0 : fieldOf Tryz.prog 397 0 = some (0, 9) := by kernel_rfl
@[go_sem] theorem fd_397_1 : fieldOf Tryz.prog 397 1 = some (1, 9) := by kernel_rfl
@[go_sem] theorem fd_397_2 : fieldOf Tryz.prog 397 2 = some (2, 310) := by kernel_rfl
@[go_sem] theorem el_397 : Go.PA.elemOf Tryz.prog 397 = none := by kernel_rfl
@[go_sem] theorem ar_397 : arrOf Tryz.prog 397 = none := by kernel_rfl
@[go_sem] theorem fk_397 : fieldsKnown Tryz.prog 397 = true := by kernel_rfl
@[go_sem] theorem by_397 : bytesOf Tryz.prog 397 = 48 := by kernel_rfl
@[go_sem] theorem sz_399 : szOf Tryz.prog 399 = 24 := by kernel_rfl
@[go_sem] theorem kn_399 : knownT Tryz.prog 399 = true := by kernel_rfl
@[go_sem] theorem ag_399 : aggOf Tryz.prog 399 = true := by kernel_rfl
@[go_sem] theorem us_399 : (Tryz.prog.underlying 399).isSome = true := by kernel_rfl
@[go_sem] theorem el_399 : Go.PA.elemOf Tryz.prog 399 = none := by kernel_rfl
@[go_sem] theorem ar_399 : arrOf Tryz.prog 399 = some (24, 5) := by kernel_rfl
@[go_sem] theorem fk_399 : fieldsKnown Tryz.prog 399 = true := by kernel_rfl
@[go_sem] theorem fd_399_0 : fieldOf Tryz.prog 399 0 = none := by kernel_rfl
@[go_sem] theorem fd_399_1 : fieldOf Tryz.prog 399 1 = none := by kernel_rfl
@[go_sem] theorem fd_399_2 : fieldOf Tryz.prog 399 2 = none := by kernel_rfl
@[go_sem] theorem fd_399_3 : fieldOf Tryz.prog 399 3 = none := by kernel_rfl
@[go_sem] theorem fd_399_4 : fieldOf Tryz.prog 399 4 = none := by kernel_rfl
@[go_sem] theorem fd_399_5 : fieldOf Tryz.prog 399 5 = none := by kernel_rfl
@[go_sem] theorem fd_399_6 : fieldOf Tryz.prog 399 6 = none := by kernel_rfl
@[go_sem] theorem fd_399_7 : fieldOf Tryz.prog 399 7 = none := by kernel_rfl
@[go_sem] theorem ze_399 : zeros Tryz.prog 399 = some [.sc (.int .u8 0), .sc (.int .u8 0), .sc (.int .u8 0), .sc (.int .u8 0), .sc (.int .u8 0), .sc (.int .u8 0), .sc (.int .u8 0), .sc (.int .u8 0), .sc (.int .u8 0), .sc (.int .u8 0), .sc (.int .u8 0), .sc (.int .u8 0), .sc (.int .u8 0), .sc (.int .u8 0), .sc (.int .u8 0), .sc (.int .u8 0), .sc (.int .u8 0), .sc (.int .u8 0), .sc (.int .u8 0), .sc (.int .u8 0), .sc (.int .u8 0), .sc (.int .u8 0), .sc (.int .u8 0), .sc (.int .u8 0)] := by kernel_rfl
@[go_sem] theorem by_399 : bytesOf Tryz.prog 399 = 24 := by kernel_rfl
@[go_sem] theorem sz_405 : szOf Tryz.prog 405 = 256 := by kernel_rfl
@[go_sem] theorem kn_405 : knownT Tryz.prog 405 = true := by kernel_rfl
@[go_sem] theorem ag_405 : aggOf Tryz.prog 405 = true := by kernel_rfl
@[go_sem] theorem us_405 : (Tryz.prog.underlying 405).isSome = true := by kernel_rfl
@[go_sem] theorem el_405 : Go.PA.elemOf Tryz.prog 405 = none := by kernel_rfl
@[go_sem] theorem ar_405 : arrOf Tryz.prog 405 = some (256, 5) := by kernel_rfl
@[go_sem] theorem fk_405 : fieldsKnown Tryz.prog 405 = true := by kernel_rfl
@[go_sem] theorem fd_405_0 : fieldOf Tryz.prog 405 0 = none := by kernel_rfl
@[go_sem] theorem fd_405_1 : fieldOf Tryz.prog 405 1 = none := by kernel_rfl
@[go_sem] theorem fd_405_2 : fieldOf Tryz.prog 405 2 = none := by kernel_rfl
@[go_sem] theorem fd_405_3 : fieldOf Tryz.prog 405 3 = none := by kernel_rfl
@[go_sem] theorem fd_405_4 : fieldOf Tryz.prog 405 4 = none := by kernel_rfl
@[go_sem] theorem fd_405_5 : fieldOf Tryz.prog 405 5 = none := by kernel_rfl
@[go_sem] theorem fd_405_6 : fieldOf Tryz.prog 405 6 = none := by kernel_rfl
@[go_sem] theorem fd_405_7 : fieldOf Tryz.prog 405 7 = none := by kernel_rfl
@[go_sem] theorem by_405 : bytesOf Tryz.prog 405 = 256 := by kernel_rfl
@[go_sem] theorem sz_406 : szOf Tryz.prog 406 = 2 := by kernel_rfl
@[go_sem] theorem kn_406 : knownT Tryz.prog 406 = true := by kernel_rfl
@[go_sem] theorem ag_406 : aggOf Tryz.prog 406 = true := by kernel_rfl
@[go_sem] theorem us_406 : (Tryz.prog.underlying 406).isSome = true := by kernel_rfl
@[go_sem] theorem fd_406_0 : fieldOf Tryz.prog 406 0 = some (0, 5) := by kernel_rfl
@[go_sem] theorem fd_406_1 : fieldOf Tryz.prog 406 1 = some (1, 5) := by kernel_rfl
@[go_sem] theorem el_406 : Go.PA.elemOf Tryz.prog 406 = none := by kernel_rfl
@[go_sem] theorem ar_406 : arrOf Tryz.prog 406 = none := by kernel_rfl
@[go_sem] theorem fk_406 : fieldsKnown Tryz.prog 406 = true := by kernel_rfl
@[go_sem] theorem sg_406 : sigOf Tryz.prog 406 = some [.int, .int] := by kernel_rfl
@[go_sem] theorem ze_406 : zeros Tryz.prog 406 = some [.sc (.int .u8 0), .sc (.int .u8 0)] := by kernel_rfl
@[go_sem] theorem by_406 : bytesOf Tryz.prog 406 = 2 := by kernel_rfl
@[go_sem] theorem sz_407 : szOf Tryz.prog 407 = 2 := by kernel_rfl
@[go_sem] theorem kn_407 : knownT Tryz.prog 407 = true := by kernel_rfl
@[go_sem] theorem ag_407 : aggOf Tryz.prog 407 = true := by kernel_rfl
@[go_sem] theorem us_407 : (Tryz.prog.underlying 407).isSome = true := by kernel_rfl
@[go_sem] theorem fd_407_0 : fieldOf Tryz.prog 407 0 = some (0, 5) := by kernel_rfl
@[go_sem] theorem fd_407_1 : fieldOf Tryz.prog 407 1 = some (1, 5) := by kernel_rfl
@[go_sem] theorem el_407 : Go.PA.elemOf Tryz.prog 407 = none := by kernel_rfl
@[go_sem] theorem ar_407 : arrOf Tryz.prog 407 = none := by kernel_rfl
@[go_sem] theorem fk_407 : fieldsKnown Tryz.prog 407 = true := by kernel_rfl
@[go_sem] theorem sg_407 : sigOf Tryz.prog 407 = some [.int, .int] := by kernel_rfl
@[go_sem] theorem ze_407 : zeros Tryz.prog 407 = some [.sc (.int .u8 0), .sc (.int .u8 0)] := by kernel_rfl
@[go_sem] theorem by_407 : bytesOf Tryz.prog 407 = 2 := by kernel_rfl
@[go_sem] theorem sz_408 : szOf Tryz.prog 408 = 32 := by kernel_rfl
@[go_sem] theorem kn_408 : knownT Tryz.prog 408 = true := by kernel_rfl
@[go_sem] theorem ag_408 : aggOf Tryz.prog 408 = true := by kernel_rfl
@[go_sem] theorem us_408 : (Tryz.prog.underlying 408).isSome = true := by kernel_rfl
@[go_sem] theorem el_408 : Go.PA.elemOf Tryz.prog 408 = none := by kernel_rfl
@[go_sem] theorem ar_408 : arrOf Tryz.prog 408 = some (16, 407) := by kernel_rfl
@[go_sem] theorem fk_408 : fieldsKnown Tryz.prog 408 = true := by kernel_rfl
@[go_sem] theorem fd_408_0 : fieldOf Tryz.prog 408 0 = none := by kernel_rfl
@[go_sem] theorem fd_408_1 : fieldOf Tryz.prog 408 1 = none := by kernel_rfl
@[go_sem] theorem fd_408_2 : fieldOf Tryz.prog 408 2 = none := by kernel_rfl
@[go_sem] theorem fd_408_3 : fieldOf Tryz.prog 408 3 = none := by kernel_rfl
@[go_sem] theorem fd_408_4 : fieldOf Tryz.prog 408 4 = none := by kernel_rfl
@[go_sem] theorem fd_408_5 : fieldOf Tryz.prog 408 5 = none := by kernel_rfl
@[go_sem] theorem fd_408_6 : fieldOf Tryz.prog 408 6 = none := by kernel_rfl
@[go_sem] theorem fd_408_7 : fieldOf Tryz.prog 408 7 = none := by kernel_rfl
@[go_sem] theorem ze_408 : zeros Tryz.prog 408 = some [.sc (.int .u8 0), .sc (.int .u8 0), .sc (.int .u8 0), .sc (.int .u8 0), .sc (.int .u8 0), .sc (.int .u8 0), .sc (.int .u8 0), .sc (.int .u8 0), .sc (.int .u8 0), .sc (.int .u8 0), .sc (.int .u8 0), .sc (.int .u8 0), .sc (.int .u8 0), .sc (.int .u8 0), .sc (.int .u8 0), .sc (.int .u8 0), .sc (.int .u8 0), .sc (.int .u8 0), .sc (.int .u8 0), .sc (.int .u8 0), .sc (.int .u8 0), .sc (.int .u8 0), .sc (.int .u8 0), .sc (.int .u8 0), .sc (.int .u8 0), .sc (.int .u8 0), .sc (.int .u8 0), .sc (.int .u8 0), .sc (.int .u8 0), .sc (.int .u8 0), .sc (.int .u8 0), .sc (.int .u8 0)] := by kernel_rfl
@[go_sem] theorem by_408 : bytesOf Tryz.prog 408 = 32 := by kernel_rfl
@[go_sem] theorem sz_411 : szOf Tryz.prog 411 = 1 := by kernel_rfl
@[go_sem] theorem kn_411 : knownT Tryz.prog 411 = true := by kernel_rfl
@[go_sem] theorem ag_411 : aggOf Tryz.prog 411 = false := by kernel_rfl
@[go_sem] theorem us_411 : (Tryz.prog.underlying 411).isSome = true := by kernel_rfl
@[go_sem] theorem ze_411 : zeros Tryz.prog 411 = some [.sc (.pointer none)] := by kernel_rfl
@[go_sem] theorem by_411 : bytesOf Tryz.prog 411 = 8 := by kernel_rfl
@[go_sem] theorem sz_412 : szOf Tryz.prog 412 = 1 := by kernel_rfl
@[go_sem] theorem kn_412 : knownT Tryz.prog 412 = true := by kernel_rfl
@[go_sem] theorem ag_412 : aggOf Tryz.prog 412 = false := by kernel_rfl
@[go_sem] theorem us_412 : (Tryz.prog.underlying 412).isSome = true := by kernel_rfl
@[go_sem] theorem ze_412 : zeros Tryz.prog 412 = some [.sc (.pointer none)] := by kernel_rfl
@[go_sem] theorem by_412 : bytesOf Tryz.prog 412 = 8 := by kernel_rfl
@[go_sem] theorem sz_413 : szOf Tryz.prog 413 = 1 := by kernel_rfl
@[go_sem] theorem kn_413 : knownT Tryz.prog 413 = true := by kernel_rfl
@[go_sem] theorem ag_413 : aggOf Tryz.prog 413 = true := by kernel_rfl
@[go_sem] theorem us_413 : (Tryz.prog.underlying 413).isSome = true := by kernel_rfl
@[go_sem] theorem fd_413_0 : fieldOf Tryz.prog 413 0 = some (0, 9) := by kernel_rfl
@[go_sem] theorem el_413 : Go.PA.elemOf Tryz.prog 413 = none := by kernel_rfl
@[go_sem] theorem ar_413 : arrOf Tryz.prog 413 = none := by kernel_rfl
@[go_sem] theorem fk_413 : fieldsKnown Tryz.prog 413 = true := by kernel_rfl
@[go_sem] theorem sg_413 : sigOf Tryz.prog 413 = some [.str] := by kernel_rfl
@[go_sem] theorem ze_413 : zeros Tryz.prog 413 = some [.sc (.string ByteArray.empty)] := by kernel_rfl
@[go_sem] theorem by_413 : bytesOf Tryz.prog 413 = 16 := by kernel_rfl
@[go_sem] theorem sz_414 : szOf Tryz.prog 414 = 1 := by kernel_rfl
@[go_sem] theorem kn_414 : knownT Tryz.prog 414 = true := by kernel_rfl
@[go_sem] theorem ag_414 : aggOf Tryz.prog 414 = true := by kernel_rfl
@[go_sem] theorem us_414 : (Tryz.prog.underlying 414).isSome = true := by kernel_rfl
@[go_sem] theorem fd_414_0 : fieldOf Tryz.prog 414 0 = some (0, 9) := by kernel_rfl
@[go_sem] theorem el_414 : Go.PA.elemOf Tryz.prog 414 = none := by kernel_rfl
@[go_sem] theorem ar_414 : arrOf Tryz.prog 414 = none := by kernel_rfl
@[go_sem] theorem fk_414 : fieldsKnown Tryz.prog 414 = true := by kernel_rfl
@[go_sem] theorem sg_414 : sigOf Tryz.prog 414 = some [.str] := by kernel_rfl
@[go_sem] theorem ze_414 : zeros Tryz.prog 414 = some [.sc (.string ByteArray.empty)] := by kernel_rfl
@[go_sem] theorem by_414 : bytesOf Tryz.prog 414 = 16 := by kernel_rfl
@[go_sem] theorem sz_416 : szOf Tryz.prog 416 = 20 := by kernel_rfl
@[go_sem] theorem kn_416 : knownT Tryz.prog 416 = true := by kernel_rfl
@[go_sem] theorem ag_416 : aggOf Tryz.prog 416 = true := by kernel_rfl
@[go_sem] theorem us_416 : (Tryz.prog.underlying 416).isSome = true := by kernel_rfl
@[go_sem] theorem el_416 : Go.PA.elemOf Tryz.prog 416 = none := by kernel_rfl
@[go_sem] theorem ar_416 : arrOf Tryz.prog 416 = some (20, 277) := by kernel_rfl
@[go_sem] theorem fk_416 : fieldsKnown Tryz.prog 416 = true := by kernel_rfl
@[go_sem] theorem fd_416_0 : fieldOf Tryz.prog 416 0 = none := by kernel_rfl
@[go_sem] theorem fd_416_1 : fieldOf Tryz.prog 416 1 = none := by kernel_rfl
@[go_sem] theorem fd_416_2 : fieldOf Tryz.prog 416 2 = none := by kernel_rfl
@[go_sem] theorem fd_416_3 : fieldOf Tryz.prog 416 3 = none := by kernel_rfl
@[go_sem] theorem fd_416_4 : fieldOf Tryz.prog 416 4 = none := by kernel_rfl
@[go_sem] theorem fd_416_5 : fieldOf Tryz.prog 416 5 = none := by kernel_rfl
@[go_sem] theorem fd_416_6 : fieldOf Tryz.prog 416 6 = none := by kernel_rfl
@[go_sem] theorem fd_416_7 : fieldOf Tryz.prog 416 7 = none := by kernel_rfl
@[go_sem] theorem ze_416 : zeros Tryz.prog 416 = some [.sc (.int .u64 0), .sc (.int .u64 0), .sc (.int .u64 0), .sc (.int .u64 0), .sc (.int .u64 0), .sc (.int .u64 0), .sc (.int .u64 0), .sc (.int .u64 0), .sc (.int .u64 0), .sc (.int .u64 0), .sc (.int .u64 0), .sc (.int .u64 0), .sc (.int .u64 0), .sc (.int .u64 0), .sc (.int .u64 0), .sc (.int .u64 0), .sc (.int .u64 0), .sc (.int .u64 0), .sc (.int .u64 0), .sc (.int .u64 0)] := by kernel_rfl
@[go_sem] theorem by_416 : bytesOf Tryz.prog 416 = 160 := by kernel_rfl
@[go_sem] theorem sz_417 : szOf Tryz.prog 417 = 65 := by kernel_rfl
@[go_sem] theorem kn_417 : knownT Tryz.prog 417 = true := by kernel_rfl
@[go_sem] theorem ag_417 : aggOf Tryz.prog 417 = true := by kernel_rfl
@[go_sem] theorem us_417 : (Tryz.prog.underlying 417).isSome = true := by kernel_rfl
@[go_sem] theorem el_417 : Go.PA.elemOf Tryz.prog 417 = none := by kernel_rfl
@[go_sem] theorem ar_417 : arrOf Tryz.prog 417 = some (65, 5) := by kernel_rfl
@[go_sem] theorem fk_417 : fieldsKnown Tryz.prog 417 = true := by kernel_rfl
@[go_sem] theorem fd_417_0 : fieldOf Tryz.prog 417 0 = none := by kernel_rfl
@[go_sem] theorem fd_417_1 : fieldOf Tryz.prog 417 1 = none := by kernel_rfl
@[go_sem] theorem fd_417_2 : fieldOf Tryz.prog 417 2 = none := by kernel_rfl
@[go_sem] theorem fd_417_3 : fieldOf Tryz.prog 417 3 = none := by kernel_rfl
@[go_sem] theorem fd_417_4 : fieldOf Tryz.prog 417 4 = none := by kernel_rfl
@[go_sem] theorem fd_417_5 : fieldOf Tryz.prog 417 5 = none := by kernel_rfl
@[go_sem] theorem fd_417_6 : fieldOf Tryz.prog 417 6 = none := by kernel_rfl
@[go_sem] theorem fd_417_7 : fieldOf Tryz.prog 417 7 = none := by kernel_rfl
@[go_sem] theorem by_417 : bytesOf Tryz.prog 417 = 65 := by kernel_rfl
@[go_sem] theorem sz_422 : szOf Tryz.prog 422 = 32 := by kernel_rfl
@[go_sem] theorem kn_422 : knownT Tryz.prog 422 = true := by kernel_rfl
@[go_sem] theorem ag_422 : aggOf Tryz.prog 422 = true := by kernel_rfl
@[go_sem] theorem us_422 : (Tryz.prog.underlying 422).isSome = true := by kernel_rfl
@[go_sem] theorem el_422 : Go.PA.elemOf Tryz.prog 422 = none := by kernel_rfl
@[go_sem] theorem ar_422 : arrOf Tryz.prog 422 = some (32, 5) := by kernel_rfl
@[go_sem] theorem fk_422 : fieldsKnown Tryz.prog 422 = true := by kernel_rfl
@[go_sem] theorem fd_422_0 : fieldOf Tryz.prog 422 0 = none := by kernel_rfl
@[go_sem] theorem fd_422_1 : fieldOf Tryz.prog 422 1 = none := by kernel_rfl
@[go_sem] theorem fd_422_2 : fieldOf Tryz.prog 422 2 = none := by kernel_rfl
@[go_sem] theorem fd_422_3 : fieldOf Tryz.prog 422 3 = none := by kernel_rfl
@[go_sem] theorem fd_422_4 : fieldOf Tryz.prog 422 4 = none := by kernel_rfl
@[go_sem] theorem fd_422_5 : fieldOf Tryz.prog 422 5 = none := by kernel_rfl
@[go_sem] theorem fd_422_6 : fieldOf Tryz.prog 422 6 = none := by kernel_rfl
@[go_sem] theorem fd_422_7 : fieldOf Tryz.prog 422 7 = none := by kernel_rfl
@[go_sem] theorem ze_422 : zeros Tryz.prog 422 = some [.sc (.int .u8 0), .sc (.int .u8 0), .sc (.int .u8 0), .sc (.int .u8 0), .sc (.int .u8 0), .sc (.int .u8 0), .sc (.int .u8 0), .sc (.int .u8 0), .sc (.int .u8 0), .sc (.int .u8 0), .sc (.int .u8 0), .sc (.int .u8 0), .sc (.int .u8 0), .sc (.int .u8 0), .sc (.int .u8 0), .sc (.int .u8 0), .sc (.int .u8 0), .sc (.int .u8 0), .sc (.int .u8 0), .sc (.int .u8 0), .sc (.int .u8 0), .sc (.int .u8 0), .sc (.int .u8 0), .sc (.int .u8 0), .sc (.int .u8 0), .sc (.int .u8 0), .sc (.int .u8 0), .sc (.int .u8 0), .sc (.int .u8 0), .sc (.int .u8 0), .sc (.int .u8 0), .sc (.int .u8 0)] := by kernel_rfl
@[go_sem] theorem by_422 : bytesOf Tryz.prog 422 = 32 := by kernel_rfl
@[go_sem] theorem sz_423 : szOf Tryz.prog 423 = 64 := by kernel_rfl
@[go_sem] theorem kn_423 : knownT Tryz.prog 423 = true := by kernel_rfl
@[go_sem] theorem ag_423 : aggOf Tryz.prog 423 = true := by kernel_rfl
@[go_sem] theorem us_423 : (Tryz.prog.underlying 423).isSome = true := by kernel_rfl
@[go_sem] theorem el_423 : Go.PA.elemOf Tryz.prog 423 = none := by kernel_rfl
@[go_sem] theorem ar_423 : arrOf Tryz.prog 423 = some (64, 5) := by kernel_rfl
@[go_sem] theorem fk_423 : fieldsKnown Tryz.prog 423 = true := by kernel_rfl
@[go_sem] theorem fd_423_0 : fieldOf Tryz.prog 423 0 = none := by kernel_rfl
@[go_sem] theorem fd_423_1 : fieldOf Tryz.prog 423 1 = none := by kernel_rfl
@[go_sem] theorem fd_423_2 : fieldOf Tryz.prog 423 2 = none := by kernel_rfl
@[go_sem] theorem fd_423_3 : fieldOf Tryz.prog 423 3 = none := by kernel_rfl
@[go_sem] theorem fd_423_4 : fieldOf Tryz.prog 423 4 = none := by kernel_rfl
@[go_sem] theorem fd_423_5 : fieldOf Tryz.prog 423 5 = none := by kernel_rfl
@[go_sem] theorem fd_423_6 : fieldOf Tryz.prog 423 6 = none := by kernel_rfl
@[go_sem] theorem fd_423_7 : fieldOf Tryz.prog 423 7 = none := by kernel_rfl
@[go_sem] theorem by_423 : bytesOf Tryz.prog 423 = 64 := by kernel_rfl
@[go_sem] theorem en_3 : enterable Tryz.prog 3 = true := by kernel_rfl
@[go_sem] theorem en_4 : enterable Tryz.prog 4 = true := by kernel_rfl
@[go_sem] theorem en_5 : enterable Tryz.prog 5 = true := by kernel_rfl
@[go_sem] theorem en_6 : enterable Tryz.prog 6 = true := by kernel_rfl
@[go_sem] theorem en_7 : enterable Tryz.prog 7 = true := by kernel_rfl
@[go_sem] theorem en_8 : enterable Tryz.prog 8 = true := by kernel_rfl
@[go_sem] theorem en_9 : enterable Tryz.prog 9 = true := by kernel_rfl
@[go_sem] theorem en_10 : enterable Tryz.prog 10 = true := by kernel_rfl
@[go_sem] theorem en_11 : enterable Tryz.prog 11 = true := by kernel_rfl
@[go_sem] theorem en_12 : enterable Tryz.prog 12 = true := by kernel_rfl
@[go_sem] theorem en_13 : enterable Tryz.prog 13 = true := by kernel_rfl
@[go_sem] theorem en_14 : enterable Tryz.prog 14 = true := by kernel_rfl
@[go_sem] theorem en_15 : enterable Tryz.prog 15 = true := by kernel_rfl
@[go_sem] theorem en_16 : enterable Tryz.prog 16 = true := by kernel_rfl
@[go_sem] theorem en_17 : enterable Tryz.prog 17 = true := by kernel_rfl
@[go_sem] theorem en_18 : enterable Tryz.prog 18 = true := by kernel_rfl
@[go_sem] theorem en_19 : enterable Tryz.prog 19 = true := by kernel_rfl
@[go_sem] theorem en_20 : enterable Tryz.prog 20 = true := by kernel_rfl
@[go_sem] theorem en_21 : enterable Tryz.prog 21 = true := by kernel_rfl
@[go_sem] theorem en_22 : enterable Tryz.prog 22 = true := by kernel_rfl
@[go_sem] theorem en_23 : enterable Tryz.prog 23 = true := by kernel_rfl
@[go_sem] theorem en_24 : enterable Tryz.prog 24 = true := by kernel_rfl
@[go_sem] theorem en_25 : enterable Tryz.prog 25 = true := by kernel_rfl
@[go_sem] theorem en_26 : enterable Tryz.prog 26 = true := by kernel_rfl
@[go_sem] theorem en_27 : enterable Tryz.prog 27 = true := by kernel_rfl
@[go_sem] theorem en_28 : enterable Tryz.prog 28 = true := by kernel_rfl
@[go_sem] theorem en_29 : enterable Tryz.prog 29 = true := by kernel_rfl
@[go_sem] theorem en_30 : enterable Tryz.prog 30 = true := by kernel_rfl
@[go_sem] theorem en_31 : enterable Tryz.prog 31 = true := by kernel_rfl
@[go_sem] theorem en_32 : enterable Tryz.prog 32 = true := by kernel_rfl
@[go_sem] theorem en_33 : enterable Tryz.prog 33 = true := by kernel_rfl
@[go_sem] theorem en_34 : enterable Tryz.prog 34 = true := by kernel_rfl
@[go_sem] theorem en_35 : enterable Tryz.prog 35 = true := by kernel_rfl
@[go_sem] theorem en_36 : enterable Tryz.prog 36 = true := by kernel_rfl
@[go_sem] theorem en_37 : enterable Tryz.prog 37 = true := by kernel_rfl
@[go_sem] theorem en_38 : enterable Tryz.prog 38 = true := by kernel_rfl
@[go_sem] theorem en_39 : enterable Tryz.prog 39 = true := by kernel_rfl
@[go_sem] theorem en_40 : enterable Tryz.prog 40 = true := by kernel_rfl
@[go_sem] theorem en_41 : enterable Tryz.prog 41 = true := by kernel_rfl
@[go_sem] theorem en_42 : enterable Tryz.prog 42 = true := by kernel_rfl
@[go_sem] theorem en_43 : enterable Tryz.prog 43 = true := by kernel_rfl
@[go_sem] theorem en_44 : enterable Tryz.prog 44 = true := by kernel_rfl
@[go_sem] theorem en_45 : enterable Tryz.prog 45 = true := by kernel_rfl
@[go_sem] theorem en_46 : enterable Tryz.prog 46 = true := by kernel_rfl
@[go_sem] theorem en_47 : enterable Tryz.prog 47 = true := by kernel_rfl
@[go_sem] theorem en_48 : enterable Tryz.prog 48 = true := by kernel_rfl
@[go_sem] theorem en_49 : enterable Tryz.prog 49 = true := by kernel_rfl
@[go_sem] theorem en_50 : enterable Tryz.prog 50 = true := by kernel_rfl
@[go_sem] theorem en_51 : enterable Tryz.prog 51 = true := by kernel_rfl
@[go_sem] theorem en_52 : enterable Tryz.prog 52 = true := by kernel_rfl
@[go_sem] theorem en_53 : enterable Tryz.prog 53 = true := by kernel_rfl
@[go_sem] theorem en_54 : enterable Tryz.prog 54 = true := by kernel_rfl
@[go_sem] theorem en_55 : enterable Tryz.prog 55 = true := by kernel_rfl
@[go_sem] theorem en_56 : enterable Tryz.prog 56 = true := by kernel_rfl
@[go_sem] theorem en_57 : enterable Tryz.prog 57 = true := by kernel_rfl
@[go_sem] theorem en_58 : enterable Tryz.prog 58 = true := by kernel_rfl
@[go_sem] theorem en_59 : enterable Tryz.prog 59 = true := by kernel_rfl
@[go_sem] theorem en_60 : enterable Tryz.prog 60 = true := by kernel_rfl
@[go_sem] theorem en_61 : enterable Tryz.prog 61 = true := by kernel_rfl
@[go_sem] theorem en_62 : enterable Tryz.prog 62 = true := by kernel_rfl
@[go_sem] theorem en_63 : enterable Tryz.prog 63 = true := by kernel_rfl
@[go_sem] theorem en_64 : enterable Tryz.prog 64 = true := by kernel_rfl
@[go_sem] theorem en_65 : enterable Tryz.prog 65 = true := by kernel_rfl
@[go_sem] theorem en_66 : enterable Tryz.prog 66 = true := by kernel_rfl
@[go_sem] theorem en_67 : enterable Tryz.prog 67 = true := by kernel_rfl
@[go_sem] theorem en_68 : enterable Tryz.prog 68 = true := by kernel_rfl
@[go_sem] theorem en_69 : enterable Tryz.prog 69 = true := by kernel_rfl
@[go_sem] theorem en_70 : enterable Tryz.prog 70 = true := by kernel_rfl
@[go_sem] theorem en_71 : enterable Tryz.prog 71 = true := by kernel_rfl
@[go_sem] theorem en_72 : enterable Tryz.prog 72 = true := by kernel_rfl
@[go_sem] theorem en_73 : enterable Tryz.prog 73 = true := by kernel_rfl
@[go_sem] theorem en_74 : enterable Tryz.prog 74 = true := by kernel_rfl
@[go_sem] theorem en_75 : enterable Tryz.prog 75 = true := by kernel_rfl
@[go_sem] theorem en_76 : enterable Tryz.prog 76 = true := by kernel_rfl
@[go_sem] theorem en_77 : enterable Tryz.prog 77 = true := by kernel_rfl
@[go_sem] theorem en_78 : enterable Tryz.prog 78 = true := by kernel_rfl
@[go_sem] theorem en_79 : enterable Tryz.prog 79 = true := by kernel_rfl
@[go_sem] theorem en_80 : enterable Tryz.prog 80 = true := by kernel_rfl
@[go_sem] theorem en_81 : enterable Tryz.prog 81 = true := by kernel_rfl
@[go_sem] theorem en_82 : enterable Tryz.prog 82 = true := by kernel_rfl
@[go_sem] theorem en_83 : enterable Tryz.prog 83 = true := by kernel_rfl
@[go_sem] theorem en_84 : enterable Tryz.prog 84 = true := by kernel_rfl
@[go_sem] theorem en_85 : enterable Tryz.prog 85 = true := by kernel_rfl
@[go_sem] theorem en_86 : enterable Tryz.prog 86 = true := by kernel_rfl
@[go_sem] theorem en_87 : enterable Tryz.prog 87 = true := by kernel_rfl
@[go_sem] theorem en_88 : enterable Tryz.prog 88 = true := by kernel_rfl
@[go_sem] theorem en_89 : enterable Tryz.prog 89 = true := by kernel_rfl
@[go_sem] theorem en_90 : enterable Tryz.prog 90 = true := by kernel_rfl
@[go_sem] theorem en_91 : enterable Tryz.prog 91 = true := by kernel_rfl
@[go_sem] theorem en_92 : enterable Tryz.prog 92 = true := by kernel_rfl
@[go_sem] theorem en_93 : enterable Tryz.prog 93 = true := by kernel_rfl
@[go_sem] theorem en_94 : enterable Tryz.prog 94 = true := by kernel_rfl
@[go_sem] theorem en_95 : enterable Tryz.prog 95 = true := by kernel_rfl
@[go_sem] theorem en_96 : enterable Tryz.prog 96 = true := by kernel_rfl
@[go_sem] theorem en_97 : enterable Tryz.prog 97 = true := by kernel_rfl
@[go_sem] theorem en_98 : enterable Tryz.prog 98 = true := by kernel_rfl
@[go_sem] theorem en_99 : enterable Tryz.prog 99 = true := by kernel_rfl
@[go_sem] theorem en_100 : enterable Tryz.prog 100 = true := by kernel_rfl
@[go_sem] theorem en_101 : enterable Tryz.prog 101 = true := by kernel_rfl
@[go_sem] theorem en_102 : enterable Tryz.prog 102 = true := by kernel_rfl
@[go_sem] theorem en_103 : enterable Tryz.prog 103 = true := by kernel_rfl
@[go_sem] theorem en_104 : enterable Tryz.prog 104 = true := by kernel_rfl
@[go_sem] theorem en_105 : enterable Tryz.prog 105 = true := by kernel_rfl
@[go_sem] theorem en_106 : enterable Tryz.prog 106 = true := by kernel_rfl
@[go_sem] theorem en_107 : enterable Tryz.prog 107 = true := by kernel_rfl
@[go_sem] theorem en_108 : enterable Tryz.prog 108 = true := by kernel_rfl
@[go_sem] theorem en_109 : enterable Tryz.prog 109 = true := by kernel_rfl
@[go_sem] theorem en_110 : enterable Tryz.prog 110 = true := by kernel_rfl
@[go_sem] theorem en_111 : enterable Tryz.prog 111 = true := by kernel_rfl
@[go_sem] theorem en_112 : enterable Tryz.prog 112 = true := by kernel_rfl
@[go_sem] theorem en_113 : enterable Tryz.prog 113 = true := by kernel_rfl
@[go_sem] theorem en_114 : enterable Tryz.prog 114 = true := by kernel_rfl
@[go_sem] theorem en_115 : enterable Tryz.prog 115 = true := by kernel_rfl
@[go_sem] theorem en_116 : enterable Tryz.prog 116 = true := by kernel_rfl
@[go_sem] theorem en_117 : enterable Tryz.prog 117 = true := by kernel_rfl
@[go_sem] theorem en_118 : enterable Tryz.prog 118 = true := by kernel_rfl
@[go_sem] theorem en_119 : enterable Tryz.prog 119 = true := by kernel_rfl
@[go_sem] theorem en_120 : enterable Tryz.prog 120 = true := by kernel_rfl
@[go_sem] theorem en_121 : enterable Tryz.prog 121 = true := by kernel_rfl
@[go_sem] theorem en_122 : enterable Tryz.prog 122 = true := by kernel_rfl
@[go_sem] theorem en_123 : enterable Tryz.prog 123 = true := by kernel_rfl
@[go_sem] theorem en_124 : enterable Tryz.prog 124 = true := by kernel_rfl
@[go_sem] theorem en_125 : enterable Tryz.prog 125 = true := by kernel_rfl
@[go_sem] theorem en_126 : enterable Tryz.prog 126 = true := by kernel_rfl
@[go_sem] theorem en_127 : enterable Tryz.prog 127 = true := by kernel_rfl
@[go_sem] theorem en_128 : enterable Tryz.prog 128 = true := by kernel_rfl
@[go_sem] theorem en_129 : enterable Tryz.prog 129 = true := by kernel_rfl
@[go_sem] theorem en_130 : enterable Tryz.prog 130 = true := by kernel_rfl
@[go_sem] theorem en_131 : enterable Tryz.prog 131 = true := by kernel_rfl
@[go_sem] theorem en_132 : enterable Tryz.prog 132 = true := by kernel_rfl
@[go_sem] theorem en_133 : enterable Tryz.prog 133 = true := by kernel_rfl
@[go_sem] theorem en_134 : enterable Tryz.prog 134 = true := by kernel_rfl
@[go_sem] theorem en_135 : enterable Tryz.prog 135 = true := by kernel_rfl
@[go_sem] theorem en_136 : enterable Tryz.prog 136 = true := by kernel_rfl
@[go_sem] theorem en_137 : enterable Tryz.prog 137 = true := by kernel_rfl
@[go_sem] theorem en_138 : enterable Tryz.prog 138 = true := by kernel_rfl
@[go_sem] theorem en_139 : enterable Tryz.prog 139 = true := by kernel_rfl
@[go_sem] theorem en_140 : enterable Tryz.prog 140 = true := by kernel_rfl
@[go_sem] theorem en_141 : enterable Tryz.prog 141 = true := by kernel_rfl
@[go_sem] theorem en_143 : enterable Tryz.prog 143 = true := by kernel_rfl
@[go_sem] theorem en_144 : enterable Tryz.prog 144 = true := by kernel_rfl
@[go_sem] theorem en_145 : enterable Tryz.prog 145 = true := by kernel_rfl
@[go_sem] theorem en_146 : enterable Tryz.prog 146 = true := by kernel_rfl
@[go_sem] theorem en_147 : enterable Tryz.prog 147 = true := by kernel_rfl
@[go_sem] theorem en_148 : enterable Tryz.prog 148 = true := by kernel_rfl
@[go_sem] theorem en_149 : enterable Tryz.prog 149 = true := by kernel_rfl
@[go_sem] theorem en_150 : enterable Tryz.prog 150 = true := by kernel_rfl
@[go_sem] theorem en_151 : enterable Tryz.prog 151 = true := by kernel_rfl
@[go_sem] theorem en_152 : enterable Tryz.prog 152 = true := by kernel_rfl
@[go_sem] theorem en_153 : enterable Tryz.prog 153 = true := by kernel_rfl
@[go_sem] theorem en_154 : enterable Tryz.prog 154 = true := by kernel_rfl
@[go_sem] theorem en_155 : enterable Tryz.prog 155 = true := by kernel_rfl
@[go_sem] theorem en_156 : enterable Tryz.prog 156 = true := by kernel_rfl
@[go_sem] theorem en_157 : enterable Tryz.prog 157 = true := by kernel_rfl
@[go_sem] theorem en_158 : enterable Tryz.prog 158 = true := by kernel_rfl
@[go_sem] theorem en_159 : enterable Tryz.prog 159 = true := by kernel_rfl
@[go_sem] theorem en_160 : enterable Tryz.prog 160 = true := by kernel_rfl
@[go_sem] theorem en_161 : enterable Tryz.prog 161 = true := by kernel_rfl
@[go_sem] theorem en_162 : enterable Tryz.prog 162 = true := by kernel_rfl
@[go_sem] theorem en_163 : enterable Tryz.prog 163 = true := by kernel_rfl
@[go_sem] theorem en_164 : enterable Tryz.prog 164 = true := by kernel_rfl
@[go_sem] theorem en_165 : enterable Tryz.prog 165 = true := by kernel_rfl
@[go_sem] theorem en_166 : enterable Tryz.prog 166 = true := by kernel_rfl
@[go_sem] theorem en_167 : enterable Tryz.prog 167 = true := by kernel_rfl
@[go_sem] theorem en_168 : enterable Tryz.prog 168 = true := by kernel_rfl
@[go_sem] theorem en_169 : enterable Tryz.prog 169 = true := by kernel_rfl
@[go_sem] theorem en_170 : enterable Tryz.prog 170 = true := by kernel_rfl
@[go_sem] theorem en_171 : enterable Tryz.prog 171 = true := by kernel_rfl
@[go_sem] theorem en_172 : enterable Tryz.prog 172 = true := by kernel_rfl
@[go_sem] theorem en_173 : enterable Tryz.prog 173 = true := by kernel_rfl
@[go_sem] theorem en_174 : enterable Tryz.prog 174 = true := by kernel_rfl
@[go_sem] theorem en_175 : enterable Tryz.prog 175 = true := by kernel_rfl
@[go_sem] theorem en_176 : enterable Tryz.prog 176 = true := by kernel_rfl
@[go_sem] theorem en_177 : enterable Tryz.prog 177 = true := by kernel_rfl
@[go_sem] theorem en_178 : enterable Tryz.prog 178 = true := by kernel_rfl
@[go_sem] theorem en_179 : enterable Tryz.prog 179 = true := by kernel_rfl
@[go_sem] theorem en_180 : enterable Tryz.prog 180 = true := by kernel_rfl
@[go_sem] theorem en_181 : enterable Tryz.prog 181 = true := by kernel_rfl
@[go_sem] theorem en_182 : enterable Tryz.prog 182 = true := by kernel_rfl
@[go_sem] theorem en_183 : enterable Tryz.prog 183 = true := by kernel_rfl
@[go_sem] theorem en_184 : enterable Tryz.prog 184 = true := by kernel_rfl
@[go_sem] theorem en_185 : enterable Tryz.prog 185 = true := by kernel_rfl
@[go_sem] theorem en_186 : enterable Tryz.prog 186 = true := by kernel_rfl
@[go_sem] theorem en_187 : enterable Tryz.prog 187 = true := by kernel_rfl
@[go_sem] theorem en_188 : enterable Tryz.prog 188 = true := by kernel_rfl
@[go_sem] theorem en_189 : enterable Tryz.prog 189 = true := by kernel_rfl
@[go_sem] theorem en_190 : enterable Tryz.prog 190 = true := by kernel_rfl
@[go_sem] theorem en_191 : enterable Tryz.prog 191 = true := by kernel_rfl
@[go_sem] theorem en_192 : enterable Tryz.prog 192 = true := by kernel_rfl
@[go_sem] theorem en_193 : enterable Tryz.prog 193 = true := by kernel_rfl
@[go_sem] theorem en_194 : enterable Tryz.prog 194 = true := by kernel_rfl
@[go_sem] theorem en_195 : enterable Tryz.prog 195 = true := by kernel_rfl
@[go_sem] theorem en_196 : enterable Tryz.prog 196 = true := by kernel_rfl
@[go_sem] theorem en_197 : enterable Tryz.prog 197 = true := by kernel_rfl
@[go_sem] theorem en_198 : enterable Tryz.prog 198 = true := by kernel_rfl
@[go_sem] theorem en_199 : enterable Tryz.prog 199 = true := by kernel_rfl
@[go_sem] theorem en_200 : enterable Tryz.prog 200 = true := by kernel_rfl
@[go_sem] theorem en_201 : enterable Tryz.prog 201 = true := by kernel_rfl
@[go_sem] theorem en_202 : enterable Tryz.prog 202 = true := by kernel_rfl
@[go_sem] theorem en_203 : enterable Tryz.prog 203 = true := by kernel_rfl
@[go_sem] theorem en_204 : enterable Tryz.prog 204 = true := by kernel_rfl
@[go_sem] theorem en_205 : enterable Tryz.prog 205 = true := by kernel_rfl
@[go_sem] theorem en_206 : enterable Tryz.prog 206 = true := by kernel_rfl
@[go_sem] theorem en_207 : enterable Tryz.prog 207 = true := by kernel_rfl
@[go_sem] theorem en_208 : enterable Tryz.prog 208 = true := by kernel_rfl
@[go_sem] theorem en_209 : enterable Tryz.prog 209 = true := by kernel_rfl
@[go_sem] theorem en_210 : enterable Tryz.prog 210 = true := by kernel_rfl
@[go_sem] theorem en_211 : enterable Tryz.prog 211 = true := by kernel_rfl
@[go_sem] theorem en_212 : enterable Tryz.prog 212 = true := by kernel_rfl
@[go_sem] theorem en_213 : enterable Tryz.prog 213 = true := by kernel_rfl
@[go_sem] theorem en_214 : enterable Tryz.prog 214 = true := by kernel_rfl
@[go_sem] theorem en_215 : enterable Tryz.prog 215 = true := by kernel_rfl
@[go_sem] theorem en_216 : enterable Tryz.prog 216 = true := by kernel_rfl
@[go_sem] theorem en_217 : enterable Tryz.prog 217 = true := by kernel_rfl
@[go_sem] theorem en_218 : enterable Tryz.prog 218 = true := by kernel_rfl
@[go_sem] theorem en_219 : enterable Tryz.prog 219 = true := by kernel_rfl
@[go_sem] theorem en_220 : enterable Tryz.prog 220 = true := by kernel_rfl
@[go_sem] theorem en_221 : enterable Tryz.prog 221 = true := by kernel_rfl
@[go_sem] theorem en_222 : enterable Tryz.prog 222 = true := by kernel_rfl
@[go_sem] theorem en_223 : enterable Tryz.prog 223 = true := by kernel_rfl
@[go_sem] theorem en_224 : enterable Tryz.prog 224 = true := by kernel_rfl
@[go_sem] theorem en_225 : enterable Tryz.prog 225 = true := by kernel_rfl
@[go_sem] theorem en_226 : enterable Tryz.prog 226 = true := by kernel_rfl
@[go_sem] theorem en_227 : enterable Tryz.prog 227 = true := by kernel_rfl
@[go_sem] theorem en_228 : enterable Tryz.prog 228 = true := by kernel_rfl
@[go_sem] theorem en_229 : enterable Tryz.prog 229 = true := by kernel_rfl
@[go_sem] theorem en_230 : enterable Tryz.prog 230 = true := by kernel_rfl
@[go_sem] theorem en_231 : enterable Tryz.prog 231 = true := by kernel_rfl
@[go_sem] theorem en_232 : enterable Tryz.prog 232 = true := by kernel_rfl
@[go_sem] theorem en_233 : enterable Tryz.prog 233 = true := by kernel_rfl
@[go_sem] theorem en_234 : enterable Tryz.prog 234 = true := by kernel_rfl
@[go_sem] theorem en_235 : enterable Tryz.prog 235 = true := by kernel_rfl
@[go_sem] theorem en_236 : enterable Tryz.prog 236 = true := by kernel_rfl
@[go_sem] theorem en_237 : enterable Tryz.prog 237 = true := by kernel_rfl
@[go_sem] theorem en_239 : enterable Tryz.prog 239 = true := by kernel_rfl
@[go_sem] theorem en_240 : enterable Tryz.prog 240 = true := by kernel_rfl
@[go_sem] theorem en_241 : enterable Tryz.prog 241 = true := by kernel_rfl
@[go_sem] theorem en_242 : enterable Tryz.prog 242 = true := by kernel_rfl
@[go_sem] theorem en_243 : enterable Tryz.prog 243 = true := by kernel_rfl
@[go_sem] theorem en_244 : enterable Tryz.prog 244 = true := by kernel_rfl
@[go_sem] theorem en_245 : enterable Tryz.prog 245 = true := by kernel_rfl
@[go_sem] theorem en_246 : enterable Tryz.prog 246 = true := by kernel_rfl
@[go_sem] theorem en_247 : enterable Tryz.prog 247 = true := by kernel_rfl
@[go_sem] theorem en_248 : enterable Tryz.prog 248 = true := by kernel_rfl
@[go_sem] theorem en_249 : enterable Tryz.prog 249 = true := by kernel_rfl
@[go_sem] theorem en_250 : enterable Tryz.prog 250 = true := by kernel_rfl
@[go_sem] theorem en_251 : enterable Tryz.prog 251 = true := by kernel_rfl
@[go_sem] theorem en_252 : enterable Tryz.prog 252 = true := by kernel_rfl
@[go_sem] theorem en_253 : enterable Tryz.prog 253 = true := by kernel_rfl
@[go_sem] theorem en_254 : enterable Tryz.prog 254 = true := by kernel_rfl
@[go_sem] theorem en_255 : enterable Tryz.prog 255 = true := by kernel_rfl
@[go_sem] theorem en_256 : enterable Tryz.prog 256 = true := by kernel_rfl
@[go_sem] theorem en_258 : enterable Tryz.prog 258 = true := by kernel_rfl
@[go_sem] theorem en_260 : enterable Tryz.prog 260 = true := by kernel_rfl
@[go_sem] theorem en_261 : enterable Tryz.prog 261 = true := by kernel_rfl
@[go_sem] theorem en_262 : enterable Tryz.prog 262 = true := by kernel_rfl
@[go_sem] theorem en_263 : enterable Tryz.prog 263 = true := by kernel_rfl
@[go_sem] theorem en_264 : enterable Tryz.prog 264 = true := by kernel_rfl
@[go_sem] theorem en_265 : enterable Tryz.prog 265 = true := by kernel_rfl
@[go_sem] theorem en_266 : enterable Tryz.prog 266 = true := by kernel_rfl
@[go_sem] theorem en_267 : enterable Tryz.prog 267 = true := by kernel_rfl
@[go_sem] theorem en_268 : enterable Tryz.prog 268 = true := by kernel_rfl
@[go_sem] theorem en_269 : enterable Tryz.prog 269 = true := by kernel_rfl
@[go_sem] theorem en_270 : enterable Tryz.prog 270 = true := by kernel_rfl
@[go_sem] theorem en_271 : enterable Tryz.prog 271 = true := by kernel_rfl
@[go_sem] theorem en_272 : enterable Tryz.prog 272 = true := by kernel_rfl
@[go_sem] theorem en_273 : enterable Tryz.prog 273 = true := by kernel_rfl
@[go_sem] theorem en_274 : enterable Tryz.prog 274 = true := by kernel_rfl
@[go_sem] theorem en_275 : enterable Tryz.prog 275 = true := by kernel_rfl
@[go_sem] theorem en_276 : enterable Tryz.prog 276 = true := by kernel_rfl
@[go_sem] theorem en_278 : enterable Tryz.prog 278 = true := by kernel_rfl
@[go_sem] theorem en_279 : enterable Tryz.prog 279 = true := by kernel_rfl
@[go_sem] theorem en_280 : enterable Tryz.prog 280 = true := by kernel_rfl
@[go_sem] theorem en_281 : enterable Tryz.prog 281 = true := by kernel_rfl
@[go_sem] theorem en_282 : enterable Tryz.prog 282 = true := by kernel_rfl
@[go_sem] theorem en_283 : enterable Tryz.prog 283 = true := by kernel_rfl
@[go_sem] theorem en_284 : enterable Tryz.prog 284 = true := by kernel_rfl
@[go_sem] theorem en_285 : enterable Tryz.prog 285 = true := by kernel_rfl
@[go_sem] theorem en_286 : enterable Tryz.prog 286 = true := by kernel_rfl
@[go_sem] theorem en_287 : enterable Tryz.prog 287 = true := by kernel_rfl
@[go_sem] theorem en_288 : enterable Tryz.prog 288 = true := by kernel_rfl
@[go_sem] theorem en_289 : enterable Tryz.prog 289 = true := by kernel_rfl
@[go_sem] theorem en_290 : enterable Tryz.prog 290 = true := by kernel_rfl
@[go_sem] theorem en_291 : enterable Tryz.prog 291 = true := by kernel_rfl
@[go_sem] theorem en_293 : enterable Tryz.prog 293 = true := by kernel_rfl
@[go_sem] theorem en_294 : enterable Tryz.prog 294 = true := by kernel_rfl
@[go_sem] theorem en_295 : enterable Tryz.prog 295 = true := by kernel_rfl
@[go_sem] theorem en_296 : enterable Tryz.prog 296 = true := by kernel_rfl
@[go_sem] theorem en_298 : enterable Tryz.prog 298 = true := by kernel_rfl
@[go_sem] theorem en_299 : enterable Tryz.prog 299 = true := by kernel_rfl
@[go_sem] theorem en_300 : enterable Tryz.prog 300 = true := by kernel_rfl
@[go_sem] theorem en_301 : enterable Tryz.prog 301 = true := by kernel_rfl
@[go_sem] theorem en_303 : enterable Tryz.prog 303 = true := by kernel_rfl
@[go_sem] theorem en_304 : enterable Tryz.prog 304 = true := by kernel_rfl
@[go_sem] theorem en_305 : enterable Tryz.prog 305 = true := by kernel_rfl
@[go_sem] theorem en_307 : enterable Tryz.prog 307 = true := by kernel_rfl
@[go_sem] theorem en_308 : enterable Tryz.prog 308 = true := by kernel_rfl
@[go_sem] theorem en_309 : enterable Tryz.prog 309 = true := by kernel_rfl
@[go_sem] theorem en_310 : enterable Tryz.prog 310 = true := by kernel_rfl
@[go_sem] theorem en_314 : enterable Tryz.prog 314 = true := by kernel_rfl
@[go_sem] theorem en_319 : enterable Tryz.prog 319 = true := by kernel_rfl
@[go_sem] theorem en_320 : enterable Tryz.prog 320 = true := by kernel_rfl
@[go_sem] theorem en_321 : enterable Tryz.prog 321 = true := by kernel_rfl
@[go_sem] theorem en_322 : enterable Tryz.prog 322 = true := by kernel_rfl
@[go_sem] theorem en_323 : enterable Tryz.prog 323 = true := by kernel_rfl
@[go_sem] theorem en_333 : enterable Tryz.prog 333 = true := by kernel_rfl
@[go_sem] theorem en_334 : enterable Tryz.prog 334 = true := by kernel_rfl
@[go_sem] theorem en_335 : enterable Tryz.prog 335 = true := by kernel_rfl
@[go_sem] theorem en_336 : enterable Tryz.prog 336 = true := by kernel_rfl
@[go_sem] theorem en_339 : enterable Tryz.prog 339 = true := by kernel_rfl
@[go_sem] theorem en_340 : enterable Tryz.prog 340 = true := by kernel_rfl
@[go_sem] theorem en_341 : enterable Tryz.prog 341 = true := by kernel_rfl
@[go_sem] theorem rs_3 : Tryz.f3.results.toList = [.tmp 2] := rfl
@[go_sem] theorem rs_4 : Tryz.f4.results.toList = [.tmp 2] := rfl
@[go_sem] theorem rs_5 : Tryz.f5.results.toList = [.cell 4 28] := rfl
@[go_sem] theorem rs_6 : Tryz.f6.results.toList = [.tmp 6] := rfl
@[go_sem] theorem rs_7 : Tryz.f7.results.toList = [.tmp 4] := rfl
@[go_sem] theorem rs_8 : Tryz.f8.results.toList = [.cell 4 33, .tmp 5] := rfl
@[go_sem] theorem rs_9 : Tryz.f9.results.toList = [.cell 8 33, .tmp 9] := rfl
@[go_sem] theorem rs_10 : Tryz.f10.results.toList = [.tmp 4] := rfl
@[go_sem] theorem rs_11 : Tryz.f11.results.toList = [.cell 6 33, .tmp 7] := rfl
@[go_sem] theorem rs_12 : Tryz.f12.results.toList = [.cell 6 51, .tmp 7] := rfl
@[go_sem] theorem rs_13 : Tryz.f13.results.toList = [.tmp 2] := rfl
@[go_sem] theorem rs_14 : Tryz.f14.results.toList = [.tmp 0] := rfl
@[go_sem] theorem rs_15 : Tryz.f15.results.toList = [.cell 4 28, .tmp 5] := rfl
@[go_sem] theorem rs_16 : Tryz.f16.results.toList = [.tmp 4] := rfl
@[go_sem] theorem rs_17 : Tryz.f17.results.toList = [.cell 4 28, .tmp 5] := rfl
@[go_sem] theorem rs_18 : Tryz.f18.results.toList = [.cell 12 66] := rfl
@[go_sem] theorem rs_19 : Tryz.f19.results.toList = [.tmp 2] := rfl
@[go_sem] theorem rs_20 : Tryz.f20.results.toList = [.tmp 2] := rfl
@[go_sem] theorem rs_21 : Tryz.f21.results.toList = [.tmp 6] := rfl
@[go_sem] theorem rs_22 : Tryz.f22.results.toList = [.tmp 2] := rfl
@[go_sem] theorem rs_23 : Tryz.f23.results.toList = [.tmp 2] := rfl
@[go_sem] theorem rs_24 : Tryz.f24.results.toList = [.tmp 2] := rfl
@[go_sem] theorem rs_25 : Tryz.f25.results.toList = [.tmp 2] := rfl
@[go_sem] theorem rs_26 : Tryz.f26.results.toList = [.tmp 8, .tmp 9] := rfl
@[go_sem] theorem rs_27 : Tryz.f27.results.toList = [.tmp 2] := rfl
@[go_sem] theorem rs_28 : Tryz.f28.results.toList = [.tmp 6] := rfl
@[go_sem] theorem rs_29 : Tryz.f29.results.toList = [.tmp 2] := rfl
@[go_sem] theorem rs_30 : Tryz.f30.results.toList = [.tmp 6] := rfl
@[go_sem] theorem rs_31 : Tryz.f31.results.toList = [.cell 6 36] := rfl
@[go_sem] theorem rs_32 : Tryz.f32.results.toList = [.tmp 6, .tmp 7] := rfl
@[go_sem] theorem rs_33 : Tryz.f33.results.toList = [.tmp 4] := rfl
@[go_sem] theorem rs_34 : Tryz.f34.results.toList = [.tmp 4] := rfl
@[go_sem] theorem rs_35 : Tryz.f35.results.toList = [.tmp 4] := rfl
@[go_sem] theorem rs_36 : Tryz.f36.results.toList = [] := rfl
@[go_sem] theorem rs_37 : Tryz.f37.results.toList = [] := rfl
@[go_sem] theorem rs_38 : Tryz.f38.results.toList = [.tmp 2] := rfl
@[go_sem] theorem rs_39 : Tryz.f39.results.toList = [.cell 6 114, .tmp 7] := rfl
@[go_sem] theorem rs_40 : Tryz.f40.results.toList = [.cell 4 114, .tmp 5, .tmp 6] := rfl
@[go_sem] theorem rs_41 : Tryz.f41.results.toList = [.tmp 8] := rfl
@[go_sem] theorem rs_42 : Tryz.f42.results.toList = [.tmp 2] := rfl
@[go_sem] theorem rs_43 : Tryz.f43.results.toList = [.tmp 2] := rfl
@[go_sem] theorem rs_44 : Tryz.f44.results.toList = [.tmp 2] := rfl
@[go_sem] theorem rs_45 : Tryz.f45.results.toList = [.tmp 2] := rfl
@[go_sem] theorem rs_46 : Tryz.f46.results.toList = [.tmp 8, .tmp 9] := rfl
@[go_sem] theorem rs_47 : Tryz.f47.results.toList = [.cell 2 66] := rfl
@[go_sem] theorem rs_48 : Tryz.f48.results.toList = [.tmp 2] := rfl
@[go_sem] theorem rs_49 : Tryz.f49.results.toList = [.tmp 2] := rfl
@[go_sem] theorem rs_50 : Tryz.f50.results.toList = [.tmp 2] := rfl
@[go_sem] theorem rs_51 : Tryz.f51.results.toList = [.tmp 4, .tmp 5] := rfl
@[go_sem] theorem rs_52 : Tryz.f52.results.toList = [.tmp 2] := rfl
@[go_sem] theorem rs_53 : Tryz.f53.results.toList = [.tmp 4] := rfl
@[go_sem] theorem rs_54 : Tryz.f54.results.toList = [.tmp 4] := rfl
@[go_sem] theorem rs_55 : Tryz.f55.results.toList = [.tmp 2] := rfl
@[go_sem] theorem rs_56 : Tryz.f56.results.toList = [.tmp 2] := rfl
@[go_sem] theorem rs_57 : Tryz.f57.results.toList = [.tmp 2] := rfl
@[go_sem] theorem rs_58 : Tryz.f58.results.toList = [.tmp 4, .tmp 5] := rfl
@[go_sem] theorem rs_59 : Tryz.f59.results.toList = [] := rfl
@[go_sem] theorem rs_60 : Tryz.f60.results.toList = [] := rfl
@[go_sem] theorem rs_61 : Tryz.f61.results.toList = [.tmp 2] := rfl
@[go_sem] theorem rs_62 : Tryz.f62.results.toList = [.tmp 2] := rfl
@[go_sem] theorem rs_63 : Tryz.f63.results.toList = [.tmp 4] := rfl
@[go_sem] theorem rs_64 : Tryz.f64.results.toList = [.tmp 4] := rfl
@[go_sem] theorem rs_65 : Tryz.f65.results.toList = [.tmp 6] := rfl
@[go_sem] theorem rs_66 : Tryz.f66.results.toList = [] := rfl
@[go_sem] theorem rs_67 : Tryz.f67.results.toList = [.tmp 4] := rfl
@[go_sem] theorem rs_68 : Tryz.f68.results.toList = [.tmp 2] := rfl
@[go_sem] theorem rs_69 : Tryz.f69.results.toList = [.tmp 4] := rfl
@[go_sem] theorem rs_70 : Tryz.f70.results.toList = [.cell 0 154] := rfl
@[go_sem] theorem rs_71 : Tryz.f71.results.toList = [.cell 4 28, .tmp 5] := rfl
@[go_sem] theorem rs_72 : Tryz.f72.results.toList = [.cell 4 112, .tmp 5] := rfl
@[go_sem] theorem rs_73 : Tryz.f73.results.toList = [.cell 2 114] := rfl
@[go_sem] theorem rs_74 : Tryz.f74.results.toList = [.cell 4 114, .tmp 5] := rfl
@[go_sem] theorem rs_75 : Tryz.f75.results.toList = [.tmp 6] := rfl
@[go_sem] theorem rs_76 : Tryz.f76.results.toList = [.tmp 2] := rfl
@[go_sem] theorem rs_77 : Tryz.f77.results.toList = [.tmp 2] := rfl
@[go_sem] theorem rs_78 : Tryz.f78.results.toList = [.tmp 4, .tmp 5] := rfl
@[go_sem] theorem rs_79 : Tryz.f79.results.toList = [.tmp 4] := rfl
@[go_sem] theorem rs_80 : Tryz.f80.results.toList = [.tmp 6] := rfl
@[go_sem] theorem rs_81 : Tryz.f81.results.toList = [.tmp 2] := rfl
@[go_sem] theorem rs_82 : Tryz.f82.results.toList = [.tmp 4] := rfl
@[go_sem] theorem rs_83 : Tryz.f83.results.toList = [.tmp 4] := rfl
@[go_sem] theorem rs_84 : Tryz.f84.results.toList = [.tmp 2] := rfl
@[go_sem] theorem rs_85 : Tryz.f85.results.toList = [.tmp 4, .tmp 5] := rfl
@[go_sem] theorem rs_86 : Tryz.f86.results.toList = [.tmp 2] := rfl
@[go_sem] theorem rs_87 : Tryz.f87.results.toList = [.tmp 2] := rfl
@[go_sem] theorem rs_88 : Tryz.f88.results.toList = [.tmp 4] := rfl
@[go_sem] theorem rs_89 : Tryz.f89.results.toList = [.tmp 2] := rfl
@[go_sem] theorem rs_90 : Tryz.f90.results.toList = [.tmp 4] := rfl
@[go_sem] theorem rs_91 : Tryz.f91.results.toList = [] := rfl
@[go_sem] theorem rs_92 : Tryz.f92.results.toList = [.tmp 2] := rfl
@[go_sem] theorem rs_93 : Tryz.f93.results.toList = [.tmp 2] := rfl
@[go_sem] theorem rs_94 : Tryz.f94.results.toList = [.tmp 6, .tmp 7] := rfl
@[go_sem] theorem rs_95 : Tryz.f95.results.toList = [.tmp 4] := rfl
@[go_sem] theorem rs_96 : Tryz.f96.results.toList = [.tmp 4] := rfl
@[go_sem] theorem rs_97 : Tryz.f97.results.toList = [.tmp 2] := rfl
@[go_sem] theorem rs_98 : Tryz.f98.results.toList = [.cell 2 112] := rfl
@[go_sem] theorem rs_99 : Tryz.f99.results.toList = [.tmp 6] := rfl
@[go_sem] theorem rs_100 : Tryz.f100.results.toList = [.tmp 2] := rfl
@[go_sem] theorem rs_101 : Tryz.f101.results.toList = [.tmp 2] := rfl
@[go_sem] theorem rs_102 : Tryz.f102.results.toList = [.tmp 2] := rfl
@[go_sem] theorem rs_103 : Tryz.f103.results.toList = [.tmp 2] := rfl
@[go_sem] theorem rs_104 : Tryz.f104.results.toList = [.tmp 2] := rfl
@[go_sem] theorem rs_105 : Tryz.f105.results.toList = [.tmp 2] := rfl
@[go_sem] theorem rs_106 : Tryz.f106.results.toList = [.tmp 2] := rfl
@[go_sem] theorem rs_107 : Tryz.f107.results.toList = [.tmp 2] := rfl
@[go_sem] theorem rs_108 : Tryz.f108.results.toList = [.tmp 4] := rfl
@[go_sem] theorem rs_109 : Tryz.f109.results.toList = [.tmp 4] := rfl
@[go_sem] theorem rs_110 : Tryz.f110.results.toList = [.tmp 5] := rfl
@[go_sem] theorem rs_111 : Tryz.f111.results.toList = [.tmp 2] := rfl
@[go_sem] theorem rs_112 : Tryz.f112.results.toList = [.tmp 6, .tmp 7] := rfl
@[go_sem] theorem rs_113 : Tryz.f113.results.toList = [.tmp 4] := rfl
@[go_sem] theorem rs_114 : Tryz.f114.results.toList = [.tmp 2] := rfl
@[go_sem] theorem rs_115 : Tryz.f115.results.toList = [.tmp 4] := rfl
@[go_sem] theorem rs_116 : Tryz.f116.results.toList = [.tmp 4] := rfl
@[go_sem] theorem rs_117 : Tryz.f117.results.toList = [.tmp 2] := rfl
@[go_sem] theorem rs_118 : Tryz.f118.results.toList = [.tmp 2] := rfl
@[go_sem] theorem rs_119 : Tryz.f119.results.toList = [.tmp 4] := rfl
@[go_sem] theorem rs_120 : Tryz.f120.results.toList = [.tmp 6, .tmp 7] := rfl
@[go_sem] theorem rs_121 : Tryz.f121.results.toList = [.tmp 2] := rfl
@[go_sem] theorem rs_122 : Tryz.f122.results.toList = [.tmp 6, .tmp 7] := rfl
@[go_sem] theorem rs_123 : Tryz.f123.results.toList = [.tmp 4] := rfl
@[go_sem] theorem rs_124 : Tryz.f124.results.toList = [.tmp 4] := rfl
@[go_sem] theorem rs_125 : Tryz.f125.results.toList = [.tmp 2] := rfl
@[go_sem] theorem rs_126 : Tryz.f126.results.toList = [.tmp 2] := rfl
@[go_sem] theorem rs_127 : Tryz.f127.results.toList = [.tmp 4] := rfl
@[go_sem] theorem rs_128 : Tryz.f128.results.toList = [.tmp 6] := rfl
@[go_sem] theorem rs_129 : Tryz.f129.results.toList = [.tmp 4] := rfl
@[go_sem] theorem rs_130 : Tryz.f130.results.toList = [.tmp 2] := rfl
@[go_sem] theorem rs_131 : Tryz.f131.results.toList = [.tmp 2] := rfl
@[go_sem] theorem rs_132 : Tryz.f132.results.toList = [.tmp 4] := rfl
@[go_sem] theorem rs_133 : Tryz.f133.results.toList = [] := rfl
@[go_sem] theorem rs_134 : Tryz.f134.results.toList = [.tmp 2] := rfl
@[go_sem] theorem rs_135 : Tryz.f135.results.toList = [.tmp 4, .tmp 5] := rfl
@[go_sem] theorem rs_136 : Tryz.f136.results.toList = [.tmp 2] := rfl
@[go_sem] theorem rs_137 : Tryz.f137.results.toList = [.tmp 4] := rfl
@[go_sem] theorem rs_138 : Tryz.f138.results.toList = [.tmp 2] := rfl
@[go_sem] theorem rs_139 : Tryz.f139.results.toList = [.tmp 6] := rfl
@[go_sem] theorem rs_140 : Tryz.f140.results.toList = [.tmp 2] := rfl
@[go_sem] theorem rs_141 : Tryz.f141.results.toList = [.tmp 2] := rfl
@[go_sem] theorem rs_142 : Tryz.f142.results.toList = [] := rfl
@[go_sem] theorem rs_143 : Tryz.f143.results.toList = [] := rfl
@[go_sem] theorem rs_144 : Tryz.f144.results.toList = [.tmp 4] := rfl
@[go_sem] theorem rs_145 : Tryz.f145.results.toList = [.tmp 6] := rfl
@[go_sem] theorem rs_146 : Tryz.f146.results.toList = [.cell 4 103, .tmp 5] := rfl
@[go_sem] theorem rs_147 : Tryz.f147.results.toList = [.cell 4 103, .cell 5 194, .tmp 6] := rfl
@[go_sem] theorem rs_148 : Tryz.f148.results.toList = [.cell 4 103, .tmp 5] := rfl
@[go_sem] theorem rs_149 : Tryz.f149.results.toList = [.cell 6 103, .tmp 7] := rfl
@[go_sem] theorem rs_150 : Tryz.f150.results.toList = [.cell 4 103, .tmp 5] := rfl
@[go_sem] theorem rs_151 : Tryz.f151.results.toList = [.cell 10 112, .tmp 11] := rfl
@[go_sem] theorem rs_152 : Tryz.f152.results.toList = [.tmp 12] := rfl
@[go_sem] theorem rs_153 : Tryz.f153.results.toList = [.cell 10 112, .tmp 11] := rfl
@[go_sem] theorem rs_154 : Tryz.f154.results.toList = [.tmp 8] := rfl
@[go_sem] theorem rs_155 : Tryz.f155.results.toList = [.tmp 2] := rfl
@[go_sem] theorem rs_156 : Tryz.f156.results.toList = [.tmp 2] := rfl
@[go_sem] theorem rs_157 : Tryz.f157.results.toList = [.tmp 4] := rfl
@[go_sem] theorem rs_158 : Tryz.f158.results.toList = [.tmp 3] := rfl
@[go_sem] theorem rs_159 : Tryz.f159.results.toList = [.tmp 4] := rfl
@[go_sem] theorem rs_160 : Tryz.f160.results.toList = [.tmp 2] := rfl
@[go_sem] theorem rs_161 : Tryz.f161.results.toList = [.cell 4 36] := rfl
@[go_sem] theorem rs_162 : Tryz.f162.results.toList = [.tmp 4] := rfl
@[go_sem] theorem rs_163 : Tryz.f163.results.toList = [.tmp 4] := rfl
@[go_sem] theorem rs_164 : Tryz.f164.results.toList = [.tmp 6] := rfl
@[go_sem] theorem rs_165 : Tryz.f165.results.toList = [.tmp 2] := rfl
@[go_sem] theorem rs_166 : Tryz.f166.results.toList = [.cell 2 22] := rfl
@[go_sem] theorem rs_167 : Tryz.f167.results.toList = [] := rfl
@[go_sem] theorem rs_168 : Tryz.f168.results.toList = [] := rfl
@[go_sem] theorem rs_169 : Tryz.f169.results.toList = [] := rfl
@[go_sem] theorem rs_170 : Tryz.f170.results.toList = [.tmp 6, .tmp 7] := rfl
@[go_sem] theorem rs_171 : Tryz.f171.results.toList = [] := rfl
@[go_sem] theorem rs_172 : Tryz.f172.results.toList = [.tmp 6] := rfl
@[go_sem] theorem rs_173 : Tryz.f173.results.toList = [.tmp 4] := rfl
@[go_sem] theorem rs_174 : Tryz.f174.results.toList = [.tmp 8] := rfl
@[go_sem] theorem rs_175 : Tryz.f175.results.toList = [.tmp 8, .tmp 9] := rfl
@[go_sem] theorem rs_176 : Tryz.f176.results.toList = [.tmp 2] := rfl
@[go_sem] theorem rs_177 : Tryz.f177.results.toList = [.tmp 2] := rfl
@[go_sem] theorem rs_178 : Tryz.f178.results.toList = [.tmp 4] := rfl
@[go_sem] theorem rs_179 : Tryz.f179.results.toList = [] := rfl
@[go_sem] theorem rs_180 : Tryz.f180.results.toList = [.cell 4 107, .tmp 5, .tmp 6] := rfl
@[go_sem] theorem rs_181 : Tryz.f181.results.toList = [.cell 4 100, .tmp 5] := rfl
@[go_sem] theorem rs_182 : Tryz.f182.results.toList = [.tmp 4, .tmp 5] := rfl
@[go_sem] theorem rs_183 : Tryz.f183.results.toList = [.tmp 4] := rfl
@[go_sem] theorem rs_184 : Tryz.f184.results.toList = [.tmp 3] := rfl
@[go_sem] theorem rs_185 : Tryz.f185.results.toList = [.cell 2 103] := rfl
@[go_sem] theorem rs_186 : Tryz.f186.results.toList = [.tmp 4, .tmp 5] := rfl
@[go_sem] theorem rs_187 : Tryz.f187.results.toList = [.tmp 6] := rfl
@[go_sem] theorem rs_188 : Tryz.f188.results.toList = [.tmp 2] := rfl
@[go_sem] theorem rs_189 : Tryz.f189.results.toList = [.tmp 2] := rfl
@[go_sem] theorem rs_190 : Tryz.f190.results.toList = [.tmp 4] := rfl
@[go_sem] theorem rs_191 : Tryz.f191.results.toList = [.cell 4 28, .tmp 5] := rfl
@[go_sem] theorem rs_192 : Tryz.f192.results.toList = [.cell 12 66] := rfl
@[go_sem] theorem rs_193 : Tryz.f193.results.toList = [.cell 6 100, .cell 7 194, .tmp 8] := rfl
@[go_sem] theorem rs_194 : Tryz.f194.results.toList = [.cell 8 103, .tmp 9] := rfl
@[go_sem] theorem rs_195 : Tryz.f195.results.toList = [.tmp 4] := rfl
@[go_sem] theorem rs_196 : Tryz.f196.results.toList = [.tmp 6] := rfl
@[go_sem] theorem rs_197 : Tryz.f197.results.toList = [.tmp 5] := rfl
@[go_sem] theorem rs_198 : Tryz.f198.results.toList = [.cell 4 100, .tmp 5] := rfl
@[go_sem] theorem rs_199 : Tryz.f199.results.toList = [.cell 4 112, .tmp 5] := rfl
@[go_sem] theorem rs_200 : Tryz.f200.results.toList = [.tmp 2] := rfl
@[go_sem] theorem rs_201 : Tryz.f201.results.toList = [.tmp 4] := rfl
@[go_sem] theorem rs_202 : Tryz.f202.results.toList = [.tmp 4] := rfl
@[go_sem] theorem rs_203 : Tryz.f203.results.toList = [.tmp 2] := rfl
@[go_sem] theorem rs_204 : Tryz.f204.results.toList = [.tmp 2] := rfl
@[go_sem] theorem rs_205 : Tryz.f205.results.toList = [.tmp 2] := rfl
@[go_sem] theorem rs_206 : Tryz.f206.results.toList = [.tmp 4] := rfl
@[go_sem] theorem rs_207 : Tryz.f207.results.toList = [.tmp 4] := rfl
@[go_sem] theorem rs_208 : Tryz.f208.results.toList = [.tmp 3] := rfl
@[go_sem] theorem rs_209 : Tryz.f209.results.toList = [.tmp 4] := rfl
@[go_sem] theorem rs_210 : Tryz.f210.results.toList = [.tmp 2, .tmp 3] := rfl
@[go_sem] theorem rs_211 : Tryz.f211.results.toList = [.tmp 2] := rfl
@[go_sem] theorem rs_212 : Tryz.f212.results.toList = [] := rfl
@[go_sem] theorem rs_213 : Tryz.f213.results.toList = [.tmp 2] := rfl
@[go_sem] theorem rs_214 : Tryz.f214.results.toList = [.tmp 2] := rfl
@[go_sem] theorem rs_215 : Tryz.f215.results.toList = [.tmp 6] := rfl
@[go_sem] theorem rs_216 : Tryz.f216.results.toList = [.tmp 10] := rfl
@[go_sem] theorem rs_217 : Tryz.f217.results.toList = [.cell 4 159, .tmp 5] := rfl
@[go_sem] theorem rs_218 : Tryz.f218.results.toList = [.tmp 2] := rfl
@[go_sem] theorem rs_219 : Tryz.f219.results.toList = [.tmp 6] := rfl
@[go_sem] theorem rs_220 : Tryz.f220.results.toList = [.tmp 4] := rfl
@[go_sem] theorem rs_221 : Tryz.f221.results.toList = [] := rfl
@[go_sem] theorem rs_222 : Tryz.f222.results.toList = [] := rfl
@[go_sem] theorem rs_223 : Tryz.f223.results.toList = [.tmp 2] := rfl
@[go_sem] theorem rs_224 : Tryz.f224.results.toList = [.tmp 2] := rfl
@[go_sem] theorem rs_225 : Tryz.f225.results.toList = [.tmp 4] := rfl
@[go_sem] theorem rs_226 : Tryz.f226.results.toList = [] := rfl
@[go_sem] theorem rs_227 : Tryz.f227.results.toList = [.tmp 6] := rfl
@[go_sem] theorem rs_228 : Tryz.f228.results.toList = [.tmp 4] := rfl
@[go_sem] theorem rs_229 : Tryz.f229.results.toList = [.tmp 4, .tmp 5] := rfl
@[go_sem] theorem rs_230 : Tryz.f230.results.toList = [.tmp 2] := rfl
@[go_sem] theorem rs_231 : Tryz.f231.results.toList = [.cell 4 100] := rfl
@[go_sem] theorem rs_232 : Tryz.f232.results.toList = [.cell 2 100] := rfl
@[go_sem] theorem rs_233 : Tryz.f233.results.toList = [.tmp 6] := rfl
@[go_sem] theorem rs_234 : Tryz.f234.results.toList = [.tmp 3] := rfl
@[go_sem] theorem rs_235 : Tryz.f235.results.toList = [.cell 2 28] := rfl
@[go_sem] theorem rs_236 : Tryz.f236.results.toList = [.tmp 6, .tmp 7] := rfl
@[go_sem] theorem rs_237 : Tryz.f237.results.toList = [.tmp 4] := rfl
@[go_sem] theorem rs_238 : Tryz.f238.results.toList = [] := rfl
@[go_sem] theorem rs_239 : Tryz.f239.results.toList = [] := rfl
@[go_sem] theorem rs_240 : Tryz.f240.results.toList = [.tmp 2] := rfl
@[go_sem] theorem rs_241 : Tryz.f241.results.toList = [.tmp 4] := rfl
@[go_sem] theorem rs_242 : Tryz.f242.results.toList = [.tmp 3] := rfl
@[go_sem] theorem rs_243 : Tryz.f243.results.toList = [.tmp 3] := rfl
@[go_sem] theorem rs_244 : Tryz.f244.results.toList = [.tmp 3] := rfl
@[go_sem] theorem rs_245 : Tryz.f245.results.toList = [.tmp 4] := rfl
@[go_sem] theorem rs_246 : Tryz.f246.results.toList = [.tmp 6] := rfl
@[go_sem] theorem rs_247 : Tryz.f247.results.toList = [.tmp 2] := rfl
@[go_sem] theorem rs_248 : Tryz.f248.results.toList = [.tmp 2] := rfl
@[go_sem] theorem rs_249 : Tryz.f249.results.toList = [.tmp 4] := rfl
@[go_sem] theorem rs_250 : Tryz.f250.results.toList = [.tmp 2] := rfl
@[go_sem] theorem rs_251 : Tryz.f251.results.toList = [.tmp 2] := rfl
@[go_sem] theorem rs_252 : Tryz.f252.results.toList = [.tmp 4] := rfl
@[go_sem] theorem rs_253 : Tryz.f253.results.toList = [.tmp 4] := rfl
@[go_sem] theorem rs_254 : Tryz.f254.results.toList = [.tmp 4] := rfl
@[go_sem] theorem rs_255 : Tryz.f255.results.toList = [.tmp 4] := rfl
@[go_sem] theorem rs_256 : Tryz.f256.results.toList = [.tmp 6] := rfl
@[go_sem] theorem rs_258 : Tryz.f258.results.toList = [.tmp 10] := rfl
@[go_sem] theorem rs_260 : Tryz.f260.results.toList = [.tmp 8, .tmp 9] := rfl
@[go_sem] theorem rs_261 : Tryz.f261.results.toList = [.tmp 4] := rfl
@[go_sem] theorem rs_262 : Tryz.f262.results.toList = [.tmp 3] := rfl
@[go_sem] theorem rs_263 : Tryz.f263.results.toList = [.tmp 2] := rfl
@[go_sem] theorem rs_264 : Tryz.f264.results.toList = [.tmp 4, .tmp 5] := rfl
@[go_sem] theorem rs_265 : Tryz.f265.results.toList = [.tmp 6] := rfl
@[go_sem] theorem rs_266 : Tryz.f266.results.toList = [.tmp 6] := rfl
@[go_sem] theorem rs_267 : Tryz.f267.results.toList = [.tmp 3] := rfl
@[go_sem] theorem rs_268 : Tryz.f268.results.toList = [.tmp 4] := rfl
@[go_sem] theorem rs_269 : Tryz.f269.results.toList = [.tmp 4] := rfl
@[go_sem] theorem rs_270 : Tryz.f270.results.toList = [] := rfl
@[go_sem] theorem rs_271 : Tryz.f271.results.toList = [.tmp 5] := rfl
@[go_sem] theorem rs_272 : Tryz.f272.results.toList = [.tmp 2] := rfl
@[go_sem] theorem rs_273 : Tryz.f273.results.toList = [.tmp 6] := rfl
@[go_sem] theorem rs_274 : Tryz.f274.results.toList = [.tmp 6, .tmp 7] := rfl
@[go_sem] theorem rs_275 : Tryz.f275.results.toList = [.tmp 4] := rfl
@[go_sem] theorem rs_276 : Tryz.f276.results.toList = [.tmp 6] := rfl
@[go_sem] theorem rs_277 : Tryz.f277.results.toList = [] := rfl
@[go_sem] theorem rs_278 : Tryz.f278.results.toList = [] := rfl
@[go_sem] theorem rs_279 : Tryz.f279.results.toList = [] := rfl
@[go_sem] theorem rs_280 : Tryz.f280.results.toList = [.tmp 4] := rfl
@[go_sem] theorem rs_281 : Tryz.f281.results.toList = [.tmp 3] := rfl
@[go_sem] theorem rs_282 : Tryz.f282.results.toList = [.tmp 4] := rfl
@[go_sem] theorem rs_283 : Tryz.f283.results.toList = [.tmp 3] := rfl
@[go_sem] theorem rs_284 : Tryz.f284.results.toList = [.tmp 4] := rfl
@[go_sem] theorem rs_285 : Tryz.f285.results.toList = [.tmp 3] := rfl
@[go_sem] theorem rs_286 : Tryz.f286.results.toList = [.tmp 2] := rfl
@[go_sem] theorem rs_287 : Tryz.f287.results.toList = [.tmp 4] := rfl
@[go_sem] theorem rs_288 : Tryz.f288.results.toList = [.tmp 3] := rfl
@[go_sem] theorem rs_289 : Tryz.f289.results.toList = [] := rfl
@[go_sem] theorem rs_290 : Tryz.f290.results.toList = [.tmp 2, .tmp 3] := rfl
@[go_sem] theorem rs_291 : Tryz.f291.results.toList = [.tmp 4] := rfl
@[go_sem] theorem rs_293 : Tryz.f293.results.toList = [.tmp 4] := rfl
@[go_sem] theorem rs_294 : Tryz.f294.results.toList = [.tmp 4] := rfl
@[go_sem] theorem rs_295 : Tryz.f295.results.toList = [.tmp 6] := rfl
@[go_sem] theorem rs_296 : Tryz.f296.results.toList = [.tmp 6] := rfl
@[go_sem] theorem rs_298 : Tryz.f298.results.toList = [.tmp 6, .tmp 7] := rfl
@[go_sem] theorem rs_299 : Tryz.f299.results.toList = [.tmp 4] := rfl
@[go_sem] theorem rs_300 : Tryz.f300.results.toList = [.cell 2 355] := rfl
@[go_sem] theorem rs_301 : Tryz.f301.results.toList = [.tmp 4] := rfl
@[go_sem] theorem rs_302 : Tryz.f302.results.toList = [] := rfl
@[go_sem] theorem rs_303 : Tryz.f303.results.toList = [] := rfl
@[go_sem] theorem rs_304 : Tryz.f304.results.toList = [] := rfl
@[go_sem] theorem rs_305 : Tryz.f305.results.toList = [.tmp 2] := rfl
@[go_sem] theorem rs_306 : Tryz.f306.results.toList = [] := rfl
@[go_sem] theorem rs_307 : Tryz.f307.results.toList = [] := rfl
@[go_sem] theorem rs_308 : Tryz.f308.results.toList = [] := rfl
@[go_sem] theorem rs_309 : Tryz.f309.results.toList = [] := rfl
@[go_sem] theorem rs_310 : Tryz.f310.results.toList = [.tmp 2, .tmp 3] := rfl
@[go_sem] theorem rs_314 : Tryz.f314.results.toList = [.tmp 2] := rfl
@[go_sem] theorem rs_319 : Tryz.f319.results.toList = [] := rfl
@[go_sem] theorem rs_320 : Tryz.f320.results.toList = [] := rfl
@[go_sem] theorem rs_321 : Tryz.f321.results.toList = [] := rfl
@[go_sem] theorem rs_322 : Tryz.f322.results.toList = [] := rfl
@[go_sem] theorem rs_323 : Tryz.f323.results.toList = [] := rfl
@[go_sem] theorem rs_333 : Tryz.f333.results.toList = [.tmp 2] := rfl
@[go_sem] theorem rs_334 : Tryz.f334.results.toList = [] := rfl
@[go_sem] theorem rs_335 : Tryz.f335.results.toList = [] := rfl
@[go_sem] theorem rs_336 : Tryz.f336.results.toList = [] := rfl
@[go_sem] theorem rs_339 : Tryz.f339.results.toList = [.tmp 2] := rfl
@[go_sem] theorem rs_340 : Tryz.f340.results.toList = [.tmp 2] := rfl
@[go_sem] theorem rs_341 : Tryz.f341.results.toList = [] := rfl
@[go_sem] theorem rs_358 : Tryz.f358.results.toList = [] := rfl
@[go_sem] theorem rs_359 : Tryz.f359.results.toList = [] := rfl
@[go_sem] theorem rs_363 : Tryz.f363.results.toList = [] := rfl
@[go_sem] theorem rs_364 : Tryz.f364.results.toList = [] := rfl
@[go_sem] theorem rs_365 : Tryz.f365.results.toList = [] := rfl
@[go_sem] theorem rs_366 : Tryz.f366.results.toList = [] := rfl
@[go_sem] theorem rs_368 : Tryz.f368.results.toList = [] := rfl
@[go_sem] theorem rs_369 : Tryz.f369.results.toList = [] := rfl
open Go.RowKit
open Go.PA
abbrev sp (p : Nat) : AV := .sc (.pointer (some ⟨p, 0, none⟩))
set_option maxHeartbeats 400000 in
theorem N_out (p : Nat) (A : Option Addr) (len c : Nat) (at_ : Int) (n : Int) (w : World)
    (h0 : w.cell? ⟨p, 0, none⟩ = some (.slice A len c)) (h1 : w.cell? ⟨p, 1, none⟩ = some (.int .i64 at_))
    (hge : (len : Int) ≤ at_) :
    Calls Tryz.prog 16 #[.pointer (some ⟨p, 0, none⟩), .int .i64 n] w fun e w' => e = .returned (.int .i64 0) ∧ ∃ k, w' = w.drewN k := by
  have hge' : decide ((len : Int) ≤ at_) = true := by simpa using hge
  go_enter Tryz.func16, Tryz.ntmps16
  go_wp2
  go_quiet (fail)
  go_wp2
  go_ret
  exact ⟨rfl, _, rfl⟩
set_option maxHeartbeats 400000 in
theorem N_low (p : Nat) (A : Option Addr) (len c : Nat) (at_ : Int) (n : Int) (w : World)
    (h0 : w.cell? ⟨p, 0, none⟩ = some (.slice A len c)) (h1 : w.cell? ⟨p, 1, none⟩ = some (.int .i64 at_))
    (hlt : at_ < len) (hn : n < 1) :
    Calls Tryz.prog 16 #[.pointer (some ⟨p, 0, none⟩), .int .i64 n] w fun e w' => e = .returned (.int .i64 0) ∧ ∃ k, w' = w.drewN k := by
  have hge' : decide ((len : Int) ≤ at_) = false := by simpa using hlt
  have hn' : decide (n < 1) = true := by simpa using hn
  go_enter Tryz.func16, Tryz.ntmps16
  go_wp2
  go_quiet (fail)
  go_wp2
  go_ret
  exact ⟨rfl, _, rfl⟩
set_option maxHeartbeats 400000 in
theorem N_in (p : Nat) (ad : Addr) (len c : Nat) (at_ : Nat) (n x : Int) (w : World)
    (h0 : w.cell? ⟨p, 0, none⟩ = some (.slice (some ad) len c)) (h1 : w.cell? ⟨p, 1, none⟩ = some (.int .i64 at_))
    (hf : w.frozen? ⟨p, 1, none⟩ = false)
    (hx : w.cell? (ad.add at_) = some (.int .i64 x)) (hp : ad.block ≠ p)
    (hlen : len ≤ 900)
    (hlt : (at_ : Int) < len) (hn : 1 ≤ n) (hn2 : n ≤ 4000000000000000000) :
    Calls Tryz.prog 16 #[.pointer (some ⟨p, 0, none⟩), .int .i64 n] w fun e w' => e = .returned (.int .i64 ((x.tmod n + n) % n)) ∧ ∃ j k, w' = ((w.drewN j).setCell ⟨p, 1, none⟩ (.int .i64 (at_ + 1))).drewN k := by
  have hge' : decide (len ≤ at_) = false := by simp; omega
  have hn' : decide (n < 1) = false := by simpa using hn
  have hw1 : IntKind.i64.wrap (at_ : Int) = at_ := by rw [IntKind.wrap_i64]; omega
  have hx' : ∀ nq : Nat, ((w.drewN nq).setCell ⟨p, 1, none⟩ (.int .i64 (at_ + 1))).cell? (ad.add at_) = some (.int .i64 x) := fun nq => by
    have h : (⟨p, 1, none⟩ : Addr) ≠ ad.add at_ := fun e => hp (by rw [← block_add ad at_, ← e])
    exact (World.cell?_setCell_other _ _ _ _ h).trans hx
  have hn0 : ¬ n = 0 := by omega
  have hb : -n < x.tmod n ∧ x.tmod n < n := by
    exact ⟨Int.lt_tmod_of_pos x (by omega), Int.tmod_lt_of_pos x (by omega)⟩
  have hw2 : IntKind.i64.wrap (x.tmod n + n) = x.tmod n + n := by rw [IntKind.wrap_i64]; omega
  go_enter Tryz.func16, Tryz.ntmps16
  go_wp2
  go_quiet (fail)
  go_wp2
  go_quiet (fail)
  go_wp2
  go_ret
  exact ⟨rfl, _, _, rfl⟩
def NQ (n : Int) (x : AV) : Prop := ∃ m : Int, x = iv m ∧ (n < 1 → m = 0) ∧ (1 ≤ n → 0 ≤ m ∧ m < n)
theorem N_pf (p : Nat) (src : Option Nat) (n : Int) (hn2 : n ≤ 4000000000000000000) : PFun Tryz.prog (some p) src 16 [sp p, iv n] (NQ n) := by
  intro w ok vs hok hinv hsz hrep
  have hv0 := hrep 0 (vs[0]'(by simp at hsz; omega)) (sp p) (Array.getElem?_eq_getElem _) rfl
  have hv1 := hrep 1 (vs[1]'(by simp at hsz; omega)) (iv n) (Array.getElem?_eq_getElem _) rfl
  have e0 := rep_sc hv0
  have e1 := rep_sc hv1
  have hvs : vs = #[.pointer (some ⟨p, 0, none⟩), .int .i64 n] := by
    apply Array.ext
    · simpa using hsz
    · intro i h1 h2
      match i with
      | 0 => simpa using e0
      | 1 => simpa using e1
      | i + 2 => simp at h2; omega
  subst hvs
  obtain ⟨cur, A, len, c, at_, ty, ⟨hb, hc0, hc1⟩, ha, hl, hsrc⟩ := hinv.2 p rfl
  have h0 : w.cell? ⟨p, 0, none⟩ = some (.slice A len c) := by rw [cell_of_row w p _ _ ty (0, 0) hb]; exact hc0
  have h1 : w.cell? ⟨p, 1, none⟩ = some (.int .i64 at_) := by rw [cell_of_row w p _ _ ty (0, 0) hb]; exact hc1
  have hf : w.frozen? ⟨p, 1, none⟩ = false := by simp [World.frozen?, hb]
  have quiet : ∀ {e : Ending} {w' : World}, (e = .returned (.int .i64 0) ∧ ∃ k, w' = w.drewN k) → (NQ n (iv 0)) → ∃ (v : Value) (x : AV), e = .returned v ∧ NQ n x ∧ Imm x ∧ RepI w' (fun b => ok b ∨ (w.heap.size ≤ b ∧ b < w'.heap.size)) v x ∧ w.grownBy w' (some p) ∧ Inv (some p) src ok w' := by
    rintro e w' ⟨rfl, k, rfl⟩ hq
    exact ⟨_, iv 0, rfl, hq, .sc, .sc, ⟨rfl, rfl, rfl, Nat.le_refl _, fun _ _ _ => rfl⟩, hinv⟩
  by_cases hge : (len : Int) ≤ at_
  · refine (N_out p A len c at_ n w h0 h1 hge).mono fun e w' h => quiet h ⟨0, rfl, fun _ => rfl, fun h => ⟨Int.le_refl _, by omega⟩⟩
  by_cases hn : n < 1
  · refine (N_low p A len c at_ n w h0 h1 (by omega) hn).mono fun e w' h => quiet h ⟨0, rfl, fun _ => rfl, fun h => ⟨Int.le_refl _, by omega⟩⟩
  obtain ⟨ad, x, rfl, hs, hp, hx, hxb⟩ := hsrc at_ (by omega)
  refine (N_in p ad len c at_ n x w h0 h1 hf hx hp hl (by omega) (by omega) hn2).mono ?_
  rintro e w' ⟨rfl, j, k, rfl⟩
  refine ⟨_, iv ((x.tmod n + n) % n), rfl, ⟨_, rfl, fun h => by omega, fun h => ⟨Int.emod_nonneg _ (by omega), Int.emod_lt_of_pos _ (by omega)⟩⟩, .sc, .sc, ⟨rfl, rfl, rfl, by simp [World.setCell, World.drewN], fun q hq hne => ?_⟩, ⟨hinv.1.1, fun g hg => ⟨(hinv.1.2 g hg).1, ?_⟩⟩, fun q hq => ?_⟩
  · have : p ≠ q := fun e => hne (by rw [e])
    simp [World.setCell, World.drewN, Array.getElem?_modify, this]
  · obtain ⟨t, v, hc⟩ := (hinv.1.2 g hg).2
    have : p ≠ g := fun e => (hok g (hinv.1.2 g hg).1).2 (by rw [e])
    exact ⟨t, v, (World.cell?_of_block (w := w) (by simp [World.setCell, World.drewN, Array.getElem?_modify, this])).trans hc⟩
  · cases hq
    have hlt : 1 < cur.size := (Array.getElem?_eq_some_iff.1 hc1).1
    refine ⟨cur.setIfInBounds 1 (.int .i64 (at_ + 1)), some ad, len, c, at_ + 1, ty, ⟨?_, ?_, ?_⟩, by omega, hl, fun i hi => ?_⟩
    · simp [World.setCell, World.drewN, Array.getElem?_modify, hb]
    · rw [Array.getElem?_setIfInBounds_ne (by omega)]; exact hc0
    · rw [Array.getElem?_setIfInBounds]; simp [hlt]
    · obtain ⟨ad', x', h1', h2', h3', h4', h5'⟩ := hsrc i hi
      cases h1'
      refine ⟨ad, x', rfl, hs, hp, ?_, h5'⟩
      have h : (⟨p, 1, none⟩ : Addr) ≠ ad.add i := fun e => hp (by rw [← block_add ad i, ← e])
      exact (World.cell?_setCell_other _ _ _ _ h).trans h4'
open Go.PA
open Go.RowKit
def intsL (xs : List Int) : AV := .list 1 (xs.map fun x => [iv x])
def Small (xs : List Int) : Prop := ∀ x, x ∈ xs → -9223372036854775808 ≤ x ∧ x ≤ 9223372036854775807
theorem new_pf (xs : List Int) (hl : xs.length ≤ 9223372036854775807) : POwn Tryz.prog none none 4 [intsL xs] 60 2 (· = [[intsL (xs.take 900), iv 0]]) := by
  refine pown_intro Tryz.func4 rfl (by simp [Tryz.f4]) (by kernel_rfl) ?_
  intro E hP hr hs hW hN
  simp [go_sem, hP, intsL, amin, aminFrom, asliceOp, bound, aslice]
  have c : 0 ≤ min (xs.length : Int) 900 ∧ min (xs.length : Int) 900 ≤ xs.length := ⟨by omega, by omega⟩
  have m : (min (xs.length : Int) 900).toNat = min 900 xs.length := by omega
  rw [if_pos c, m]
  simp [go_sem, hP, AOwn, Tryz.f4]
  intro e he a ha
  have := List.mem_of_mem_take he
  simp at this
  obtain ⟨x, _, rfl⟩ := this
  simp at ha
  subst ha
  exact .sc
theorem range_pf (p : Nat) (src : Option Nat) (lo hi : Int) (h1 : -1000000000000000000 ≤ lo ∧ lo ≤ 1000000000000000000) (h2 : -1000000000000000000 ≤ hi ∧ hi ≤ 1000000000000000000) :
    PFun Tryz.prog (some p) src 28 [sp p, iv lo, iv hi] (fun x => ∃ m : Int, x = iv m ∧ (lo ≤ hi → lo ≤ m ∧ m ≤ hi) ∧ (hi < lo → m = lo)) := by
  refine pfun_intro Tryz.func28 rfl (by simp [Tryz.f28]) (by kernel_rfl) ?_
  intro E hP hr hs hW hN
  have w1 := wrap_in (hi - lo) (by omega)
  have w2 := wrap_in (hi - lo + 1) (by omega)
  simp [go_sem, *]
  refine callB_flat (hr ▸ hs ▸ N_pf p src (hi - lo + 1) (by omega)) hP en_16 (by simp [go_sem]) ?_ ?_ ?_
  · by_cases h : hi - lo + 1 < 1
    · exact ⟨iv 0, 0, rfl, fun _ => rfl, fun h' => by omega⟩
    · exact ⟨iv 0, 0, rfl, fun _ => rfl, fun h' => by omega⟩
  · rintro r ⟨m, rfl, _⟩; exact .sc
  · rintro r ⟨m, rfl, a1, a2⟩
    have w3 := wrap_in (lo + m) (by omega)
    simp [go_sem, *, Tryz.f28]
    omega
theorem pick_pf (p : Nat) (src : Option Nat) (xs : List Int) (h : 1 ≤ xs.length ∧ xs.length ≤ 1000) :
    PFun Tryz.prog (some p) src 7 [sp p, intsL xs] (fun x => ∃ m : Int, x = iv m ∧ m ∈ xs) := by
  refine pfun_intro Tryz.func7 rfl (by simp [Tryz.f7]) (by kernel_rfl) ?_
  intro E hP hr hs hW hN
  simp [go_sem, hP, intsL]
  refine callB_flat (hr ▸ hs ▸ N_pf p src xs.length (by omega)) hP en_16 (by simp [go_sem]) ?_ ?_ ?_
  · exact ⟨iv 0, 0, rfl, fun _ => rfl, fun h' => by omega⟩
  · rintro r ⟨m, rfl, _⟩; exact .sc
  · rintro r ⟨m, rfl, a1, a2⟩
    obtain ⟨b1, b2⟩ := a2 (by omega)
    have b3 : m.toNat < xs.length := by omega
    simp [go_sem, *, Tryz.f7]
theorem NQ_ex (n : Int) : ∃ r, NQ n r := ⟨iv 0, 0, rfl, fun _ => rfl, fun h => by omega⟩
theorem NQ_flat (n : Int) : ∀ r, NQ n r → Flat r := by
  rintro r ⟨m, rfl, _⟩; exact .sc
end Go.Proofs.YtpllcolbcahicaaGreatDoor
set_option maxRecDepth 100000
namespace Go.Proofs.YtpllcolbcahicaaGreatDoor
open Go.RowKit Go.WideShapes Go.ChangeShapes
open Go.PA (RepI PFun AV Rep)
section
variable {H : Type} {enc : TypeId × Value → H} {P : Program}
theorem post_of_below {f : Func} {s : ChangeSpec} {apart fresh handsOn again : Bool} {W W' : World} {args : Array Value} {v : Value} {ds gs : List (DataW H)} {before pa pv : List MemPlace}
    (hW : DataW.Whole enc P f.params.toList s.vars apart W args.toList ds gs before)
    (hres : ∀ (b : Nat) (sp : Nat → Bool) (hd : Bool), DataW.TrodAll enc P W' b sp hd f.resultTypes.toList (v.resultList f.resultTypes.size) (s.fn H (ds ++ gs)).results [])
    (hargs : ∀ sp : Nat → Bool, (∀ p ∈ before, sp p.block = true) → DataW.TrodAll enc P W' 0 sp true f.params.toList args.toList (s.fn H (ds ++ gs)).args pa)
    (hvars : ∀ sp : Nat → Bool, (∀ p ∈ before, sp p.block = true) → DataW.TrodVars enc P W' sp s.vars (s.fn H (ds ++ gs)).vars pv)
    (hps : before = pa ++ pv) (hb : Below W.heap.size W W')
    (hok : ∀ (j : Nat) (t : TypeId) (r : Value), f.resultTypes[j]? = some t → (v.resultList f.resultTypes.size)[j]? = some r → Value.okWide P W' .any 0 t r) :
    s.post enc P f apart fresh handsOn again W args v W' := by
  have hlt : ∀ p ∈ before, p.block < W.heap.size := fun p hp => hW.lt p hp
  have hold : ∀ p ∈ before, (fun b => decide (b < W.heap.size)) p.block = true := fun p hp => by simpa using hlt p hp
  refine ⟨ds, gs, before, [], pa, pv, hW, hres _ _ _, hargs _ hold, hvars _ hold, World.keptBut_mono (fun p hp => ⟨hp, ?_⟩) (hb.frame (· ∈ before)), fun _ => ?_⟩
  · rw [hps, List.mem_append] at hp
    exact Or.inr hp
  · obtain ⟨_, _, _, _, _, hz, hn⟩ := hW
    refine ⟨hok, _, _, ([] ++ pa) ++ pv, ⟨[] ++ pa, pv, trodAll_append (hargs _ (fun _ _ => rfl)) (hres _ _ _), hvars _ (fun _ _ => rfl), rfl, ?_, ?_⟩, ?_⟩
    · intro b off hp
      have hin : MemPlace.cell b off ∈ before := by rw [hps]; simpa using hp
      rw [hb.frozen (hlt _ hin)]
      exact hz b off hin
    · intro ha
      have := hn ha
      rw [hps] at this
      simpa using this
    · intro p hp _
      rw [hps]
      simpa using hp
end
theorem Tryz.own : ownKnob Tryz.prog.godebug = none := by kernel_rfl
theorem Tryz.laidOut : laidOutB Tryz.prog = true := by kernel_rfl
end Go.Proofs.YtpllcolbcahicaaGreatDoor
