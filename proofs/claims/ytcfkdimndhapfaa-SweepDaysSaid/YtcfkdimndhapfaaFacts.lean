/- The types and functions of this seat's program, as PA reads them. Printed by wip/facts.py. -/
import Derived.Test.YtcfkdimndhapfaaPa16
import Derived.Test.YtcfkdimndhapfaaProg
import Derived.KernelRfl
namespace Go.Proofs.Ytcfkdimndhapfaa
open Go.PA

@[go_sem] theorem sz_2 : szOf Try.prog 2 = 1 := by kernel_rfl
@[go_sem] theorem kn_2 : knownT Try.prog 2 = true := by kernel_rfl
@[go_sem] theorem ag_2 : aggOf Try.prog 2 = false := by kernel_rfl
@[go_sem] theorem us_2 : (Try.prog.underlying 2).isSome = true := by kernel_rfl
@[go_sem] theorem un_2 : Try.prog.underlying 2 = some (.int .i64) := by kernel_rfl
@[go_sem] theorem ze_2 : zeros Try.prog 2 = some [.sc (.int .i64 0)] := by kernel_rfl
@[go_sem] theorem by_2 : bytesOf Try.prog 2 = 8 := by kernel_rfl
@[go_sem] theorem sz_3 : szOf Try.prog 3 = 1 := by kernel_rfl
@[go_sem] theorem kn_3 : knownT Try.prog 3 = true := by kernel_rfl
@[go_sem] theorem ag_3 : aggOf Try.prog 3 = false := by kernel_rfl
@[go_sem] theorem us_3 : (Try.prog.underlying 3).isSome = true := by kernel_rfl
@[go_sem] theorem un_3 : Try.prog.underlying 3 = some (.int .i64) := by kernel_rfl
@[go_sem] theorem ze_3 : zeros Try.prog 3 = some [.sc (.int .i64 0)] := by kernel_rfl
@[go_sem] theorem by_3 : bytesOf Try.prog 3 = 8 := by kernel_rfl
@[go_sem] theorem sz_4 : szOf Try.prog 4 = 1 := by kernel_rfl
@[go_sem] theorem kn_4 : knownT Try.prog 4 = true := by kernel_rfl
@[go_sem] theorem ag_4 : aggOf Try.prog 4 = false := by kernel_rfl
@[go_sem] theorem us_4 : (Try.prog.underlying 4).isSome = true := by kernel_rfl
@[go_sem] theorem un_4 : Try.prog.underlying 4 = some .bool := by kernel_rfl
@[go_sem] theorem ze_4 : zeros Try.prog 4 = some [.sc (.bool false)] := by kernel_rfl
@[go_sem] theorem by_4 : bytesOf Try.prog 4 = 1 := by kernel_rfl
@[go_sem] theorem sz_5 : szOf Try.prog 5 = 1 := by kernel_rfl
@[go_sem] theorem kn_5 : knownT Try.prog 5 = true := by kernel_rfl
@[go_sem] theorem ag_5 : aggOf Try.prog 5 = false := by kernel_rfl
@[go_sem] theorem us_5 : (Try.prog.underlying 5).isSome = true := by kernel_rfl
@[go_sem] theorem un_5 : Try.prog.underlying 5 = some (.int .u8) := by kernel_rfl
@[go_sem] theorem ze_5 : zeros Try.prog 5 = some [.sc (.int .u8 0)] := by kernel_rfl
@[go_sem] theorem by_5 : bytesOf Try.prog 5 = 1 := by kernel_rfl
@[go_sem] theorem sz_9 : szOf Try.prog 9 = 1 := by kernel_rfl
@[go_sem] theorem kn_9 : knownT Try.prog 9 = true := by kernel_rfl
@[go_sem] theorem ag_9 : aggOf Try.prog 9 = false := by kernel_rfl
@[go_sem] theorem us_9 : (Try.prog.underlying 9).isSome = true := by kernel_rfl
@[go_sem] theorem un_9 : Try.prog.underlying 9 = some .string := by kernel_rfl
@[go_sem] theorem ze_9 : zeros Try.prog 9 = some [.sc (.string ByteArray.empty)] := by kernel_rfl
@[go_sem] theorem by_9 : bytesOf Try.prog 9 = 16 := by kernel_rfl
@[go_sem] theorem sz_12 : szOf Try.prog 12 = 1 := by kernel_rfl
@[go_sem] theorem kn_12 : knownT Try.prog 12 = true := by kernel_rfl
@[go_sem] theorem ag_12 : aggOf Try.prog 12 = false := by kernel_rfl
@[go_sem] theorem us_12 : (Try.prog.underlying 12).isSome = true := by kernel_rfl
@[go_sem] theorem un_12 : Try.prog.underlying 12 = some (.int .u64) := by kernel_rfl
@[go_sem] theorem ze_12 : zeros Try.prog 12 = some [.sc (.int .u64 0)] := by kernel_rfl
@[go_sem] theorem by_12 : bytesOf Try.prog 12 = 8 := by kernel_rfl
@[go_sem] theorem sz_17 : szOf Try.prog 17 = 1 := by kernel_rfl
@[go_sem] theorem kn_17 : knownT Try.prog 17 = true := by kernel_rfl
@[go_sem] theorem ag_17 : aggOf Try.prog 17 = false := by kernel_rfl
@[go_sem] theorem us_17 : (Try.prog.underlying 17).isSome = true := by kernel_rfl
@[go_sem] theorem ze_17 : zeros Try.prog 17 = some [.sc (.pointer none)] := by kernel_rfl
@[go_sem] theorem by_17 : bytesOf Try.prog 17 = 8 := by kernel_rfl
@[go_sem] theorem sz_21 : szOf Try.prog 21 = 1 := by kernel_rfl
@[go_sem] theorem kn_21 : knownT Try.prog 21 = true := by kernel_rfl
@[go_sem] theorem ag_21 : aggOf Try.prog 21 = false := by kernel_rfl
@[go_sem] theorem us_21 : (Try.prog.underlying 21).isSome = true := by kernel_rfl
@[go_sem] theorem un_21 : Try.prog.underlying 21 = some (.int .i32) := by kernel_rfl
@[go_sem] theorem ze_21 : zeros Try.prog 21 = some [.sc (.int .i32 0)] := by kernel_rfl
@[go_sem] theorem by_21 : bytesOf Try.prog 21 = 4 := by kernel_rfl
@[go_sem] theorem sz_22 : szOf Try.prog 22 = 1 := by kernel_rfl
@[go_sem] theorem kn_22 : knownT Try.prog 22 = true := by kernel_rfl
@[go_sem] theorem ag_22 : aggOf Try.prog 22 = false := by kernel_rfl
@[go_sem] theorem us_22 : (Try.prog.underlying 22).isSome = true := by kernel_rfl
@[go_sem] theorem el_22 : Go.PA.elemOf Try.prog 22 = some 3 := by kernel_rfl
@[go_sem] theorem un_22 : Try.prog.underlying 22 = some (.slice 3) := by kernel_rfl
@[go_sem] theorem ze_22 : zeros Try.prog 22 = some [.nil] := by kernel_rfl
@[go_sem] theorem by_22 : bytesOf Try.prog 22 = 24 := by kernel_rfl
@[go_sem] theorem sz_23 : szOf Try.prog 23 = 1 := by kernel_rfl
@[go_sem] theorem kn_23 : knownT Try.prog 23 = true := by kernel_rfl
@[go_sem] theorem ag_23 : aggOf Try.prog 23 = false := by kernel_rfl
@[go_sem] theorem us_23 : (Try.prog.underlying 23).isSome = true := by kernel_rfl
@[go_sem] theorem ze_23 : zeros Try.prog 23 = some [.sc (.pointer none)] := by kernel_rfl
@[go_sem] theorem by_23 : bytesOf Try.prog 23 = 8 := by kernel_rfl
@[go_sem] theorem sz_25 : szOf Try.prog 25 = 1 := by kernel_rfl
@[go_sem] theorem kn_25 : knownT Try.prog 25 = true := by kernel_rfl
@[go_sem] theorem ag_25 : aggOf Try.prog 25 = false := by kernel_rfl
@[go_sem] theorem us_25 : (Try.prog.underlying 25).isSome = true := by kernel_rfl
@[go_sem] theorem el_25 : Go.PA.elemOf Try.prog 25 = some 31 := by kernel_rfl
@[go_sem] theorem un_25 : Try.prog.underlying 25 = some (.slice 31) := by kernel_rfl
@[go_sem] theorem ze_25 : zeros Try.prog 25 = some [.nil] := by kernel_rfl
@[go_sem] theorem by_25 : bytesOf Try.prog 25 = 24 := by kernel_rfl
@[go_sem] theorem sz_26 : szOf Try.prog 26 = 1 := by kernel_rfl
@[go_sem] theorem kn_26 : knownT Try.prog 26 = true := by kernel_rfl
@[go_sem] theorem ag_26 : aggOf Try.prog 26 = false := by kernel_rfl
@[go_sem] theorem us_26 : (Try.prog.underlying 26).isSome = true := by kernel_rfl
@[go_sem] theorem el_26 : Go.PA.elemOf Try.prog 26 = some 38 := by kernel_rfl
@[go_sem] theorem un_26 : Try.prog.underlying 26 = some (.slice 38) := by kernel_rfl
@[go_sem] theorem ze_26 : zeros Try.prog 26 = some [.nil] := by kernel_rfl
@[go_sem] theorem by_26 : bytesOf Try.prog 26 = 24 := by kernel_rfl
@[go_sem] theorem sz_27 : szOf Try.prog 27 = 3 := by kernel_rfl
@[go_sem] theorem kn_27 : knownT Try.prog 27 = true := by kernel_rfl
@[go_sem] theorem ag_27 : aggOf Try.prog 27 = true := by kernel_rfl
@[go_sem] theorem us_27 : (Try.prog.underlying 27).isSome = true := by kernel_rfl
@[go_sem] theorem fd_27_0 : fieldOf Try.prog 27 0 = some (0, 3) := by kernel_rfl
@[go_sem] theorem fd_27_1 : fieldOf Try.prog 27 1 = some (1, 25) := by kernel_rfl
@[go_sem] theorem fd_27_2 : fieldOf Try.prog 27 2 = some (2, 26) := by kernel_rfl
@[go_sem] theorem el_27 : Go.PA.elemOf Try.prog 27 = none := by kernel_rfl
@[go_sem] theorem ar_27 : arrOf Try.prog 27 = none := by kernel_rfl
@[go_sem] theorem fk_27 : fieldsKnown Try.prog 27 = true := by kernel_rfl
@[go_sem] theorem ze_27 : zeros Try.prog 27 = some [.sc (.int .i64 0), .nil, .nil] := by kernel_rfl
@[go_sem] theorem by_27 : bytesOf Try.prog 27 = 56 := by kernel_rfl
@[go_sem] theorem sz_28 : szOf Try.prog 28 = 3 := by kernel_rfl
@[go_sem] theorem kn_28 : knownT Try.prog 28 = true := by kernel_rfl
@[go_sem] theorem ag_28 : aggOf Try.prog 28 = true := by kernel_rfl
@[go_sem] theorem us_28 : (Try.prog.underlying 28).isSome = true := by kernel_rfl
@[go_sem] theorem fd_28_0 : fieldOf Try.prog 28 0 = some (0, 3) := by kernel_rfl
@[go_sem] theorem fd_28_1 : fieldOf Try.prog 28 1 = some (1, 25) := by kernel_rfl
@[go_sem] theorem fd_28_2 : fieldOf Try.prog 28 2 = some (2, 26) := by kernel_rfl
@[go_sem] theorem el_28 : Go.PA.elemOf Try.prog 28 = none := by kernel_rfl
@[go_sem] theorem ar_28 : arrOf Try.prog 28 = none := by kernel_rfl
@[go_sem] theorem fk_28 : fieldsKnown Try.prog 28 = true := by kernel_rfl
@[go_sem] theorem ze_28 : zeros Try.prog 28 = some [.sc (.int .i64 0), .nil, .nil] := by kernel_rfl
@[go_sem] theorem by_28 : bytesOf Try.prog 28 = 56 := by kernel_rfl
@[go_sem] theorem sz_30 : szOf Try.prog 30 = 2 := by kernel_rfl
@[go_sem] theorem kn_30 : knownT Try.prog 30 = true := by kernel_rfl
@[go_sem] theorem ag_30 : aggOf Try.prog 30 = true := by kernel_rfl
@[go_sem] theorem us_30 : (Try.prog.underlying 30).isSome = true := by kernel_rfl
@[go_sem] theorem fd_30_0 : fieldOf Try.prog 30 0 = some (0, 3) := by kernel_rfl
@[go_sem] theorem fd_30_1 : fieldOf Try.prog 30 1 = some (1, 3) := by kernel_rfl
@[go_sem] theorem el_30 : Go.PA.elemOf Try.prog 30 = none := by kernel_rfl
@[go_sem] theorem ar_30 : arrOf Try.prog 30 = none := by kernel_rfl
@[go_sem] theorem fk_30 : fieldsKnown Try.prog 30 = true := by kernel_rfl
@[go_sem] theorem sg_30 : sigOf Try.prog 30 = some [.int, .int] := by kernel_rfl
@[go_sem] theorem ze_30 : zeros Try.prog 30 = some [.sc (.int .i64 0), .sc (.int .i64 0)] := by kernel_rfl
@[go_sem] theorem by_30 : bytesOf Try.prog 30 = 16 := by kernel_rfl
@[go_sem] theorem sz_31 : szOf Try.prog 31 = 2 := by kernel_rfl
@[go_sem] theorem kn_31 : knownT Try.prog 31 = true := by kernel_rfl
@[go_sem] theorem ag_31 : aggOf Try.prog 31 = true := by kernel_rfl
@[go_sem] theorem us_31 : (Try.prog.underlying 31).isSome = true := by kernel_rfl
@[go_sem] theorem fd_31_0 : fieldOf Try.prog 31 0 = some (0, 3) := by kernel_rfl
@[go_sem] theorem fd_31_1 : fieldOf Try.prog 31 1 = some (1, 3) := by kernel_rfl
@[go_sem] theorem el_31 : Go.PA.elemOf Try.prog 31 = none := by kernel_rfl
@[go_sem] theorem ar_31 : arrOf Try.prog 31 = none := by kernel_rfl
@[go_sem] theorem fk_31 : fieldsKnown Try.prog 31 = true := by kernel_rfl
@[go_sem] theorem sg_31 : sigOf Try.prog 31 = some [.int, .int] := by kernel_rfl
@[go_sem] theorem ze_31 : zeros Try.prog 31 = some [.sc (.int .i64 0), .sc (.int .i64 0)] := by kernel_rfl
@[go_sem] theorem by_31 : bytesOf Try.prog 31 = 16 := by kernel_rfl
@[go_sem] theorem sz_34 : szOf Try.prog 34 = 1 := by kernel_rfl
@[go_sem] theorem kn_34 : knownT Try.prog 34 = true := by kernel_rfl
@[go_sem] theorem ag_34 : aggOf Try.prog 34 = false := by kernel_rfl
@[go_sem] theorem us_34 : (Try.prog.underlying 34).isSome = true := by kernel_rfl
@[go_sem] theorem un_34 : Try.prog.underlying 34 = some (.int .i64) := by kernel_rfl
@[go_sem] theorem ze_34 : zeros Try.prog 34 = some [.sc (.int .i64 0)] := by kernel_rfl
@[go_sem] theorem by_34 : bytesOf Try.prog 34 = 8 := by kernel_rfl
@[go_sem] theorem sz_37 : szOf Try.prog 37 = 6 := by kernel_rfl
@[go_sem] theorem kn_37 : knownT Try.prog 37 = true := by kernel_rfl
@[go_sem] theorem ag_37 : aggOf Try.prog 37 = true := by kernel_rfl
@[go_sem] theorem us_37 : (Try.prog.underlying 37).isSome = true := by kernel_rfl
@[go_sem] theorem fd_37_0 : fieldOf Try.prog 37 0 = some (0, 3) := by kernel_rfl
@[go_sem] theorem fd_37_1 : fieldOf Try.prog 37 1 = some (1, 3) := by kernel_rfl
@[go_sem] theorem fd_37_2 : fieldOf Try.prog 37 2 = some (2, 3) := by kernel_rfl
@[go_sem] theorem fd_37_3 : fieldOf Try.prog 37 3 = some (3, 3) := by kernel_rfl
@[go_sem] theorem fd_37_4 : fieldOf Try.prog 37 4 = some (4, 3) := by kernel_rfl
@[go_sem] theorem fd_37_5 : fieldOf Try.prog 37 5 = some (5, 3) := by kernel_rfl
@[go_sem] theorem el_37 : Go.PA.elemOf Try.prog 37 = none := by kernel_rfl
@[go_sem] theorem ar_37 : arrOf Try.prog 37 = none := by kernel_rfl
@[go_sem] theorem fk_37 : fieldsKnown Try.prog 37 = true := by kernel_rfl
@[go_sem] theorem sg_37 : sigOf Try.prog 37 = some [.int, .int, .int, .int, .int, .int] := by kernel_rfl
@[go_sem] theorem ze_37 : zeros Try.prog 37 = some [.sc (.int .i64 0), .sc (.int .i64 0), .sc (.int .i64 0), .sc (.int .i64 0), .sc (.int .i64 0), .sc (.int .i64 0)] := by kernel_rfl
@[go_sem] theorem by_37 : bytesOf Try.prog 37 = 48 := by kernel_rfl
@[go_sem] theorem sz_38 : szOf Try.prog 38 = 6 := by kernel_rfl
@[go_sem] theorem kn_38 : knownT Try.prog 38 = true := by kernel_rfl
@[go_sem] theorem ag_38 : aggOf Try.prog 38 = true := by kernel_rfl
@[go_sem] theorem us_38 : (Try.prog.underlying 38).isSome = true := by kernel_rfl
@[go_sem] theorem fd_38_0 : fieldOf Try.prog 38 0 = some (0, 3) := by kernel_rfl
@[go_sem] theorem fd_38_1 : fieldOf Try.prog 38 1 = some (1, 3) := by kernel_rfl
@[go_sem] theorem fd_38_2 : fieldOf Try.prog 38 2 = some (2, 3) := by kernel_rfl
@[go_sem] theorem fd_38_3 : fieldOf Try.prog 38 3 = some (3, 3) := by kernel_rfl
@[go_sem] theorem fd_38_4 : fieldOf Try.prog 38 4 = some (4, 3) := by kernel_rfl
@[go_sem] theorem fd_38_5 : fieldOf Try.prog 38 5 = some (5, 3) := by kernel_rfl
@[go_sem] theorem el_38 : Go.PA.elemOf Try.prog 38 = none := by kernel_rfl
@[go_sem] theorem ar_38 : arrOf Try.prog 38 = none := by kernel_rfl
@[go_sem] theorem fk_38 : fieldsKnown Try.prog 38 = true := by kernel_rfl
@[go_sem] theorem sg_38 : sigOf Try.prog 38 = some [.int, .int, .int, .int, .int, .int] := by kernel_rfl
@[go_sem] theorem ze_38 : zeros Try.prog 38 = some [.sc (.int .i64 0), .sc (.int .i64 0), .sc (.int .i64 0), .sc (.int .i64 0), .sc (.int .i64 0), .sc (.int .i64 0)] := by kernel_rfl
@[go_sem] theorem by_38 : bytesOf Try.prog 38 = 48 := by kernel_rfl
@[go_sem] theorem sz_50 : szOf Try.prog 50 = 2 := by kernel_rfl
@[go_sem] theorem kn_50 : knownT Try.prog 50 = true := by kernel_rfl
@[go_sem] theorem ag_50 : aggOf Try.prog 50 = true := by kernel_rfl
@[go_sem] theorem us_50 : (Try.prog.underlying 50).isSome = true := by kernel_rfl
@[go_sem] theorem el_50 : Go.PA.elemOf Try.prog 50 = none := by kernel_rfl
@[go_sem] theorem ar_50 : arrOf Try.prog 50 = some (2, 22) := by kernel_rfl
@[go_sem] theorem fk_50 : fieldsKnown Try.prog 50 = true := by kernel_rfl
@[go_sem] theorem fd_50_0 : fieldOf Try.prog 50 0 = none := by kernel_rfl
@[go_sem] theorem fd_50_1 : fieldOf Try.prog 50 1 = none := by kernel_rfl
@[go_sem] theorem ze_50 : zeros Try.prog 50 = some [.nil, .nil] := by kernel_rfl
@[go_sem] theorem by_50 : bytesOf Try.prog 50 = 48 := by kernel_rfl
@[go_sem] theorem sz_53 : szOf Try.prog 53 = 9 := by kernel_rfl
@[go_sem] theorem kn_53 : knownT Try.prog 53 = true := by kernel_rfl
@[go_sem] theorem ag_53 : aggOf Try.prog 53 = true := by kernel_rfl
@[go_sem] theorem us_53 : (Try.prog.underlying 53).isSome = true := by kernel_rfl
@[go_sem] theorem el_53 : Go.PA.elemOf Try.prog 53 = none := by kernel_rfl
@[go_sem] theorem ar_53 : arrOf Try.prog 53 = some (3, 28) := by kernel_rfl
@[go_sem] theorem fk_53 : fieldsKnown Try.prog 53 = true := by kernel_rfl
@[go_sem] theorem fd_53_0 : fieldOf Try.prog 53 0 = none := by kernel_rfl
@[go_sem] theorem fd_53_1 : fieldOf Try.prog 53 1 = none := by kernel_rfl
@[go_sem] theorem fd_53_2 : fieldOf Try.prog 53 2 = none := by kernel_rfl
@[go_sem] theorem ze_53 : zeros Try.prog 53 = some [.sc (.int .i64 0), .nil, .nil, .sc (.int .i64 0), .nil, .nil, .sc (.int .i64 0), .nil, .nil] := by kernel_rfl
@[go_sem] theorem by_53 : bytesOf Try.prog 53 = 168 := by kernel_rfl
@[go_sem] theorem sz_55 : szOf Try.prog 55 = 18 := by kernel_rfl
@[go_sem] theorem kn_55 : knownT Try.prog 55 = true := by kernel_rfl
@[go_sem] theorem ag_55 : aggOf Try.prog 55 = true := by kernel_rfl
@[go_sem] theorem us_55 : (Try.prog.underlying 55).isSome = true := by kernel_rfl
@[go_sem] theorem el_55 : Go.PA.elemOf Try.prog 55 = none := by kernel_rfl
@[go_sem] theorem ar_55 : arrOf Try.prog 55 = some (3, 38) := by kernel_rfl
@[go_sem] theorem fk_55 : fieldsKnown Try.prog 55 = true := by kernel_rfl
@[go_sem] theorem fd_55_0 : fieldOf Try.prog 55 0 = none := by kernel_rfl
@[go_sem] theorem fd_55_1 : fieldOf Try.prog 55 1 = none := by kernel_rfl
@[go_sem] theorem fd_55_2 : fieldOf Try.prog 55 2 = none := by kernel_rfl
@[go_sem] theorem ze_55 : zeros Try.prog 55 = some [.sc (.int .i64 0), .sc (.int .i64 0), .sc (.int .i64 0), .sc (.int .i64 0), .sc (.int .i64 0), .sc (.int .i64 0), .sc (.int .i64 0), .sc (.int .i64 0), .sc (.int .i64 0), .sc (.int .i64 0), .sc (.int .i64 0), .sc (.int .i64 0), .sc (.int .i64 0), .sc (.int .i64 0), .sc (.int .i64 0), .sc (.int .i64 0), .sc (.int .i64 0), .sc (.int .i64 0)] := by kernel_rfl
@[go_sem] theorem by_55 : bytesOf Try.prog 55 = 144 := by kernel_rfl
@[go_sem] theorem sz_56 : szOf Try.prog 56 = 3 := by kernel_rfl
@[go_sem] theorem kn_56 : knownT Try.prog 56 = true := by kernel_rfl
@[go_sem] theorem ag_56 : aggOf Try.prog 56 = true := by kernel_rfl
@[go_sem] theorem us_56 : (Try.prog.underlying 56).isSome = true := by kernel_rfl
@[go_sem] theorem el_56 : Go.PA.elemOf Try.prog 56 = none := by kernel_rfl
@[go_sem] theorem ar_56 : arrOf Try.prog 56 = some (3, 3) := by kernel_rfl
@[go_sem] theorem fk_56 : fieldsKnown Try.prog 56 = true := by kernel_rfl
@[go_sem] theorem fd_56_0 : fieldOf Try.prog 56 0 = none := by kernel_rfl
@[go_sem] theorem fd_56_1 : fieldOf Try.prog 56 1 = none := by kernel_rfl
@[go_sem] theorem fd_56_2 : fieldOf Try.prog 56 2 = none := by kernel_rfl
@[go_sem] theorem ze_56 : zeros Try.prog 56 = some [.sc (.int .i64 0), .sc (.int .i64 0), .sc (.int .i64 0)] := by kernel_rfl
@[go_sem] theorem by_56 : bytesOf Try.prog 56 = 24 := by kernel_rfl
@[go_sem] theorem sz_63 : szOf Try.prog 63 = 1 := by kernel_rfl
@[go_sem] theorem kn_63 : knownT Try.prog 63 = true := by kernel_rfl
@[go_sem] theorem ag_63 : aggOf Try.prog 63 = false := by kernel_rfl
@[go_sem] theorem us_63 : (Try.prog.underlying 63).isSome = true := by kernel_rfl
@[go_sem] theorem el_63 : Go.PA.elemOf Try.prog 63 = some 69 := by kernel_rfl
@[go_sem] theorem un_63 : Try.prog.underlying 63 = some (.slice 69) := by kernel_rfl
@[go_sem] theorem ze_63 : zeros Try.prog 63 = some [.nil] := by kernel_rfl
@[go_sem] theorem by_63 : bytesOf Try.prog 63 = 24 := by kernel_rfl
@[go_sem] theorem sz_68 : szOf Try.prog 68 = 3 := by kernel_rfl
@[go_sem] theorem kn_68 : knownT Try.prog 68 = true := by kernel_rfl
@[go_sem] theorem ag_68 : aggOf Try.prog 68 = true := by kernel_rfl
@[go_sem] theorem us_68 : (Try.prog.underlying 68).isSome = true := by kernel_rfl
@[go_sem] theorem fd_68_0 : fieldOf Try.prog 68 0 = some (0, 3) := by kernel_rfl
@[go_sem] theorem fd_68_1 : fieldOf Try.prog 68 1 = some (1, 3) := by kernel_rfl
@[go_sem] theorem fd_68_2 : fieldOf Try.prog 68 2 = some (2, 3) := by kernel_rfl
@[go_sem] theorem el_68 : Go.PA.elemOf Try.prog 68 = none := by kernel_rfl
@[go_sem] theorem ar_68 : arrOf Try.prog 68 = none := by kernel_rfl
@[go_sem] theorem fk_68 : fieldsKnown Try.prog 68 = true := by kernel_rfl
@[go_sem] theorem sg_68 : sigOf Try.prog 68 = some [.int, .int, .int] := by kernel_rfl
@[go_sem] theorem ze_68 : zeros Try.prog 68 = some [.sc (.int .i64 0), .sc (.int .i64 0), .sc (.int .i64 0)] := by kernel_rfl
@[go_sem] theorem by_68 : bytesOf Try.prog 68 = 24 := by kernel_rfl
@[go_sem] theorem sz_69 : szOf Try.prog 69 = 3 := by kernel_rfl
@[go_sem] theorem kn_69 : knownT Try.prog 69 = true := by kernel_rfl
@[go_sem] theorem ag_69 : aggOf Try.prog 69 = true := by kernel_rfl
@[go_sem] theorem us_69 : (Try.prog.underlying 69).isSome = true := by kernel_rfl
@[go_sem] theorem fd_69_0 : fieldOf Try.prog 69 0 = some (0, 3) := by kernel_rfl
@[go_sem] theorem fd_69_1 : fieldOf Try.prog 69 1 = some (1, 3) := by kernel_rfl
@[go_sem] theorem fd_69_2 : fieldOf Try.prog 69 2 = some (2, 3) := by kernel_rfl
@[go_sem] theorem el_69 : Go.PA.elemOf Try.prog 69 = none := by kernel_rfl
@[go_sem] theorem ar_69 : arrOf Try.prog 69 = none := by kernel_rfl
@[go_sem] theorem fk_69 : fieldsKnown Try.prog 69 = true := by kernel_rfl
@[go_sem] theorem sg_69 : sigOf Try.prog 69 = some [.int, .int, .int] := by kernel_rfl
@[go_sem] theorem ze_69 : zeros Try.prog 69 = some [.sc (.int .i64 0), .sc (.int .i64 0), .sc (.int .i64 0)] := by kernel_rfl
@[go_sem] theorem by_69 : bytesOf Try.prog 69 = 24 := by kernel_rfl
@[go_sem] theorem sz_71 : szOf Try.prog 71 = 3 := by kernel_rfl
@[go_sem] theorem kn_71 : knownT Try.prog 71 = true := by kernel_rfl
@[go_sem] theorem ag_71 : aggOf Try.prog 71 = true := by kernel_rfl
@[go_sem] theorem us_71 : (Try.prog.underlying 71).isSome = true := by kernel_rfl
@[go_sem] theorem el_71 : Go.PA.elemOf Try.prog 71 = none := by kernel_rfl
@[go_sem] theorem ar_71 : arrOf Try.prog 71 = some (3, 63) := by kernel_rfl
@[go_sem] theorem fk_71 : fieldsKnown Try.prog 71 = true := by kernel_rfl
@[go_sem] theorem fd_71_0 : fieldOf Try.prog 71 0 = none := by kernel_rfl
@[go_sem] theorem fd_71_1 : fieldOf Try.prog 71 1 = none := by kernel_rfl
@[go_sem] theorem fd_71_2 : fieldOf Try.prog 71 2 = none := by kernel_rfl
@[go_sem] theorem ze_71 : zeros Try.prog 71 = some [.nil, .nil, .nil] := by kernel_rfl
@[go_sem] theorem by_71 : bytesOf Try.prog 71 = 72 := by kernel_rfl
@[go_sem] theorem sz_75 : szOf Try.prog 75 = 2 := by kernel_rfl
@[go_sem] theorem kn_75 : knownT Try.prog 75 = true := by kernel_rfl
@[go_sem] theorem ag_75 : aggOf Try.prog 75 = true := by kernel_rfl
@[go_sem] theorem us_75 : (Try.prog.underlying 75).isSome = true := by kernel_rfl
@[go_sem] theorem fd_75_0 : fieldOf Try.prog 75 0 = some (0, 22) := by kernel_rfl
@[go_sem] theorem fd_75_1 : fieldOf Try.prog 75 1 = some (1, 3) := by kernel_rfl
@[go_sem] theorem el_75 : Go.PA.elemOf Try.prog 75 = none := by kernel_rfl
@[go_sem] theorem ar_75 : arrOf Try.prog 75 = none := by kernel_rfl
@[go_sem] theorem fk_75 : fieldsKnown Try.prog 75 = true := by kernel_rfl
@[go_sem] theorem ze_75 : zeros Try.prog 75 = some [.nil, .sc (.int .i64 0)] := by kernel_rfl
@[go_sem] theorem by_75 : bytesOf Try.prog 75 = 32 := by kernel_rfl
@[go_sem] theorem sz_76 : szOf Try.prog 76 = 2 := by kernel_rfl
@[go_sem] theorem kn_76 : knownT Try.prog 76 = true := by kernel_rfl
@[go_sem] theorem ag_76 : aggOf Try.prog 76 = true := by kernel_rfl
@[go_sem] theorem us_76 : (Try.prog.underlying 76).isSome = true := by kernel_rfl
@[go_sem] theorem fd_76_0 : fieldOf Try.prog 76 0 = some (0, 22) := by kernel_rfl
@[go_sem] theorem fd_76_1 : fieldOf Try.prog 76 1 = some (1, 3) := by kernel_rfl
@[go_sem] theorem el_76 : Go.PA.elemOf Try.prog 76 = none := by kernel_rfl
@[go_sem] theorem ar_76 : arrOf Try.prog 76 = none := by kernel_rfl
@[go_sem] theorem fk_76 : fieldsKnown Try.prog 76 = true := by kernel_rfl
@[go_sem] theorem ze_76 : zeros Try.prog 76 = some [.nil, .sc (.int .i64 0)] := by kernel_rfl
@[go_sem] theorem by_76 : bytesOf Try.prog 76 = 32 := by kernel_rfl
@[go_sem] theorem sz_79 : szOf Try.prog 79 = 1 := by kernel_rfl
@[go_sem] theorem kn_79 : knownT Try.prog 79 = true := by kernel_rfl
@[go_sem] theorem ag_79 : aggOf Try.prog 79 = false := by kernel_rfl
@[go_sem] theorem us_79 : (Try.prog.underlying 79).isSome = true := by kernel_rfl
@[go_sem] theorem ze_79 : zeros Try.prog 79 = some [.sc (.pointer none)] := by kernel_rfl
@[go_sem] theorem by_79 : bytesOf Try.prog 79 = 8 := by kernel_rfl
@[go_sem] theorem sz_83 : szOf Try.prog 83 = 4 := by kernel_rfl
@[go_sem] theorem kn_83 : knownT Try.prog 83 = true := by kernel_rfl
@[go_sem] theorem ag_83 : aggOf Try.prog 83 = true := by kernel_rfl
@[go_sem] theorem us_83 : (Try.prog.underlying 83).isSome = true := by kernel_rfl
@[go_sem] theorem fd_83_0 : fieldOf Try.prog 83 0 = some (0, 3) := by kernel_rfl
@[go_sem] theorem fd_83_1 : fieldOf Try.prog 83 1 = some (1, 3) := by kernel_rfl
@[go_sem] theorem fd_83_2 : fieldOf Try.prog 83 2 = some (2, 3) := by kernel_rfl
@[go_sem] theorem fd_83_3 : fieldOf Try.prog 83 3 = some (3, 25) := by kernel_rfl
@[go_sem] theorem el_83 : Go.PA.elemOf Try.prog 83 = none := by kernel_rfl
@[go_sem] theorem ar_83 : arrOf Try.prog 83 = none := by kernel_rfl
@[go_sem] theorem fk_83 : fieldsKnown Try.prog 83 = true := by kernel_rfl
@[go_sem] theorem ze_83 : zeros Try.prog 83 = some [.sc (.int .i64 0), .sc (.int .i64 0), .sc (.int .i64 0), .nil] := by kernel_rfl
@[go_sem] theorem by_83 : bytesOf Try.prog 83 = 48 := by kernel_rfl
@[go_sem] theorem sz_84 : szOf Try.prog 84 = 4 := by kernel_rfl
@[go_sem] theorem kn_84 : knownT Try.prog 84 = true := by kernel_rfl
@[go_sem] theorem ag_84 : aggOf Try.prog 84 = true := by kernel_rfl
@[go_sem] theorem us_84 : (Try.prog.underlying 84).isSome = true := by kernel_rfl
@[go_sem] theorem fd_84_0 : fieldOf Try.prog 84 0 = some (0, 3) := by kernel_rfl
@[go_sem] theorem fd_84_1 : fieldOf Try.prog 84 1 = some (1, 3) := by kernel_rfl
@[go_sem] theorem fd_84_2 : fieldOf Try.prog 84 2 = some (2, 3) := by kernel_rfl
@[go_sem] theorem fd_84_3 : fieldOf Try.prog 84 3 = some (3, 25) := by kernel_rfl
@[go_sem] theorem el_84 : Go.PA.elemOf Try.prog 84 = none := by kernel_rfl
@[go_sem] theorem ar_84 : arrOf Try.prog 84 = none := by kernel_rfl
@[go_sem] theorem fk_84 : fieldsKnown Try.prog 84 = true := by kernel_rfl
@[go_sem] theorem ze_84 : zeros Try.prog 84 = some [.sc (.int .i64 0), .sc (.int .i64 0), .sc (.int .i64 0), .nil] := by kernel_rfl
@[go_sem] theorem by_84 : bytesOf Try.prog 84 = 48 := by kernel_rfl
@[go_sem] theorem sz_88 : szOf Try.prog 88 = 1 := by kernel_rfl
@[go_sem] theorem kn_88 : knownT Try.prog 88 = true := by kernel_rfl
@[go_sem] theorem ag_88 : aggOf Try.prog 88 = false := by kernel_rfl
@[go_sem] theorem us_88 : (Try.prog.underlying 88).isSome = true := by kernel_rfl
@[go_sem] theorem ze_88 : zeros Try.prog 88 = some [.sc (.pointer none)] := by kernel_rfl
@[go_sem] theorem by_88 : bytesOf Try.prog 88 = 8 := by kernel_rfl
@[go_sem] theorem sz_96 : szOf Try.prog 96 = 1 := by kernel_rfl
@[go_sem] theorem kn_96 : knownT Try.prog 96 = true := by kernel_rfl
@[go_sem] theorem ag_96 : aggOf Try.prog 96 = false := by kernel_rfl
@[go_sem] theorem us_96 : (Try.prog.underlying 96).isSome = true := by kernel_rfl
@[go_sem] theorem ze_96 : zeros Try.prog 96 = some [.sc (.pointer none)] := by kernel_rfl
@[go_sem] theorem by_96 : bytesOf Try.prog 96 = 8 := by kernel_rfl
@[go_sem] theorem sz_98 : szOf Try.prog 98 = 6 := by kernel_rfl
@[go_sem] theorem kn_98 : knownT Try.prog 98 = true := by kernel_rfl
@[go_sem] theorem ag_98 : aggOf Try.prog 98 = true := by kernel_rfl
@[go_sem] theorem us_98 : (Try.prog.underlying 98).isSome = true := by kernel_rfl
@[go_sem] theorem fd_98_0 : fieldOf Try.prog 98 0 = some (0, 28) := by kernel_rfl
@[go_sem] theorem fd_98_1 : fieldOf Try.prog 98 1 = some (3, 25) := by kernel_rfl
@[go_sem] theorem fd_98_2 : fieldOf Try.prog 98 2 = some (4, 26) := by kernel_rfl
@[go_sem] theorem fd_98_3 : fieldOf Try.prog 98 3 = some (5, 3) := by kernel_rfl
@[go_sem] theorem el_98 : Go.PA.elemOf Try.prog 98 = none := by kernel_rfl
@[go_sem] theorem ar_98 : arrOf Try.prog 98 = none := by kernel_rfl
@[go_sem] theorem fk_98 : fieldsKnown Try.prog 98 = true := by kernel_rfl
@[go_sem] theorem ze_98 : zeros Try.prog 98 = some [.sc (.int .i64 0), .nil, .nil, .nil, .nil, .sc (.int .i64 0)] := by kernel_rfl
@[go_sem] theorem by_98 : bytesOf Try.prog 98 = 112 := by kernel_rfl
@[go_sem] theorem sz_99 : szOf Try.prog 99 = 6 := by kernel_rfl
@[go_sem] theorem kn_99 : knownT Try.prog 99 = true := by kernel_rfl
@[go_sem] theorem ag_99 : aggOf Try.prog 99 = true := by kernel_rfl
@[go_sem] theorem us_99 : (Try.prog.underlying 99).isSome = true := by kernel_rfl
@[go_sem] theorem fd_99_0 : fieldOf Try.prog 99 0 = some (0, 28) := by kernel_rfl
@[go_sem] theorem fd_99_1 : fieldOf Try.prog 99 1 = some (3, 25) := by kernel_rfl
@[go_sem] theorem fd_99_2 : fieldOf Try.prog 99 2 = some (4, 26) := by kernel_rfl
@[go_sem] theorem fd_99_3 : fieldOf Try.prog 99 3 = some (5, 3) := by kernel_rfl
@[go_sem] theorem el_99 : Go.PA.elemOf Try.prog 99 = none := by kernel_rfl
@[go_sem] theorem ar_99 : arrOf Try.prog 99 = none := by kernel_rfl
@[go_sem] theorem fk_99 : fieldsKnown Try.prog 99 = true := by kernel_rfl
@[go_sem] theorem ze_99 : zeros Try.prog 99 = some [.sc (.int .i64 0), .nil, .nil, .nil, .nil, .sc (.int .i64 0)] := by kernel_rfl
@[go_sem] theorem by_99 : bytesOf Try.prog 99 = 112 := by kernel_rfl
@[go_sem] theorem sz_107 : szOf Try.prog 107 = 1 := by kernel_rfl
@[go_sem] theorem kn_107 : knownT Try.prog 107 = true := by kernel_rfl
@[go_sem] theorem ag_107 : aggOf Try.prog 107 = false := by kernel_rfl
@[go_sem] theorem us_107 : (Try.prog.underlying 107).isSome = true := by kernel_rfl
@[go_sem] theorem ze_107 : zeros Try.prog 107 = some [.sc (.pointer none)] := by kernel_rfl
@[go_sem] theorem by_107 : bytesOf Try.prog 107 = 8 := by kernel_rfl
@[go_sem] theorem sz_114 : szOf Try.prog 114 = 1 := by kernel_rfl
@[go_sem] theorem kn_114 : knownT Try.prog 114 = true := by kernel_rfl
@[go_sem] theorem ag_114 : aggOf Try.prog 114 = false := by kernel_rfl
@[go_sem] theorem us_114 : (Try.prog.underlying 114).isSome = true := by kernel_rfl
@[go_sem] theorem un_114 : Try.prog.underlying 114 = some (.int .u32) := by kernel_rfl
@[go_sem] theorem ze_114 : zeros Try.prog 114 = some [.sc (.int .u32 0)] := by kernel_rfl
@[go_sem] theorem by_114 : bytesOf Try.prog 114 = 4 := by kernel_rfl
@[go_sem] theorem sz_118 : szOf Try.prog 118 = 1 := by kernel_rfl
@[go_sem] theorem kn_118 : knownT Try.prog 118 = true := by kernel_rfl
@[go_sem] theorem ag_118 : aggOf Try.prog 118 = false := by kernel_rfl
@[go_sem] theorem us_118 : (Try.prog.underlying 118).isSome = true := by kernel_rfl
@[go_sem] theorem ze_118 : zeros Try.prog 118 = some [.sc (.pointer none)] := by kernel_rfl
@[go_sem] theorem by_118 : bytesOf Try.prog 118 = 8 := by kernel_rfl
@[go_sem] theorem en_3 : enterable Try.prog 3 = true := by kernel_rfl -- treasury/treasurylaw23.AccountBent
@[go_sem] theorem en_4 : enterable Try.prog 4 = true := by kernel_rfl -- treasury/treasurylaw23.AccountNumbers
@[go_sem] theorem en_5 : enterable Try.prog 5 = true := by kernel_rfl -- treasury/treasurylaw23.AccountSums
@[go_sem] theorem en_6 : enterable Try.prog 6 = true := by kernel_rfl -- treasury/treasurylaw23.AccountExact
@[go_sem] theorem en_7 : enterable Try.prog 7 = true := by kernel_rfl -- treasury/treasurylaw23.AccountDays
@[go_sem] theorem en_8 : enterable Try.prog 8 = true := by kernel_rfl -- treasury/treasurylaw24.SweepLeast
@[go_sem] theorem en_9 : enterable Try.prog 9 = true := by kernel_rfl -- treasury/treasurylaw24.SweepDays
@[go_sem] theorem en_10 : enterable Try.prog 10 = true := by kernel_rfl -- treasury/treasurylaw24.SweepShort
@[go_sem] theorem en_11 : enterable Try.prog 11 = true := by kernel_rfl -- treasury/treasurylaw24.SweepExact
@[go_sem] theorem en_12 : enterable Try.prog 12 = true := by kernel_rfl -- treasury/treasurylaw24.SweepKeeps
@[go_sem] theorem en_13 : enterable Try.prog 13 = true := by kernel_rfl -- treasury/treasuryplay.New
@[go_sem] theorem en_14 : enterable Try.prog 14 = true := by kernel_rfl -- (*treasury/treasuryplay.Src).Account
@[go_sem] theorem en_15 : enterable Try.prog 15 = true := by kernel_rfl -- (*treasury/treasuryplay.Src).N
@[go_sem] theorem en_16 : enterable Try.prog 16 = true := by kernel_rfl -- (*treasury/treasuryplay.Src).Pick
@[go_sem] theorem en_17 : enterable Try.prog 17 = true := by kernel_rfl -- treasury/account.Check
@[go_sem] theorem en_18 : enterable Try.prog 18 = true := by kernel_rfl -- treasury/treasurylaw23.sane
@[go_sem] theorem en_19 : enterable Try.prog 19 = true := by kernel_rfl -- treasury/account.Total
@[go_sem] theorem en_20 : enterable Try.prog 20 = true := by kernel_rfl -- treasury/account.Next
@[go_sem] theorem en_21 : enterable Try.prog 21 = true := by kernel_rfl -- treasury/account.Post
@[go_sem] theorem en_22 : enterable Try.prog 22 = true := by kernel_rfl -- treasury/treasuryref23.Entries
@[go_sem] theorem en_23 : enterable Try.prog 23 = true := by kernel_rfl -- treasury/treasuryref23.Open
@[go_sem] theorem en_24 : enterable Try.prog 24 = true := by kernel_rfl -- treasury/account.Flow
@[go_sem] theorem en_25 : enterable Try.prog 25 = true := by kernel_rfl -- treasury/treasuryplay.Few
@[go_sem] theorem en_26 : enterable Try.prog 26 = true := by kernel_rfl -- (*treasury/treasuryplay.Src).Range
@[go_sem] theorem en_27 : enterable Try.prog 27 = true := by kernel_rfl -- treasury/account.Open
@[go_sem] theorem en_28 : enterable Try.prog 28 = true := by kernel_rfl -- treasury/treasuryref23.Same
@[go_sem] theorem en_29 : enterable Try.prog 29 = true := by kernel_rfl -- (*treasury/treasuryplay.Src).BentAccount
@[go_sem] theorem en_30 : enterable Try.prog 30 = true := by kernel_rfl -- treasury/treasuryref23.Check
@[go_sem] theorem en_31 : enterable Try.prog 31 = true := by kernel_rfl -- treasury/treasuryref23.Total
@[go_sem] theorem en_32 : enterable Try.prog 32 = true := by kernel_rfl -- treasury/treasuryref23.Next
@[go_sem] theorem en_33 : enterable Try.prog 33 = true := by kernel_rfl -- (*treasury/treasuryplay.Src).Odd
@[go_sem] theorem en_34 : enterable Try.prog 34 = true := by kernel_rfl -- treasury/treasuryref23.Post
@[go_sem] theorem en_35 : enterable Try.prog 35 = true := by kernel_rfl -- treasury/account.Balance
@[go_sem] theorem en_36 : enterable Try.prog 36 = true := by kernel_rfl -- treasury/treasuryref23.Balance
@[go_sem] theorem en_37 : enterable Try.prog 37 = true := by kernel_rfl -- treasury/treasuryref23.Flow
@[go_sem] theorem en_38 : enterable Try.prog 38 = true := by kernel_rfl -- treasury/treasuryref23.Subs
@[go_sem] theorem en_39 : enterable Try.prog 39 = true := by kernel_rfl -- treasury/account.At
@[go_sem] theorem en_40 : enterable Try.prog 40 = true := by kernel_rfl -- treasury/treasuryref23.At
@[go_sem] theorem en_41 : enterable Try.prog 41 = true := by kernel_rfl -- (*treasury/treasuryplay.Src).Keeps
@[go_sem] theorem en_42 : enterable Try.prog 42 = true := by kernel_rfl -- treasury/sweep.Plan
@[go_sem] theorem en_43 : enterable Try.prog 43 = true := by kernel_rfl -- treasury/treasuryref24.Sweep
@[go_sem] theorem en_44 : enterable Try.prog 44 = true := by kernel_rfl -- treasury/treasurylaw24.sane
@[go_sem] theorem en_45 : enterable Try.prog 45 = true := by kernel_rfl -- treasury/sweep.Sweep
@[go_sem] theorem en_46 : enterable Try.prog 46 = true := by kernel_rfl -- treasury/sweep.Short
@[go_sem] theorem en_47 : enterable Try.prog 47 = true := by kernel_rfl -- treasury/sweep.Check
@[go_sem] theorem en_48 : enterable Try.prog 48 = true := by kernel_rfl -- treasury/treasuryref24.Check
@[go_sem] theorem en_49 : enterable Try.prog 49 = true := by kernel_rfl -- treasury/sweep.Kept
@[go_sem] theorem en_50 : enterable Try.prog 50 = true := by kernel_rfl -- treasury/treasuryref24.Kept
@[go_sem] theorem en_51 : enterable Try.prog 51 = true := by kernel_rfl -- treasury/treasuryref24.Short
@[go_sem] theorem en_52 : enterable Try.prog 52 = true := by kernel_rfl -- treasury/treasuryref24.Plan
@[go_sem] theorem en_53 : enterable Try.prog 53 = true := by kernel_rfl -- treasury/money.Valid
@[go_sem] theorem en_54 : enterable Try.prog 54 = true := by kernel_rfl -- treasury/account.numbered
@[go_sem] theorem en_55 : enterable Try.prog 55 = true := by kernel_rfl -- treasury/account.numbers
@[go_sem] theorem en_56 : enterable Try.prog 56 = true := by kernel_rfl -- treasury/account.replay
@[go_sem] theorem en_57 : enterable Try.prog 57 = true := by kernel_rfl -- treasury/account.all
@[go_sem] theorem en_58 : enterable Try.prog 58 = true := by kernel_rfl -- slices.Equal[[]treasury/api.Sub,treasury/api.Sub]
@[go_sem] theorem en_59 : enterable Try.prog 59 = true := by kernel_rfl -- (*treasury/account.teller).post
@[go_sem] theorem en_60 : enterable Try.prog 60 = true := by kernel_rfl -- slices.Clone[[]treasury/api.Entry,treasury/api.Entry]
@[go_sem] theorem en_61 : enterable Try.prog 61 = true := by kernel_rfl -- treasury/treasuryref01.Valid
@[go_sem] theorem en_62 : enterable Try.prog 62 = true := by kernel_rfl -- treasury/treasuryref23.plain
@[go_sem] theorem en_63 : enterable Try.prog 63 = true := by kernel_rfl -- treasury/account.among
@[go_sem] theorem en_64 : enterable Try.prog 64 = true := by kernel_rfl -- treasury/treasuryref23.day
@[go_sem] theorem en_65 : enterable Try.prog 65 = true := by kernel_rfl -- treasury/treasuryref23.until
@[go_sem] theorem en_66 : enterable Try.prog 66 = true := by kernel_rfl -- treasury/treasuryref23.last
@[go_sem] theorem en_67 : enterable Try.prog 67 = true := by kernel_rfl -- treasury/treasuryref23.add
@[go_sem] theorem en_68 : enterable Try.prog 68 = true := by kernel_rfl -- slices.IndexFunc[[]treasury/api.Sub,treasury/api.Sub]
@[go_sem] theorem en_69 : enterable Try.prog 69 = true := by kernel_rfl -- treasury/account.Balance$1
@[go_sem] theorem en_70 : enterable Try.prog 70 = true := by kernel_rfl -- treasury/treasuryref23.at
@[go_sem] theorem en_71 : enterable Try.prog 71 = true := by kernel_rfl -- treasury/account.At$1
@[go_sem] theorem en_72 : enterable Try.prog 72 = true := by kernel_rfl -- slices.Clone[[]treasury/api.Sub,treasury/api.Sub]
@[go_sem] theorem en_73 : enterable Try.prog 73 = true := by kernel_rfl -- (*treasury/sweep.sweeper).move
@[go_sem] theorem en_74 : enterable Try.prog 74 = true := by kernel_rfl -- (*treasury/sweep.sweeper).balance
@[go_sem] theorem en_75 : enterable Try.prog 75 = true := by kernel_rfl -- treasury/treasurylaw24.poor
@[go_sem] theorem en_76 : enterable Try.prog 76 = true := by kernel_rfl -- treasury/sweep.place
@[go_sem] theorem en_77 : enterable Try.prog 77 = true := by kernel_rfl -- treasury/sweep.Kept$1
@[go_sem] theorem en_78 : enterable Try.prog 78 = true := by kernel_rfl -- slices.ContainsFunc[[]treasury/api.Keep,treasury/api.Keep]
@[go_sem] theorem en_79 : enterable Try.prog 79 = true := by kernel_rfl -- treasury/account.fresh
@[go_sem] theorem en_80 : enterable Try.prog 80 = true := by kernel_rfl -- treasury/account.positive
@[go_sem] theorem en_81 : enterable Try.prog 81 = true := by kernel_rfl -- (*treasury/account.teller).known
@[go_sem] theorem en_82 : enterable Try.prog 82 = true := by kernel_rfl -- (*treasury/account.teller).add
@[go_sem] theorem en_83 : enterable Try.prog 83 = true := by kernel_rfl -- treasury/treasuryref23.empty
@[go_sem] theorem en_84 : enterable Try.prog 84 = true := by kernel_rfl -- treasury/sweep.place$1
@[go_sem] theorem en_85 : enterable Try.prog 85 = true := by kernel_rfl -- slices.IndexFunc[[]treasury/api.Keep,treasury/api.Keep]
@[go_sem] theorem en_86 : enterable Try.prog 86 = true := by kernel_rfl -- (*treasury/account.teller).place
@[go_sem] theorem en_87 : enterable Try.prog 87 = true := by kernel_rfl -- (*treasury/account.teller).place$1
@[go_sem] theorem rs_3 : Try.f3.results.toList = [.tmp 2] := rfl
@[go_sem] theorem rs_4 : Try.f4.results.toList = [.tmp 2] := rfl
@[go_sem] theorem rs_5 : Try.f5.results.toList = [.tmp 2] := rfl
@[go_sem] theorem rs_6 : Try.f6.results.toList = [.tmp 12] := rfl
@[go_sem] theorem rs_7 : Try.f7.results.toList = [.tmp 4] := rfl
@[go_sem] theorem rs_8 : Try.f8.results.toList = [.tmp 2] := rfl
@[go_sem] theorem rs_9 : Try.f9.results.toList = [.tmp 2] := rfl
@[go_sem] theorem rs_10 : Try.f10.results.toList = [.tmp 2] := rfl
@[go_sem] theorem rs_11 : Try.f11.results.toList = [.tmp 8] := rfl
@[go_sem] theorem rs_12 : Try.f12.results.toList = [.tmp 2] := rfl
@[go_sem] theorem rs_13 : Try.f13.results.toList = [.tmp 2] := rfl
@[go_sem] theorem rs_14 : Try.f14.results.toList = [.cell 4 28] := rfl
@[go_sem] theorem rs_15 : Try.f15.results.toList = [.tmp 4] := rfl
@[go_sem] theorem rs_16 : Try.f16.results.toList = [.tmp 4] := rfl
@[go_sem] theorem rs_17 : Try.f17.results.toList = [.tmp 2] := rfl
@[go_sem] theorem rs_18 : Try.f18.results.toList = [.tmp 0] := rfl
@[go_sem] theorem rs_19 : Try.f19.results.toList = [.tmp 2] := rfl
@[go_sem] theorem rs_20 : Try.f20.results.toList = [.cell 12 38] := rfl
@[go_sem] theorem rs_21 : Try.f21.results.toList = [.cell 4 28, .tmp 5] := rfl
@[go_sem] theorem rs_22 : Try.f22.results.toList = [.tmp 4] := rfl
@[go_sem] theorem rs_23 : Try.f23.results.toList = [.cell 4 28, .tmp 5] := rfl
@[go_sem] theorem rs_24 : Try.f24.results.toList = [.tmp 6, .tmp 7] := rfl
@[go_sem] theorem rs_25 : Try.f25.results.toList = [.tmp 2] := rfl
@[go_sem] theorem rs_26 : Try.f26.results.toList = [.tmp 6] := rfl
@[go_sem] theorem rs_27 : Try.f27.results.toList = [.cell 4 28, .tmp 5] := rfl
@[go_sem] theorem rs_28 : Try.f28.results.toList = [.tmp 4] := rfl
@[go_sem] theorem rs_29 : Try.f29.results.toList = [.cell 4 28] := rfl
@[go_sem] theorem rs_30 : Try.f30.results.toList = [.tmp 2] := rfl
@[go_sem] theorem rs_31 : Try.f31.results.toList = [.tmp 2] := rfl
@[go_sem] theorem rs_32 : Try.f32.results.toList = [.cell 12 38] := rfl
@[go_sem] theorem rs_33 : Try.f33.results.toList = [.tmp 2] := rfl
@[go_sem] theorem rs_34 : Try.f34.results.toList = [.cell 4 28, .tmp 5] := rfl
@[go_sem] theorem rs_35 : Try.f35.results.toList = [.tmp 4, .tmp 5] := rfl
@[go_sem] theorem rs_36 : Try.f36.results.toList = [.tmp 4, .tmp 5] := rfl
@[go_sem] theorem rs_37 : Try.f37.results.toList = [.tmp 6, .tmp 7] := rfl
@[go_sem] theorem rs_38 : Try.f38.results.toList = [.tmp 4] := rfl
@[go_sem] theorem rs_39 : Try.f39.results.toList = [.tmp 4] := rfl
@[go_sem] theorem rs_40 : Try.f40.results.toList = [.tmp 4] := rfl
@[go_sem] theorem rs_41 : Try.f41.results.toList = [.tmp 2] := rfl
@[go_sem] theorem rs_42 : Try.f42.results.toList = [.tmp 6, .tmp 7] := rfl
@[go_sem] theorem rs_43 : Try.f43.results.toList = [.cell 6 28, .tmp 7] := rfl
@[go_sem] theorem rs_44 : Try.f44.results.toList = [.tmp 0] := rfl
@[go_sem] theorem rs_45 : Try.f45.results.toList = [.cell 6 28, .tmp 7] := rfl
@[go_sem] theorem rs_46 : Try.f46.results.toList = [.tmp 4] := rfl
@[go_sem] theorem rs_47 : Try.f47.results.toList = [.tmp 4] := rfl
@[go_sem] theorem rs_48 : Try.f48.results.toList = [.tmp 4] := rfl
@[go_sem] theorem rs_49 : Try.f49.results.toList = [.tmp 4] := rfl
@[go_sem] theorem rs_50 : Try.f50.results.toList = [.tmp 4] := rfl
@[go_sem] theorem rs_51 : Try.f51.results.toList = [.tmp 4] := rfl
@[go_sem] theorem rs_52 : Try.f52.results.toList = [.tmp 6, .tmp 7] := rfl
@[go_sem] theorem rs_53 : Try.f53.results.toList = [.tmp 2] := rfl
@[go_sem] theorem rs_54 : Try.f54.results.toList = [.tmp 2] := rfl
@[go_sem] theorem rs_55 : Try.f55.results.toList = [.tmp 2] := rfl
@[go_sem] theorem rs_56 : Try.f56.results.toList = [.tmp 4, .tmp 5] := rfl
@[go_sem] theorem rs_57 : Try.f57.results.toList = [.tmp 2] := rfl
@[go_sem] theorem rs_58 : Try.f58.results.toList = [.tmp 4] := rfl
@[go_sem] theorem rs_59 : Try.f59.results.toList = [.tmp 4] := rfl
@[go_sem] theorem rs_60 : Try.f60.results.toList = [.tmp 2] := rfl
@[go_sem] theorem rs_61 : Try.f61.results.toList = [.tmp 2] := rfl
@[go_sem] theorem rs_62 : Try.f62.results.toList = [.tmp 2] := rfl
@[go_sem] theorem rs_63 : Try.f63.results.toList = [.tmp 6] := rfl
@[go_sem] theorem rs_64 : Try.f64.results.toList = [.tmp 2] := rfl
@[go_sem] theorem rs_65 : Try.f65.results.toList = [.tmp 4, .tmp 5] := rfl
@[go_sem] theorem rs_66 : Try.f66.results.toList = [.cell 2 38] := rfl
@[go_sem] theorem rs_67 : Try.f67.results.toList = [.tmp 8, .tmp 9] := rfl
@[go_sem] theorem rs_68 : Try.f68.results.toList = [.tmp 4] := rfl
@[go_sem] theorem rs_69 : Try.f69.results.toList = [.tmp 3] := rfl
@[go_sem] theorem rs_70 : Try.f70.results.toList = [.tmp 4] := rfl
@[go_sem] theorem rs_71 : Try.f71.results.toList = [.tmp 3] := rfl
@[go_sem] theorem rs_72 : Try.f72.results.toList = [.tmp 2] := rfl
@[go_sem] theorem rs_73 : Try.f73.results.toList = [] := rfl
@[go_sem] theorem rs_74 : Try.f74.results.toList = [.tmp 4] := rfl
@[go_sem] theorem rs_75 : Try.f75.results.toList = [.cell 0 28] := rfl
@[go_sem] theorem rs_76 : Try.f76.results.toList = [.tmp 4] := rfl
@[go_sem] theorem rs_77 : Try.f77.results.toList = [.tmp 3] := rfl
@[go_sem] theorem rs_78 : Try.f78.results.toList = [.tmp 4] := rfl
@[go_sem] theorem rs_79 : Try.f79.results.toList = [.tmp 2] := rfl
@[go_sem] theorem rs_80 : Try.f80.results.toList = [.tmp 2] := rfl
@[go_sem] theorem rs_81 : Try.f81.results.toList = [.tmp 4] := rfl
@[go_sem] theorem rs_82 : Try.f82.results.toList = [.tmp 6] := rfl
@[go_sem] theorem rs_83 : Try.f83.results.toList = [.tmp 2] := rfl
@[go_sem] theorem rs_84 : Try.f84.results.toList = [.tmp 3] := rfl
@[go_sem] theorem rs_85 : Try.f85.results.toList = [.tmp 4] := rfl
@[go_sem] theorem rs_86 : Try.f86.results.toList = [.tmp 4] := rfl
@[go_sem] theorem rs_87 : Try.f87.results.toList = [.tmp 3] := rfl
@[go_sem] theorem rs_103 : Try.f103.results.toList = [] := rfl

end Go.Proofs.Ytcfkdimndhapfaa
