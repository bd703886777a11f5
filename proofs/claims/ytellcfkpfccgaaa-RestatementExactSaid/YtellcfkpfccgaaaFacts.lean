/- The types and functions of this seat's program, as PA reads them. Printed by wip/facts.py. -/
import Derived.Test.YtellcfkpfccgaaaPaB
import Derived.Test.YtellcfkpfccgaaaProg
import Derived.KernelRfl
namespace Go.Proofs.Ytellcfkpfccgaaa
open Go.PA

@[go_sem] theorem sz_2 : szOf Try.prog 2 = 1 := by kernel_rfl
@[go_sem] theorem kn_2 : knownT Try.prog 2 = true := by kernel_rfl
@[go_sem] theorem ag_2 : aggOf Try.prog 2 = false := by kernel_rfl
@[go_sem] theorem us_2 : (Try.prog.underlying 2).isSome = true := by kernel_rfl
@[go_sem] theorem un_2 : Try.prog.underlying 2 = some (.int .i64) := by kernel_rfl
@[go_sem] theorem ze_2 : zeros Try.prog 2 = some [.sc (.int .i64 0)] := by kernel_rfl
@[go_sem] theorem az_2 : azero1 Try.prog 2 = some (.sc (.int .i64 0)) := by kernel_rfl
@[go_sem] theorem by_2 : bytesOf Try.prog 2 = 8 := by kernel_rfl
@[go_sem] theorem sz_3 : szOf Try.prog 3 = 1 := by kernel_rfl
@[go_sem] theorem kn_3 : knownT Try.prog 3 = true := by kernel_rfl
@[go_sem] theorem ag_3 : aggOf Try.prog 3 = false := by kernel_rfl
@[go_sem] theorem us_3 : (Try.prog.underlying 3).isSome = true := by kernel_rfl
@[go_sem] theorem un_3 : Try.prog.underlying 3 = some (.int .i64) := by kernel_rfl
@[go_sem] theorem ze_3 : zeros Try.prog 3 = some [.sc (.int .i64 0)] := by kernel_rfl
@[go_sem] theorem az_3 : azero1 Try.prog 3 = some (.sc (.int .i64 0)) := by kernel_rfl
@[go_sem] theorem by_3 : bytesOf Try.prog 3 = 8 := by kernel_rfl
@[go_sem] theorem sz_4 : szOf Try.prog 4 = 1 := by kernel_rfl
@[go_sem] theorem kn_4 : knownT Try.prog 4 = true := by kernel_rfl
@[go_sem] theorem ag_4 : aggOf Try.prog 4 = false := by kernel_rfl
@[go_sem] theorem us_4 : (Try.prog.underlying 4).isSome = true := by kernel_rfl
@[go_sem] theorem un_4 : Try.prog.underlying 4 = some .bool := by kernel_rfl
@[go_sem] theorem ze_4 : zeros Try.prog 4 = some [.sc (.bool false)] := by kernel_rfl
@[go_sem] theorem az_4 : azero1 Try.prog 4 = some (.sc (.bool false)) := by kernel_rfl
@[go_sem] theorem by_4 : bytesOf Try.prog 4 = 1 := by kernel_rfl
@[go_sem] theorem sz_5 : szOf Try.prog 5 = 1 := by kernel_rfl
@[go_sem] theorem kn_5 : knownT Try.prog 5 = true := by kernel_rfl
@[go_sem] theorem ag_5 : aggOf Try.prog 5 = false := by kernel_rfl
@[go_sem] theorem us_5 : (Try.prog.underlying 5).isSome = true := by kernel_rfl
@[go_sem] theorem un_5 : Try.prog.underlying 5 = some (.int .u8) := by kernel_rfl
@[go_sem] theorem ze_5 : zeros Try.prog 5 = some [.sc (.int .u8 0)] := by kernel_rfl
@[go_sem] theorem az_5 : azero1 Try.prog 5 = some (.sc (.int .u8 0)) := by kernel_rfl
@[go_sem] theorem by_5 : bytesOf Try.prog 5 = 1 := by kernel_rfl
@[go_sem] theorem sz_9 : szOf Try.prog 9 = 1 := by kernel_rfl
@[go_sem] theorem kn_9 : knownT Try.prog 9 = true := by kernel_rfl
@[go_sem] theorem ag_9 : aggOf Try.prog 9 = false := by kernel_rfl
@[go_sem] theorem us_9 : (Try.prog.underlying 9).isSome = true := by kernel_rfl
@[go_sem] theorem un_9 : Try.prog.underlying 9 = some .string := by kernel_rfl
@[go_sem] theorem ze_9 : zeros Try.prog 9 = some [.sc (.string ByteArray.empty)] := by kernel_rfl
@[go_sem] theorem az_9 : azero1 Try.prog 9 = some (.sc (.string ByteArray.empty)) := by kernel_rfl
@[go_sem] theorem by_9 : bytesOf Try.prog 9 = 16 := by kernel_rfl
@[go_sem] theorem sz_12 : szOf Try.prog 12 = 1 := by kernel_rfl
@[go_sem] theorem kn_12 : knownT Try.prog 12 = true := by kernel_rfl
@[go_sem] theorem ag_12 : aggOf Try.prog 12 = false := by kernel_rfl
@[go_sem] theorem us_12 : (Try.prog.underlying 12).isSome = true := by kernel_rfl
@[go_sem] theorem un_12 : Try.prog.underlying 12 = some (.int .u64) := by kernel_rfl
@[go_sem] theorem ze_12 : zeros Try.prog 12 = some [.sc (.int .u64 0)] := by kernel_rfl
@[go_sem] theorem az_12 : azero1 Try.prog 12 = some (.sc (.int .u64 0)) := by kernel_rfl
@[go_sem] theorem by_12 : bytesOf Try.prog 12 = 8 := by kernel_rfl
@[go_sem] theorem sz_17 : szOf Try.prog 17 = 1 := by kernel_rfl
@[go_sem] theorem kn_17 : knownT Try.prog 17 = true := by kernel_rfl
@[go_sem] theorem ag_17 : aggOf Try.prog 17 = false := by kernel_rfl
@[go_sem] theorem us_17 : (Try.prog.underlying 17).isSome = true := by kernel_rfl
@[go_sem] theorem ze_17 : zeros Try.prog 17 = some [.sc (.pointer none)] := by kernel_rfl
@[go_sem] theorem by_17 : bytesOf Try.prog 17 = 8 := by kernel_rfl
@[go_sem] theorem sz_21 : szOf Try.prog 21 = 1 := by kernel_rfl
@[go_sem] theorem kn_21 : knownT Try.prog 21 = true := by kernel_rfl
@[go_sem] theorem ag_21 : aggOf Try.prog 21 = false := by kernel_rfl
@[go_sem] theorem us_21 : (Try.prog.underlying 21).isSome = true := by kernel_rfl
@[go_sem] theorem un_21 : Try.prog.underlying 21 = some (.int .i32) := by kernel_rfl
@[go_sem] theorem ze_21 : zeros Try.prog 21 = some [.sc (.int .i32 0)] := by kernel_rfl
@[go_sem] theorem az_21 : azero1 Try.prog 21 = some (.sc (.int .i32 0)) := by kernel_rfl
@[go_sem] theorem by_21 : bytesOf Try.prog 21 = 4 := by kernel_rfl
@[go_sem] theorem sz_22 : szOf Try.prog 22 = 1 := by kernel_rfl
@[go_sem] theorem kn_22 : knownT Try.prog 22 = true := by kernel_rfl
@[go_sem] theorem ag_22 : aggOf Try.prog 22 = false := by kernel_rfl
@[go_sem] theorem us_22 : (Try.prog.underlying 22).isSome = true := by kernel_rfl
@[go_sem] theorem el_22 : Go.PA.elemOf Try.prog 22 = some 3 := by kernel_rfl
@[go_sem] theorem un_22 : Try.prog.underlying 22 = some (.slice 3) := by kernel_rfl
@[go_sem] theorem ze_22 : zeros Try.prog 22 = some [.nil] := by kernel_rfl
@[go_sem] theorem az_22 : azero1 Try.prog 22 = some (.nil) := by kernel_rfl
@[go_sem] theorem by_22 : bytesOf Try.prog 22 = 24 := by kernel_rfl
@[go_sem] theorem sz_23 : szOf Try.prog 23 = 1 := by kernel_rfl
@[go_sem] theorem kn_23 : knownT Try.prog 23 = true := by kernel_rfl
@[go_sem] theorem ag_23 : aggOf Try.prog 23 = false := by kernel_rfl
@[go_sem] theorem us_23 : (Try.prog.underlying 23).isSome = true := by kernel_rfl
@[go_sem] theorem un_23 : Try.prog.underlying 23 = some (.int .u16) := by kernel_rfl
@[go_sem] theorem ze_23 : zeros Try.prog 23 = some [.sc (.int .u16 0)] := by kernel_rfl
@[go_sem] theorem az_23 : azero1 Try.prog 23 = some (.sc (.int .u16 0)) := by kernel_rfl
@[go_sem] theorem by_23 : bytesOf Try.prog 23 = 2 := by kernel_rfl
@[go_sem] theorem sz_24 : szOf Try.prog 24 = 1 := by kernel_rfl
@[go_sem] theorem kn_24 : knownT Try.prog 24 = true := by kernel_rfl
@[go_sem] theorem ag_24 : aggOf Try.prog 24 = false := by kernel_rfl
@[go_sem] theorem us_24 : (Try.prog.underlying 24).isSome = true := by kernel_rfl
@[go_sem] theorem ze_24 : zeros Try.prog 24 = some [.sc (.pointer none)] := by kernel_rfl
@[go_sem] theorem by_24 : bytesOf Try.prog 24 = 8 := by kernel_rfl
@[go_sem] theorem sz_26 : szOf Try.prog 26 = 1 := by kernel_rfl
@[go_sem] theorem kn_26 : knownT Try.prog 26 = true := by kernel_rfl
@[go_sem] theorem ag_26 : aggOf Try.prog 26 = false := by kernel_rfl
@[go_sem] theorem us_26 : (Try.prog.underlying 26).isSome = true := by kernel_rfl
@[go_sem] theorem el_26 : Go.PA.elemOf Try.prog 26 = some 37 := by kernel_rfl
@[go_sem] theorem un_26 : Try.prog.underlying 26 = some (.slice 37) := by kernel_rfl
@[go_sem] theorem ze_26 : zeros Try.prog 26 = some [.nil] := by kernel_rfl
@[go_sem] theorem az_26 : azero1 Try.prog 26 = some (.nil) := by kernel_rfl
@[go_sem] theorem by_26 : bytesOf Try.prog 26 = 24 := by kernel_rfl
@[go_sem] theorem sz_27 : szOf Try.prog 27 = 1 := by kernel_rfl
@[go_sem] theorem kn_27 : knownT Try.prog 27 = true := by kernel_rfl
@[go_sem] theorem ag_27 : aggOf Try.prog 27 = true := by kernel_rfl
@[go_sem] theorem us_27 : (Try.prog.underlying 27).isSome = true := by kernel_rfl
@[go_sem] theorem fd_27_0 : fieldOf Try.prog 27 0 = some (0, 26) := by kernel_rfl
@[go_sem] theorem el_27 : Go.PA.elemOf Try.prog 27 = none := by kernel_rfl
@[go_sem] theorem ar_27 : arrOf Try.prog 27 = none := by kernel_rfl
@[go_sem] theorem fk_27 : fieldsKnown Try.prog 27 = true := by kernel_rfl
@[go_sem] theorem ze_27 : zeros Try.prog 27 = some [.nil] := by kernel_rfl
@[go_sem] theorem by_27 : bytesOf Try.prog 27 = 24 := by kernel_rfl
@[go_sem] theorem sz_28 : szOf Try.prog 28 = 1 := by kernel_rfl
@[go_sem] theorem kn_28 : knownT Try.prog 28 = true := by kernel_rfl
@[go_sem] theorem ag_28 : aggOf Try.prog 28 = true := by kernel_rfl
@[go_sem] theorem us_28 : (Try.prog.underlying 28).isSome = true := by kernel_rfl
@[go_sem] theorem fd_28_0 : fieldOf Try.prog 28 0 = some (0, 26) := by kernel_rfl
@[go_sem] theorem el_28 : Go.PA.elemOf Try.prog 28 = none := by kernel_rfl
@[go_sem] theorem ar_28 : arrOf Try.prog 28 = none := by kernel_rfl
@[go_sem] theorem fk_28 : fieldsKnown Try.prog 28 = true := by kernel_rfl
@[go_sem] theorem ze_28 : zeros Try.prog 28 = some [.nil] := by kernel_rfl
@[go_sem] theorem by_28 : bytesOf Try.prog 28 = 24 := by kernel_rfl
@[go_sem] theorem sz_30 : szOf Try.prog 30 = 1 := by kernel_rfl
@[go_sem] theorem kn_30 : knownT Try.prog 30 = true := by kernel_rfl
@[go_sem] theorem ag_30 : aggOf Try.prog 30 = false := by kernel_rfl
@[go_sem] theorem us_30 : (Try.prog.underlying 30).isSome = true := by kernel_rfl
@[go_sem] theorem el_30 : Go.PA.elemOf Try.prog 30 = some 33 := by kernel_rfl
@[go_sem] theorem un_30 : Try.prog.underlying 30 = some (.slice 33) := by kernel_rfl
@[go_sem] theorem ze_30 : zeros Try.prog 30 = some [.nil] := by kernel_rfl
@[go_sem] theorem az_30 : azero1 Try.prog 30 = some (.nil) := by kernel_rfl
@[go_sem] theorem by_30 : bytesOf Try.prog 30 = 24 := by kernel_rfl
@[go_sem] theorem sz_32 : szOf Try.prog 32 = 2 := by kernel_rfl
@[go_sem] theorem kn_32 : knownT Try.prog 32 = true := by kernel_rfl
@[go_sem] theorem ag_32 : aggOf Try.prog 32 = true := by kernel_rfl
@[go_sem] theorem us_32 : (Try.prog.underlying 32).isSome = true := by kernel_rfl
@[go_sem] theorem fd_32_0 : fieldOf Try.prog 32 0 = some (0, 3) := by kernel_rfl
@[go_sem] theorem fd_32_1 : fieldOf Try.prog 32 1 = some (1, 3) := by kernel_rfl
@[go_sem] theorem el_32 : Go.PA.elemOf Try.prog 32 = none := by kernel_rfl
@[go_sem] theorem ar_32 : arrOf Try.prog 32 = none := by kernel_rfl
@[go_sem] theorem fk_32 : fieldsKnown Try.prog 32 = true := by kernel_rfl
@[go_sem] theorem sg_32 : sigOf Try.prog 32 = some [.int, .int] := by kernel_rfl
@[go_sem] theorem ze_32 : zeros Try.prog 32 = some [.sc (.int .i64 0), .sc (.int .i64 0)] := by kernel_rfl
@[go_sem] theorem by_32 : bytesOf Try.prog 32 = 16 := by kernel_rfl
@[go_sem] theorem sz_33 : szOf Try.prog 33 = 2 := by kernel_rfl
@[go_sem] theorem kn_33 : knownT Try.prog 33 = true := by kernel_rfl
@[go_sem] theorem ag_33 : aggOf Try.prog 33 = true := by kernel_rfl
@[go_sem] theorem us_33 : (Try.prog.underlying 33).isSome = true := by kernel_rfl
@[go_sem] theorem fd_33_0 : fieldOf Try.prog 33 0 = some (0, 3) := by kernel_rfl
@[go_sem] theorem fd_33_1 : fieldOf Try.prog 33 1 = some (1, 3) := by kernel_rfl
@[go_sem] theorem el_33 : Go.PA.elemOf Try.prog 33 = none := by kernel_rfl
@[go_sem] theorem ar_33 : arrOf Try.prog 33 = none := by kernel_rfl
@[go_sem] theorem fk_33 : fieldsKnown Try.prog 33 = true := by kernel_rfl
@[go_sem] theorem sg_33 : sigOf Try.prog 33 = some [.int, .int] := by kernel_rfl
@[go_sem] theorem ze_33 : zeros Try.prog 33 = some [.sc (.int .i64 0), .sc (.int .i64 0)] := by kernel_rfl
@[go_sem] theorem by_33 : bytesOf Try.prog 33 = 16 := by kernel_rfl
@[go_sem] theorem sz_35 : szOf Try.prog 35 = 4 := by kernel_rfl
@[go_sem] theorem kn_35 : knownT Try.prog 35 = true := by kernel_rfl
@[go_sem] theorem ag_35 : aggOf Try.prog 35 = true := by kernel_rfl
@[go_sem] theorem us_35 : (Try.prog.underlying 35).isSome = true := by kernel_rfl
@[go_sem] theorem el_35 : Go.PA.elemOf Try.prog 35 = none := by kernel_rfl
@[go_sem] theorem ar_35 : arrOf Try.prog 35 = some (4, 3) := by kernel_rfl
@[go_sem] theorem fk_35 : fieldsKnown Try.prog 35 = true := by kernel_rfl
@[go_sem] theorem fd_35_0 : fieldOf Try.prog 35 0 = none := by kernel_rfl
@[go_sem] theorem fd_35_1 : fieldOf Try.prog 35 1 = none := by kernel_rfl
@[go_sem] theorem fd_35_2 : fieldOf Try.prog 35 2 = none := by kernel_rfl
@[go_sem] theorem fd_35_3 : fieldOf Try.prog 35 3 = none := by kernel_rfl
@[go_sem] theorem ze_35 : zeros Try.prog 35 = some [.sc (.int .i64 0), .sc (.int .i64 0), .sc (.int .i64 0), .sc (.int .i64 0)] := by kernel_rfl
@[go_sem] theorem by_35 : bytesOf Try.prog 35 = 32 := by kernel_rfl
@[go_sem] theorem sz_36 : szOf Try.prog 36 = 8 := by kernel_rfl
@[go_sem] theorem kn_36 : knownT Try.prog 36 = true := by kernel_rfl
@[go_sem] theorem ag_36 : aggOf Try.prog 36 = true := by kernel_rfl
@[go_sem] theorem us_36 : (Try.prog.underlying 36).isSome = true := by kernel_rfl
@[go_sem] theorem fd_36_0 : fieldOf Try.prog 36 0 = some (0, 3) := by kernel_rfl
@[go_sem] theorem fd_36_1 : fieldOf Try.prog 36 1 = some (1, 3) := by kernel_rfl
@[go_sem] theorem fd_36_2 : fieldOf Try.prog 36 2 = some (2, 3) := by kernel_rfl
@[go_sem] theorem fd_36_3 : fieldOf Try.prog 36 3 = some (3, 3) := by kernel_rfl
@[go_sem] theorem fd_36_4 : fieldOf Try.prog 36 4 = some (4, 3) := by kernel_rfl
@[go_sem] theorem fd_36_5 : fieldOf Try.prog 36 5 = some (5, 3) := by kernel_rfl
@[go_sem] theorem fd_36_6 : fieldOf Try.prog 36 6 = some (6, 3) := by kernel_rfl
@[go_sem] theorem fd_36_7 : fieldOf Try.prog 36 7 = some (7, 3) := by kernel_rfl
@[go_sem] theorem el_36 : Go.PA.elemOf Try.prog 36 = none := by kernel_rfl
@[go_sem] theorem ar_36 : arrOf Try.prog 36 = none := by kernel_rfl
@[go_sem] theorem fk_36 : fieldsKnown Try.prog 36 = true := by kernel_rfl
@[go_sem] theorem sg_36 : sigOf Try.prog 36 = some [.int, .int, .int, .int, .int, .int, .int, .int] := by kernel_rfl
@[go_sem] theorem ze_36 : zeros Try.prog 36 = some [.sc (.int .i64 0), .sc (.int .i64 0), .sc (.int .i64 0), .sc (.int .i64 0), .sc (.int .i64 0), .sc (.int .i64 0), .sc (.int .i64 0), .sc (.int .i64 0)] := by kernel_rfl
@[go_sem] theorem by_36 : bytesOf Try.prog 36 = 64 := by kernel_rfl
@[go_sem] theorem sz_37 : szOf Try.prog 37 = 8 := by kernel_rfl
@[go_sem] theorem kn_37 : knownT Try.prog 37 = true := by kernel_rfl
@[go_sem] theorem ag_37 : aggOf Try.prog 37 = true := by kernel_rfl
@[go_sem] theorem us_37 : (Try.prog.underlying 37).isSome = true := by kernel_rfl
@[go_sem] theorem fd_37_0 : fieldOf Try.prog 37 0 = some (0, 3) := by kernel_rfl
@[go_sem] theorem fd_37_1 : fieldOf Try.prog 37 1 = some (1, 3) := by kernel_rfl
@[go_sem] theorem fd_37_2 : fieldOf Try.prog 37 2 = some (2, 3) := by kernel_rfl
@[go_sem] theorem fd_37_3 : fieldOf Try.prog 37 3 = some (3, 3) := by kernel_rfl
@[go_sem] theorem fd_37_4 : fieldOf Try.prog 37 4 = some (4, 3) := by kernel_rfl
@[go_sem] theorem fd_37_5 : fieldOf Try.prog 37 5 = some (5, 3) := by kernel_rfl
@[go_sem] theorem fd_37_6 : fieldOf Try.prog 37 6 = some (6, 3) := by kernel_rfl
@[go_sem] theorem fd_37_7 : fieldOf Try.prog 37 7 = some (7, 3) := by kernel_rfl
@[go_sem] theorem el_37 : Go.PA.elemOf Try.prog 37 = none := by kernel_rfl
@[go_sem] theorem ar_37 : arrOf Try.prog 37 = none := by kernel_rfl
@[go_sem] theorem fk_37 : fieldsKnown Try.prog 37 = true := by kernel_rfl
@[go_sem] theorem sg_37 : sigOf Try.prog 37 = some [.int, .int, .int, .int, .int, .int, .int, .int] := by kernel_rfl
@[go_sem] theorem ze_37 : zeros Try.prog 37 = some [.sc (.int .i64 0), .sc (.int .i64 0), .sc (.int .i64 0), .sc (.int .i64 0), .sc (.int .i64 0), .sc (.int .i64 0), .sc (.int .i64 0), .sc (.int .i64 0)] := by kernel_rfl
@[go_sem] theorem by_37 : bytesOf Try.prog 37 = 64 := by kernel_rfl
@[go_sem] theorem sz_39 : szOf Try.prog 39 = 1 := by kernel_rfl
@[go_sem] theorem kn_39 : knownT Try.prog 39 = true := by kernel_rfl
@[go_sem] theorem ag_39 : aggOf Try.prog 39 = false := by kernel_rfl
@[go_sem] theorem us_39 : (Try.prog.underlying 39).isSome = true := by kernel_rfl
@[go_sem] theorem un_39 : Try.prog.underlying 39 = some (.int .i64) := by kernel_rfl
@[go_sem] theorem ze_39 : zeros Try.prog 39 = some [.sc (.int .i64 0)] := by kernel_rfl
@[go_sem] theorem az_39 : azero1 Try.prog 39 = some (.sc (.int .i64 0)) := by kernel_rfl
@[go_sem] theorem by_39 : bytesOf Try.prog 39 = 8 := by kernel_rfl
@[go_sem] theorem sz_47 : szOf Try.prog 47 = 5 := by kernel_rfl
@[go_sem] theorem kn_47 : knownT Try.prog 47 = true := by kernel_rfl
@[go_sem] theorem ag_47 : aggOf Try.prog 47 = true := by kernel_rfl
@[go_sem] theorem us_47 : (Try.prog.underlying 47).isSome = true := by kernel_rfl
@[go_sem] theorem fd_47_0 : fieldOf Try.prog 47 0 = some (0, 3) := by kernel_rfl
@[go_sem] theorem fd_47_1 : fieldOf Try.prog 47 1 = some (1, 3) := by kernel_rfl
@[go_sem] theorem fd_47_2 : fieldOf Try.prog 47 2 = some (2, 3) := by kernel_rfl
@[go_sem] theorem fd_47_3 : fieldOf Try.prog 47 3 = some (3, 3) := by kernel_rfl
@[go_sem] theorem fd_47_4 : fieldOf Try.prog 47 4 = some (4, 3) := by kernel_rfl
@[go_sem] theorem el_47 : Go.PA.elemOf Try.prog 47 = none := by kernel_rfl
@[go_sem] theorem ar_47 : arrOf Try.prog 47 = none := by kernel_rfl
@[go_sem] theorem fk_47 : fieldsKnown Try.prog 47 = true := by kernel_rfl
@[go_sem] theorem sg_47 : sigOf Try.prog 47 = some [.int, .int, .int, .int, .int] := by kernel_rfl
@[go_sem] theorem ze_47 : zeros Try.prog 47 = some [.sc (.int .i64 0), .sc (.int .i64 0), .sc (.int .i64 0), .sc (.int .i64 0), .sc (.int .i64 0)] := by kernel_rfl
@[go_sem] theorem by_47 : bytesOf Try.prog 47 = 40 := by kernel_rfl
@[go_sem] theorem sz_48 : szOf Try.prog 48 = 5 := by kernel_rfl
@[go_sem] theorem kn_48 : knownT Try.prog 48 = true := by kernel_rfl
@[go_sem] theorem ag_48 : aggOf Try.prog 48 = true := by kernel_rfl
@[go_sem] theorem us_48 : (Try.prog.underlying 48).isSome = true := by kernel_rfl
@[go_sem] theorem fd_48_0 : fieldOf Try.prog 48 0 = some (0, 3) := by kernel_rfl
@[go_sem] theorem fd_48_1 : fieldOf Try.prog 48 1 = some (1, 3) := by kernel_rfl
@[go_sem] theorem fd_48_2 : fieldOf Try.prog 48 2 = some (2, 3) := by kernel_rfl
@[go_sem] theorem fd_48_3 : fieldOf Try.prog 48 3 = some (3, 3) := by kernel_rfl
@[go_sem] theorem fd_48_4 : fieldOf Try.prog 48 4 = some (4, 3) := by kernel_rfl
@[go_sem] theorem el_48 : Go.PA.elemOf Try.prog 48 = none := by kernel_rfl
@[go_sem] theorem ar_48 : arrOf Try.prog 48 = none := by kernel_rfl
@[go_sem] theorem fk_48 : fieldsKnown Try.prog 48 = true := by kernel_rfl
@[go_sem] theorem sg_48 : sigOf Try.prog 48 = some [.int, .int, .int, .int, .int] := by kernel_rfl
@[go_sem] theorem ze_48 : zeros Try.prog 48 = some [.sc (.int .i64 0), .sc (.int .i64 0), .sc (.int .i64 0), .sc (.int .i64 0), .sc (.int .i64 0)] := by kernel_rfl
@[go_sem] theorem by_48 : bytesOf Try.prog 48 = 40 := by kernel_rfl
@[go_sem] theorem sz_53 : szOf Try.prog 53 = 1 := by kernel_rfl
@[go_sem] theorem kn_53 : knownT Try.prog 53 = true := by kernel_rfl
@[go_sem] theorem ag_53 : aggOf Try.prog 53 = false := by kernel_rfl
@[go_sem] theorem us_53 : (Try.prog.underlying 53).isSome = true := by kernel_rfl
@[go_sem] theorem el_53 : Go.PA.elemOf Try.prog 53 = some 62 := by kernel_rfl
@[go_sem] theorem un_53 : Try.prog.underlying 53 = some (.slice 62) := by kernel_rfl
@[go_sem] theorem ze_53 : zeros Try.prog 53 = some [.nil] := by kernel_rfl
@[go_sem] theorem az_53 : azero1 Try.prog 53 = some (.nil) := by kernel_rfl
@[go_sem] theorem by_53 : bytesOf Try.prog 53 = 24 := by kernel_rfl
@[go_sem] theorem sz_54 : szOf Try.prog 54 = 1 := by kernel_rfl
@[go_sem] theorem kn_54 : knownT Try.prog 54 = true := by kernel_rfl
@[go_sem] theorem ag_54 : aggOf Try.prog 54 = false := by kernel_rfl
@[go_sem] theorem us_54 : (Try.prog.underlying 54).isSome = true := by kernel_rfl
@[go_sem] theorem el_54 : Go.PA.elemOf Try.prog 54 = some 66 := by kernel_rfl
@[go_sem] theorem un_54 : Try.prog.underlying 54 = some (.slice 66) := by kernel_rfl
@[go_sem] theorem ze_54 : zeros Try.prog 54 = some [.nil] := by kernel_rfl
@[go_sem] theorem az_54 : azero1 Try.prog 54 = some (.nil) := by kernel_rfl
@[go_sem] theorem by_54 : bytesOf Try.prog 54 = 24 := by kernel_rfl
@[go_sem] theorem sz_55 : szOf Try.prog 55 = 3 := by kernel_rfl
@[go_sem] theorem kn_55 : knownT Try.prog 55 = true := by kernel_rfl
@[go_sem] theorem ag_55 : aggOf Try.prog 55 = true := by kernel_rfl
@[go_sem] theorem us_55 : (Try.prog.underlying 55).isSome = true := by kernel_rfl
@[go_sem] theorem fd_55_0 : fieldOf Try.prog 55 0 = some (0, 28) := by kernel_rfl
@[go_sem] theorem fd_55_1 : fieldOf Try.prog 55 1 = some (1, 53) := by kernel_rfl
@[go_sem] theorem fd_55_2 : fieldOf Try.prog 55 2 = some (2, 54) := by kernel_rfl
@[go_sem] theorem el_55 : Go.PA.elemOf Try.prog 55 = none := by kernel_rfl
@[go_sem] theorem ar_55 : arrOf Try.prog 55 = none := by kernel_rfl
@[go_sem] theorem fk_55 : fieldsKnown Try.prog 55 = true := by kernel_rfl
@[go_sem] theorem ze_55 : zeros Try.prog 55 = some [.nil, .nil, .nil] := by kernel_rfl
@[go_sem] theorem by_55 : bytesOf Try.prog 55 = 72 := by kernel_rfl
@[go_sem] theorem sz_56 : szOf Try.prog 56 = 3 := by kernel_rfl
@[go_sem] theorem kn_56 : knownT Try.prog 56 = true := by kernel_rfl
@[go_sem] theorem ag_56 : aggOf Try.prog 56 = true := by kernel_rfl
@[go_sem] theorem us_56 : (Try.prog.underlying 56).isSome = true := by kernel_rfl
@[go_sem] theorem fd_56_0 : fieldOf Try.prog 56 0 = some (0, 28) := by kernel_rfl
@[go_sem] theorem fd_56_1 : fieldOf Try.prog 56 1 = some (1, 53) := by kernel_rfl
@[go_sem] theorem fd_56_2 : fieldOf Try.prog 56 2 = some (2, 54) := by kernel_rfl
@[go_sem] theorem el_56 : Go.PA.elemOf Try.prog 56 = none := by kernel_rfl
@[go_sem] theorem ar_56 : arrOf Try.prog 56 = none := by kernel_rfl
@[go_sem] theorem fk_56 : fieldsKnown Try.prog 56 = true := by kernel_rfl
@[go_sem] theorem ze_56 : zeros Try.prog 56 = some [.nil, .nil, .nil] := by kernel_rfl
@[go_sem] theorem by_56 : bytesOf Try.prog 56 = 72 := by kernel_rfl
@[go_sem] theorem sz_61 : szOf Try.prog 61 = 7 := by kernel_rfl
@[go_sem] theorem kn_61 : knownT Try.prog 61 = true := by kernel_rfl
@[go_sem] theorem ag_61 : aggOf Try.prog 61 = true := by kernel_rfl
@[go_sem] theorem us_61 : (Try.prog.underlying 61).isSome = true := by kernel_rfl
@[go_sem] theorem fd_61_0 : fieldOf Try.prog 61 0 = some (0, 3) := by kernel_rfl
@[go_sem] theorem fd_61_1 : fieldOf Try.prog 61 1 = some (1, 3) := by kernel_rfl
@[go_sem] theorem fd_61_2 : fieldOf Try.prog 61 2 = some (2, 48) := by kernel_rfl
@[go_sem] theorem el_61 : Go.PA.elemOf Try.prog 61 = none := by kernel_rfl
@[go_sem] theorem ar_61 : arrOf Try.prog 61 = none := by kernel_rfl
@[go_sem] theorem fk_61 : fieldsKnown Try.prog 61 = true := by kernel_rfl
@[go_sem] theorem sg_61 : sigOf Try.prog 61 = some [.int, .int, .int, .int, .int, .int, .int] := by kernel_rfl
@[go_sem] theorem ze_61 : zeros Try.prog 61 = some [.sc (.int .i64 0), .sc (.int .i64 0), .sc (.int .i64 0), .sc (.int .i64 0), .sc (.int .i64 0), .sc (.int .i64 0), .sc (.int .i64 0)] := by kernel_rfl
@[go_sem] theorem by_61 : bytesOf Try.prog 61 = 56 := by kernel_rfl
@[go_sem] theorem sz_62 : szOf Try.prog 62 = 7 := by kernel_rfl
@[go_sem] theorem kn_62 : knownT Try.prog 62 = true := by kernel_rfl
@[go_sem] theorem ag_62 : aggOf Try.prog 62 = true := by kernel_rfl
@[go_sem] theorem us_62 : (Try.prog.underlying 62).isSome = true := by kernel_rfl
@[go_sem] theorem fd_62_0 : fieldOf Try.prog 62 0 = some (0, 3) := by kernel_rfl
@[go_sem] theorem fd_62_1 : fieldOf Try.prog 62 1 = some (1, 3) := by kernel_rfl
@[go_sem] theorem fd_62_2 : fieldOf Try.prog 62 2 = some (2, 48) := by kernel_rfl
@[go_sem] theorem el_62 : Go.PA.elemOf Try.prog 62 = none := by kernel_rfl
@[go_sem] theorem ar_62 : arrOf Try.prog 62 = none := by kernel_rfl
@[go_sem] theorem fk_62 : fieldsKnown Try.prog 62 = true := by kernel_rfl
@[go_sem] theorem sg_62 : sigOf Try.prog 62 = some [.int, .int, .int, .int, .int, .int, .int] := by kernel_rfl
@[go_sem] theorem ze_62 : zeros Try.prog 62 = some [.sc (.int .i64 0), .sc (.int .i64 0), .sc (.int .i64 0), .sc (.int .i64 0), .sc (.int .i64 0), .sc (.int .i64 0), .sc (.int .i64 0)] := by kernel_rfl
@[go_sem] theorem by_62 : bytesOf Try.prog 62 = 56 := by kernel_rfl
@[go_sem] theorem sz_65 : szOf Try.prog 65 = 3 := by kernel_rfl
@[go_sem] theorem kn_65 : knownT Try.prog 65 = true := by kernel_rfl
@[go_sem] theorem ag_65 : aggOf Try.prog 65 = true := by kernel_rfl
@[go_sem] theorem us_65 : (Try.prog.underlying 65).isSome = true := by kernel_rfl
@[go_sem] theorem fd_65_0 : fieldOf Try.prog 65 0 = some (0, 3) := by kernel_rfl
@[go_sem] theorem fd_65_1 : fieldOf Try.prog 65 1 = some (1, 3) := by kernel_rfl
@[go_sem] theorem fd_65_2 : fieldOf Try.prog 65 2 = some (2, 26) := by kernel_rfl
@[go_sem] theorem el_65 : Go.PA.elemOf Try.prog 65 = none := by kernel_rfl
@[go_sem] theorem ar_65 : arrOf Try.prog 65 = none := by kernel_rfl
@[go_sem] theorem fk_65 : fieldsKnown Try.prog 65 = true := by kernel_rfl
@[go_sem] theorem ze_65 : zeros Try.prog 65 = some [.sc (.int .i64 0), .sc (.int .i64 0), .nil] := by kernel_rfl
@[go_sem] theorem by_65 : bytesOf Try.prog 65 = 40 := by kernel_rfl
@[go_sem] theorem sz_66 : szOf Try.prog 66 = 3 := by kernel_rfl
@[go_sem] theorem kn_66 : knownT Try.prog 66 = true := by kernel_rfl
@[go_sem] theorem ag_66 : aggOf Try.prog 66 = true := by kernel_rfl
@[go_sem] theorem us_66 : (Try.prog.underlying 66).isSome = true := by kernel_rfl
@[go_sem] theorem fd_66_0 : fieldOf Try.prog 66 0 = some (0, 3) := by kernel_rfl
@[go_sem] theorem fd_66_1 : fieldOf Try.prog 66 1 = some (1, 3) := by kernel_rfl
@[go_sem] theorem fd_66_2 : fieldOf Try.prog 66 2 = some (2, 26) := by kernel_rfl
@[go_sem] theorem el_66 : Go.PA.elemOf Try.prog 66 = none := by kernel_rfl
@[go_sem] theorem ar_66 : arrOf Try.prog 66 = none := by kernel_rfl
@[go_sem] theorem fk_66 : fieldsKnown Try.prog 66 = true := by kernel_rfl
@[go_sem] theorem ze_66 : zeros Try.prog 66 = some [.sc (.int .i64 0), .sc (.int .i64 0), .nil] := by kernel_rfl
@[go_sem] theorem by_66 : bytesOf Try.prog 66 = 40 := by kernel_rfl
@[go_sem] theorem sz_80 : szOf Try.prog 80 = 9 := by kernel_rfl
@[go_sem] theorem kn_80 : knownT Try.prog 80 = true := by kernel_rfl
@[go_sem] theorem ag_80 : aggOf Try.prog 80 = true := by kernel_rfl
@[go_sem] theorem us_80 : (Try.prog.underlying 80).isSome = true := by kernel_rfl
@[go_sem] theorem el_80 : Go.PA.elemOf Try.prog 80 = none := by kernel_rfl
@[go_sem] theorem ar_80 : arrOf Try.prog 80 = some (3, 56) := by kernel_rfl
@[go_sem] theorem fk_80 : fieldsKnown Try.prog 80 = true := by kernel_rfl
@[go_sem] theorem fd_80_0 : fieldOf Try.prog 80 0 = none := by kernel_rfl
@[go_sem] theorem fd_80_1 : fieldOf Try.prog 80 1 = none := by kernel_rfl
@[go_sem] theorem fd_80_2 : fieldOf Try.prog 80 2 = none := by kernel_rfl
@[go_sem] theorem ze_80 : zeros Try.prog 80 = some [.nil, .nil, .nil, .nil, .nil, .nil, .nil, .nil, .nil] := by kernel_rfl
@[go_sem] theorem by_80 : bytesOf Try.prog 80 = 216 := by kernel_rfl
@[go_sem] theorem sz_83 : szOf Try.prog 83 = 9 := by kernel_rfl
@[go_sem] theorem kn_83 : knownT Try.prog 83 = true := by kernel_rfl
@[go_sem] theorem ag_83 : aggOf Try.prog 83 = true := by kernel_rfl
@[go_sem] theorem us_83 : (Try.prog.underlying 83).isSome = true := by kernel_rfl
@[go_sem] theorem el_83 : Go.PA.elemOf Try.prog 83 = none := by kernel_rfl
@[go_sem] theorem ar_83 : arrOf Try.prog 83 = some (3, 66) := by kernel_rfl
@[go_sem] theorem fk_83 : fieldsKnown Try.prog 83 = true := by kernel_rfl
@[go_sem] theorem fd_83_0 : fieldOf Try.prog 83 0 = none := by kernel_rfl
@[go_sem] theorem fd_83_1 : fieldOf Try.prog 83 1 = none := by kernel_rfl
@[go_sem] theorem fd_83_2 : fieldOf Try.prog 83 2 = none := by kernel_rfl
@[go_sem] theorem ze_83 : zeros Try.prog 83 = some [.sc (.int .i64 0), .sc (.int .i64 0), .nil, .sc (.int .i64 0), .sc (.int .i64 0), .nil, .sc (.int .i64 0), .sc (.int .i64 0), .nil] := by kernel_rfl
@[go_sem] theorem by_83 : bytesOf Try.prog 83 = 120 := by kernel_rfl
@[go_sem] theorem sz_84 : szOf Try.prog 84 = 2 := by kernel_rfl
@[go_sem] theorem kn_84 : knownT Try.prog 84 = true := by kernel_rfl
@[go_sem] theorem ag_84 : aggOf Try.prog 84 = true := by kernel_rfl
@[go_sem] theorem us_84 : (Try.prog.underlying 84).isSome = true := by kernel_rfl
@[go_sem] theorem el_84 : Go.PA.elemOf Try.prog 84 = none := by kernel_rfl
@[go_sem] theorem ar_84 : arrOf Try.prog 84 = some (2, 3) := by kernel_rfl
@[go_sem] theorem fk_84 : fieldsKnown Try.prog 84 = true := by kernel_rfl
@[go_sem] theorem fd_84_0 : fieldOf Try.prog 84 0 = none := by kernel_rfl
@[go_sem] theorem fd_84_1 : fieldOf Try.prog 84 1 = none := by kernel_rfl
@[go_sem] theorem ze_84 : zeros Try.prog 84 = some [.sc (.int .i64 0), .sc (.int .i64 0)] := by kernel_rfl
@[go_sem] theorem by_84 : bytesOf Try.prog 84 = 16 := by kernel_rfl
@[go_sem] theorem sz_85 : szOf Try.prog 85 = 6 := by kernel_rfl
@[go_sem] theorem kn_85 : knownT Try.prog 85 = true := by kernel_rfl
@[go_sem] theorem ag_85 : aggOf Try.prog 85 = true := by kernel_rfl
@[go_sem] theorem us_85 : (Try.prog.underlying 85).isSome = true := by kernel_rfl
@[go_sem] theorem el_85 : Go.PA.elemOf Try.prog 85 = none := by kernel_rfl
@[go_sem] theorem ar_85 : arrOf Try.prog 85 = some (3, 84) := by kernel_rfl
@[go_sem] theorem fk_85 : fieldsKnown Try.prog 85 = true := by kernel_rfl
@[go_sem] theorem fd_85_0 : fieldOf Try.prog 85 0 = none := by kernel_rfl
@[go_sem] theorem fd_85_1 : fieldOf Try.prog 85 1 = none := by kernel_rfl
@[go_sem] theorem fd_85_2 : fieldOf Try.prog 85 2 = none := by kernel_rfl
@[go_sem] theorem ze_85 : zeros Try.prog 85 = some [.sc (.int .i64 0), .sc (.int .i64 0), .sc (.int .i64 0), .sc (.int .i64 0), .sc (.int .i64 0), .sc (.int .i64 0)] := by kernel_rfl
@[go_sem] theorem by_85 : bytesOf Try.prog 85 = 48 := by kernel_rfl
@[go_sem] theorem sz_87 : szOf Try.prog 87 = 1 := by kernel_rfl
@[go_sem] theorem kn_87 : knownT Try.prog 87 = true := by kernel_rfl
@[go_sem] theorem ag_87 : aggOf Try.prog 87 = false := by kernel_rfl
@[go_sem] theorem us_87 : (Try.prog.underlying 87).isSome = true := by kernel_rfl
@[go_sem] theorem el_87 : Go.PA.elemOf Try.prog 87 = some 96 := by kernel_rfl
@[go_sem] theorem un_87 : Try.prog.underlying 87 = some (.slice 96) := by kernel_rfl
@[go_sem] theorem ze_87 : zeros Try.prog 87 = some [.nil] := by kernel_rfl
@[go_sem] theorem az_87 : azero1 Try.prog 87 = some (.nil) := by kernel_rfl
@[go_sem] theorem by_87 : bytesOf Try.prog 87 = 24 := by kernel_rfl
@[go_sem] theorem sz_88 : szOf Try.prog 88 = 1 := by kernel_rfl
@[go_sem] theorem kn_88 : knownT Try.prog 88 = true := by kernel_rfl
@[go_sem] theorem ag_88 : aggOf Try.prog 88 = false := by kernel_rfl
@[go_sem] theorem us_88 : (Try.prog.underlying 88).isSome = true := by kernel_rfl
@[go_sem] theorem el_88 : Go.PA.elemOf Try.prog 88 = some 139 := by kernel_rfl
@[go_sem] theorem un_88 : Try.prog.underlying 88 = some (.slice 139) := by kernel_rfl
@[go_sem] theorem ze_88 : zeros Try.prog 88 = some [.nil] := by kernel_rfl
@[go_sem] theorem az_88 : azero1 Try.prog 88 = some (.nil) := by kernel_rfl
@[go_sem] theorem by_88 : bytesOf Try.prog 88 = 24 := by kernel_rfl
@[go_sem] theorem sz_89 : szOf Try.prog 89 = 3 := by kernel_rfl
@[go_sem] theorem kn_89 : knownT Try.prog 89 = true := by kernel_rfl
@[go_sem] theorem ag_89 : aggOf Try.prog 89 = true := by kernel_rfl
@[go_sem] theorem us_89 : (Try.prog.underlying 89).isSome = true := by kernel_rfl
@[go_sem] theorem fd_89_0 : fieldOf Try.prog 89 0 = some (0, 3) := by kernel_rfl
@[go_sem] theorem fd_89_1 : fieldOf Try.prog 89 1 = some (1, 87) := by kernel_rfl
@[go_sem] theorem fd_89_2 : fieldOf Try.prog 89 2 = some (2, 88) := by kernel_rfl
@[go_sem] theorem el_89 : Go.PA.elemOf Try.prog 89 = none := by kernel_rfl
@[go_sem] theorem ar_89 : arrOf Try.prog 89 = none := by kernel_rfl
@[go_sem] theorem fk_89 : fieldsKnown Try.prog 89 = true := by kernel_rfl
@[go_sem] theorem ze_89 : zeros Try.prog 89 = some [.sc (.int .i64 0), .nil, .nil] := by kernel_rfl
@[go_sem] theorem by_89 : bytesOf Try.prog 89 = 56 := by kernel_rfl
@[go_sem] theorem sz_90 : szOf Try.prog 90 = 3 := by kernel_rfl
@[go_sem] theorem kn_90 : knownT Try.prog 90 = true := by kernel_rfl
@[go_sem] theorem ag_90 : aggOf Try.prog 90 = true := by kernel_rfl
@[go_sem] theorem us_90 : (Try.prog.underlying 90).isSome = true := by kernel_rfl
@[go_sem] theorem fd_90_0 : fieldOf Try.prog 90 0 = some (0, 3) := by kernel_rfl
@[go_sem] theorem fd_90_1 : fieldOf Try.prog 90 1 = some (1, 87) := by kernel_rfl
@[go_sem] theorem fd_90_2 : fieldOf Try.prog 90 2 = some (2, 88) := by kernel_rfl
@[go_sem] theorem el_90 : Go.PA.elemOf Try.prog 90 = none := by kernel_rfl
@[go_sem] theorem ar_90 : arrOf Try.prog 90 = none := by kernel_rfl
@[go_sem] theorem fk_90 : fieldsKnown Try.prog 90 = true := by kernel_rfl
@[go_sem] theorem ze_90 : zeros Try.prog 90 = some [.sc (.int .i64 0), .nil, .nil] := by kernel_rfl
@[go_sem] theorem by_90 : bytesOf Try.prog 90 = 56 := by kernel_rfl
@[go_sem] theorem sz_95 : szOf Try.prog 95 = 2 := by kernel_rfl
@[go_sem] theorem kn_95 : knownT Try.prog 95 = true := by kernel_rfl
@[go_sem] theorem ag_95 : aggOf Try.prog 95 = true := by kernel_rfl
@[go_sem] theorem us_95 : (Try.prog.underlying 95).isSome = true := by kernel_rfl
@[go_sem] theorem fd_95_0 : fieldOf Try.prog 95 0 = some (0, 3) := by kernel_rfl
@[go_sem] theorem fd_95_1 : fieldOf Try.prog 95 1 = some (1, 3) := by kernel_rfl
@[go_sem] theorem el_95 : Go.PA.elemOf Try.prog 95 = none := by kernel_rfl
@[go_sem] theorem ar_95 : arrOf Try.prog 95 = none := by kernel_rfl
@[go_sem] theorem fk_95 : fieldsKnown Try.prog 95 = true := by kernel_rfl
@[go_sem] theorem sg_95 : sigOf Try.prog 95 = some [.int, .int] := by kernel_rfl
@[go_sem] theorem ze_95 : zeros Try.prog 95 = some [.sc (.int .i64 0), .sc (.int .i64 0)] := by kernel_rfl
@[go_sem] theorem by_95 : bytesOf Try.prog 95 = 16 := by kernel_rfl
@[go_sem] theorem sz_96 : szOf Try.prog 96 = 2 := by kernel_rfl
@[go_sem] theorem kn_96 : knownT Try.prog 96 = true := by kernel_rfl
@[go_sem] theorem ag_96 : aggOf Try.prog 96 = true := by kernel_rfl
@[go_sem] theorem us_96 : (Try.prog.underlying 96).isSome = true := by kernel_rfl
@[go_sem] theorem fd_96_0 : fieldOf Try.prog 96 0 = some (0, 3) := by kernel_rfl
@[go_sem] theorem fd_96_1 : fieldOf Try.prog 96 1 = some (1, 3) := by kernel_rfl
@[go_sem] theorem el_96 : Go.PA.elemOf Try.prog 96 = none := by kernel_rfl
@[go_sem] theorem ar_96 : arrOf Try.prog 96 = none := by kernel_rfl
@[go_sem] theorem fk_96 : fieldsKnown Try.prog 96 = true := by kernel_rfl
@[go_sem] theorem sg_96 : sigOf Try.prog 96 = some [.int, .int] := by kernel_rfl
@[go_sem] theorem ze_96 : zeros Try.prog 96 = some [.sc (.int .i64 0), .sc (.int .i64 0)] := by kernel_rfl
@[go_sem] theorem by_96 : bytesOf Try.prog 96 = 16 := by kernel_rfl
@[go_sem] theorem sz_101 : szOf Try.prog 101 = 3 := by kernel_rfl
@[go_sem] theorem kn_101 : knownT Try.prog 101 = true := by kernel_rfl
@[go_sem] theorem ag_101 : aggOf Try.prog 101 = true := by kernel_rfl
@[go_sem] theorem us_101 : (Try.prog.underlying 101).isSome = true := by kernel_rfl
@[go_sem] theorem el_101 : Go.PA.elemOf Try.prog 101 = none := by kernel_rfl
@[go_sem] theorem ar_101 : arrOf Try.prog 101 = some (3, 28) := by kernel_rfl
@[go_sem] theorem fk_101 : fieldsKnown Try.prog 101 = true := by kernel_rfl
@[go_sem] theorem fd_101_0 : fieldOf Try.prog 101 0 = none := by kernel_rfl
@[go_sem] theorem fd_101_1 : fieldOf Try.prog 101 1 = none := by kernel_rfl
@[go_sem] theorem fd_101_2 : fieldOf Try.prog 101 2 = none := by kernel_rfl
@[go_sem] theorem ze_101 : zeros Try.prog 101 = some [.nil, .nil, .nil] := by kernel_rfl
@[go_sem] theorem by_101 : bytesOf Try.prog 101 = 72 := by kernel_rfl
@[go_sem] theorem sz_103 : szOf Try.prog 103 = 24 := by kernel_rfl
@[go_sem] theorem kn_103 : knownT Try.prog 103 = true := by kernel_rfl
@[go_sem] theorem ag_103 : aggOf Try.prog 103 = true := by kernel_rfl
@[go_sem] theorem us_103 : (Try.prog.underlying 103).isSome = true := by kernel_rfl
@[go_sem] theorem el_103 : Go.PA.elemOf Try.prog 103 = none := by kernel_rfl
@[go_sem] theorem ar_103 : arrOf Try.prog 103 = some (3, 37) := by kernel_rfl
@[go_sem] theorem fk_103 : fieldsKnown Try.prog 103 = true := by kernel_rfl
@[go_sem] theorem fd_103_0 : fieldOf Try.prog 103 0 = none := by kernel_rfl
@[go_sem] theorem fd_103_1 : fieldOf Try.prog 103 1 = none := by kernel_rfl
@[go_sem] theorem fd_103_2 : fieldOf Try.prog 103 2 = none := by kernel_rfl
@[go_sem] theorem ze_103 : zeros Try.prog 103 = some [.sc (.int .i64 0), .sc (.int .i64 0), .sc (.int .i64 0), .sc (.int .i64 0), .sc (.int .i64 0), .sc (.int .i64 0), .sc (.int .i64 0), .sc (.int .i64 0), .sc (.int .i64 0), .sc (.int .i64 0), .sc (.int .i64 0), .sc (.int .i64 0), .sc (.int .i64 0), .sc (.int .i64 0), .sc (.int .i64 0), .sc (.int .i64 0), .sc (.int .i64 0), .sc (.int .i64 0), .sc (.int .i64 0), .sc (.int .i64 0), .sc (.int .i64 0), .sc (.int .i64 0), .sc (.int .i64 0), .sc (.int .i64 0)] := by kernel_rfl
@[go_sem] theorem by_103 : bytesOf Try.prog 103 = 192 := by kernel_rfl
@[go_sem] theorem sz_106 : szOf Try.prog 106 = 12 := by kernel_rfl
@[go_sem] theorem kn_106 : knownT Try.prog 106 = true := by kernel_rfl
@[go_sem] theorem ag_106 : aggOf Try.prog 106 = true := by kernel_rfl
@[go_sem] theorem us_106 : (Try.prog.underlying 106).isSome = true := by kernel_rfl
@[go_sem] theorem el_106 : Go.PA.elemOf Try.prog 106 = none := by kernel_rfl
@[go_sem] theorem ar_106 : arrOf Try.prog 106 = some (3, 35) := by kernel_rfl
@[go_sem] theorem fk_106 : fieldsKnown Try.prog 106 = true := by kernel_rfl
@[go_sem] theorem fd_106_0 : fieldOf Try.prog 106 0 = none := by kernel_rfl
@[go_sem] theorem fd_106_1 : fieldOf Try.prog 106 1 = none := by kernel_rfl
@[go_sem] theorem fd_106_2 : fieldOf Try.prog 106 2 = none := by kernel_rfl
@[go_sem] theorem ze_106 : zeros Try.prog 106 = some [.sc (.int .i64 0), .sc (.int .i64 0), .sc (.int .i64 0), .sc (.int .i64 0), .sc (.int .i64 0), .sc (.int .i64 0), .sc (.int .i64 0), .sc (.int .i64 0), .sc (.int .i64 0), .sc (.int .i64 0), .sc (.int .i64 0), .sc (.int .i64 0)] := by kernel_rfl
@[go_sem] theorem by_106 : bytesOf Try.prog 106 = 96 := by kernel_rfl
@[go_sem] theorem sz_108 : szOf Try.prog 108 = 9 := by kernel_rfl
@[go_sem] theorem kn_108 : knownT Try.prog 108 = true := by kernel_rfl
@[go_sem] theorem ag_108 : aggOf Try.prog 108 = true := by kernel_rfl
@[go_sem] theorem us_108 : (Try.prog.underlying 108).isSome = true := by kernel_rfl
@[go_sem] theorem el_108 : Go.PA.elemOf Try.prog 108 = none := by kernel_rfl
@[go_sem] theorem ar_108 : arrOf Try.prog 108 = some (3, 90) := by kernel_rfl
@[go_sem] theorem fk_108 : fieldsKnown Try.prog 108 = true := by kernel_rfl
@[go_sem] theorem fd_108_0 : fieldOf Try.prog 108 0 = none := by kernel_rfl
@[go_sem] theorem fd_108_1 : fieldOf Try.prog 108 1 = none := by kernel_rfl
@[go_sem] theorem fd_108_2 : fieldOf Try.prog 108 2 = none := by kernel_rfl
@[go_sem] theorem ze_108 : zeros Try.prog 108 = some [.sc (.int .i64 0), .nil, .nil, .sc (.int .i64 0), .nil, .nil, .sc (.int .i64 0), .nil, .nil] := by kernel_rfl
@[go_sem] theorem by_108 : bytesOf Try.prog 108 = 168 := by kernel_rfl
@[go_sem] theorem sz_109 : szOf Try.prog 109 = 4 := by kernel_rfl
@[go_sem] theorem kn_109 : knownT Try.prog 109 = true := by kernel_rfl
@[go_sem] theorem ag_109 : aggOf Try.prog 109 = true := by kernel_rfl
@[go_sem] theorem us_109 : (Try.prog.underlying 109).isSome = true := by kernel_rfl
@[go_sem] theorem el_109 : Go.PA.elemOf Try.prog 109 = none := by kernel_rfl
@[go_sem] theorem ar_109 : arrOf Try.prog 109 = some (2, 84) := by kernel_rfl
@[go_sem] theorem fk_109 : fieldsKnown Try.prog 109 = true := by kernel_rfl
@[go_sem] theorem fd_109_0 : fieldOf Try.prog 109 0 = none := by kernel_rfl
@[go_sem] theorem fd_109_1 : fieldOf Try.prog 109 1 = none := by kernel_rfl
@[go_sem] theorem ze_109 : zeros Try.prog 109 = some [.sc (.int .i64 0), .sc (.int .i64 0), .sc (.int .i64 0), .sc (.int .i64 0)] := by kernel_rfl
@[go_sem] theorem by_109 : bytesOf Try.prog 109 = 32 := by kernel_rfl
@[go_sem] theorem sz_111 : szOf Try.prog 111 = 2 := by kernel_rfl
@[go_sem] theorem kn_111 : knownT Try.prog 111 = true := by kernel_rfl
@[go_sem] theorem ag_111 : aggOf Try.prog 111 = true := by kernel_rfl
@[go_sem] theorem us_111 : (Try.prog.underlying 111).isSome = true := by kernel_rfl
@[go_sem] theorem fd_111_0 : fieldOf Try.prog 111 0 = some (0, 22) := by kernel_rfl
@[go_sem] theorem fd_111_1 : fieldOf Try.prog 111 1 = some (1, 3) := by kernel_rfl
@[go_sem] theorem el_111 : Go.PA.elemOf Try.prog 111 = none := by kernel_rfl
@[go_sem] theorem ar_111 : arrOf Try.prog 111 = none := by kernel_rfl
@[go_sem] theorem fk_111 : fieldsKnown Try.prog 111 = true := by kernel_rfl
@[go_sem] theorem ze_111 : zeros Try.prog 111 = some [.nil, .sc (.int .i64 0)] := by kernel_rfl
@[go_sem] theorem by_111 : bytesOf Try.prog 111 = 32 := by kernel_rfl
@[go_sem] theorem sz_112 : szOf Try.prog 112 = 2 := by kernel_rfl
@[go_sem] theorem kn_112 : knownT Try.prog 112 = true := by kernel_rfl
@[go_sem] theorem ag_112 : aggOf Try.prog 112 = true := by kernel_rfl
@[go_sem] theorem us_112 : (Try.prog.underlying 112).isSome = true := by kernel_rfl
@[go_sem] theorem fd_112_0 : fieldOf Try.prog 112 0 = some (0, 22) := by kernel_rfl
@[go_sem] theorem fd_112_1 : fieldOf Try.prog 112 1 = some (1, 3) := by kernel_rfl
@[go_sem] theorem el_112 : Go.PA.elemOf Try.prog 112 = none := by kernel_rfl
@[go_sem] theorem ar_112 : arrOf Try.prog 112 = none := by kernel_rfl
@[go_sem] theorem fk_112 : fieldsKnown Try.prog 112 = true := by kernel_rfl
@[go_sem] theorem ze_112 : zeros Try.prog 112 = some [.nil, .sc (.int .i64 0)] := by kernel_rfl
@[go_sem] theorem by_112 : bytesOf Try.prog 112 = 32 := by kernel_rfl
@[go_sem] theorem sz_114 : szOf Try.prog 114 = 1 := by kernel_rfl
@[go_sem] theorem kn_114 : knownT Try.prog 114 = true := by kernel_rfl
@[go_sem] theorem ag_114 : aggOf Try.prog 114 = false := by kernel_rfl
@[go_sem] theorem us_114 : (Try.prog.underlying 114).isSome = true := by kernel_rfl
@[go_sem] theorem mp_114 : mapOf Try.prog 114 = some (3, .int .i64, 3) := by kernel_rfl
@[go_sem] theorem mi_114 : IMap Try.prog 114 (.sc (.int .i64 0)) := ⟨_, _, mp_114, by kernel_rfl⟩
@[go_sem] theorem im_114 : isMapT Try.prog 114 = true := by kernel_rfl
@[go_sem] theorem by_114 : bytesOf Try.prog 114 = 8 := by kernel_rfl
@[go_sem] theorem sz_132 : szOf Try.prog 132 = 1 := by kernel_rfl
@[go_sem] theorem kn_132 : knownT Try.prog 132 = true := by kernel_rfl
@[go_sem] theorem ag_132 : aggOf Try.prog 132 = false := by kernel_rfl
@[go_sem] theorem us_132 : (Try.prog.underlying 132).isSome = true := by kernel_rfl
@[go_sem] theorem ze_132 : zeros Try.prog 132 = some [.sc (.pointer none)] := by kernel_rfl
@[go_sem] theorem by_132 : bytesOf Try.prog 132 = 8 := by kernel_rfl
@[go_sem] theorem sz_134 : szOf Try.prog 134 = 5 := by kernel_rfl
@[go_sem] theorem kn_134 : knownT Try.prog 134 = true := by kernel_rfl
@[go_sem] theorem ag_134 : aggOf Try.prog 134 = true := by kernel_rfl
@[go_sem] theorem us_134 : (Try.prog.underlying 134).isSome = true := by kernel_rfl
@[go_sem] theorem el_134 : Go.PA.elemOf Try.prog 134 = none := by kernel_rfl
@[go_sem] theorem ar_134 : arrOf Try.prog 134 = some (5, 3) := by kernel_rfl
@[go_sem] theorem fk_134 : fieldsKnown Try.prog 134 = true := by kernel_rfl
@[go_sem] theorem fd_134_0 : fieldOf Try.prog 134 0 = none := by kernel_rfl
@[go_sem] theorem fd_134_1 : fieldOf Try.prog 134 1 = none := by kernel_rfl
@[go_sem] theorem fd_134_2 : fieldOf Try.prog 134 2 = none := by kernel_rfl
@[go_sem] theorem fd_134_3 : fieldOf Try.prog 134 3 = none := by kernel_rfl
@[go_sem] theorem fd_134_4 : fieldOf Try.prog 134 4 = none := by kernel_rfl
@[go_sem] theorem ze_134 : zeros Try.prog 134 = some [.sc (.int .i64 0), .sc (.int .i64 0), .sc (.int .i64 0), .sc (.int .i64 0), .sc (.int .i64 0)] := by kernel_rfl
@[go_sem] theorem by_134 : bytesOf Try.prog 134 = 40 := by kernel_rfl
@[go_sem] theorem sz_138 : szOf Try.prog 138 = 6 := by kernel_rfl
@[go_sem] theorem kn_138 : knownT Try.prog 138 = true := by kernel_rfl
@[go_sem] theorem ag_138 : aggOf Try.prog 138 = true := by kernel_rfl
@[go_sem] theorem us_138 : (Try.prog.underlying 138).isSome = true := by kernel_rfl
@[go_sem] theorem fd_138_0 : fieldOf Try.prog 138 0 = some (0, 3) := by kernel_rfl
@[go_sem] theorem fd_138_1 : fieldOf Try.prog 138 1 = some (1, 3) := by kernel_rfl
@[go_sem] theorem fd_138_2 : fieldOf Try.prog 138 2 = some (2, 3) := by kernel_rfl
@[go_sem] theorem fd_138_3 : fieldOf Try.prog 138 3 = some (3, 3) := by kernel_rfl
@[go_sem] theorem fd_138_4 : fieldOf Try.prog 138 4 = some (4, 3) := by kernel_rfl
@[go_sem] theorem fd_138_5 : fieldOf Try.prog 138 5 = some (5, 3) := by kernel_rfl
@[go_sem] theorem el_138 : Go.PA.elemOf Try.prog 138 = none := by kernel_rfl
@[go_sem] theorem ar_138 : arrOf Try.prog 138 = none := by kernel_rfl
@[go_sem] theorem fk_138 : fieldsKnown Try.prog 138 = true := by kernel_rfl
@[go_sem] theorem sg_138 : sigOf Try.prog 138 = some [.int, .int, .int, .int, .int, .int] := by kernel_rfl
@[go_sem] theorem ze_138 : zeros Try.prog 138 = some [.sc (.int .i64 0), .sc (.int .i64 0), .sc (.int .i64 0), .sc (.int .i64 0), .sc (.int .i64 0), .sc (.int .i64 0)] := by kernel_rfl
@[go_sem] theorem by_138 : bytesOf Try.prog 138 = 48 := by kernel_rfl
@[go_sem] theorem sz_139 : szOf Try.prog 139 = 6 := by kernel_rfl
@[go_sem] theorem kn_139 : knownT Try.prog 139 = true := by kernel_rfl
@[go_sem] theorem ag_139 : aggOf Try.prog 139 = true := by kernel_rfl
@[go_sem] theorem us_139 : (Try.prog.underlying 139).isSome = true := by kernel_rfl
@[go_sem] theorem fd_139_0 : fieldOf Try.prog 139 0 = some (0, 3) := by kernel_rfl
@[go_sem] theorem fd_139_1 : fieldOf Try.prog 139 1 = some (1, 3) := by kernel_rfl
@[go_sem] theorem fd_139_2 : fieldOf Try.prog 139 2 = some (2, 3) := by kernel_rfl
@[go_sem] theorem fd_139_3 : fieldOf Try.prog 139 3 = some (3, 3) := by kernel_rfl
@[go_sem] theorem fd_139_4 : fieldOf Try.prog 139 4 = some (4, 3) := by kernel_rfl
@[go_sem] theorem fd_139_5 : fieldOf Try.prog 139 5 = some (5, 3) := by kernel_rfl
@[go_sem] theorem el_139 : Go.PA.elemOf Try.prog 139 = none := by kernel_rfl
@[go_sem] theorem ar_139 : arrOf Try.prog 139 = none := by kernel_rfl
@[go_sem] theorem fk_139 : fieldsKnown Try.prog 139 = true := by kernel_rfl
@[go_sem] theorem sg_139 : sigOf Try.prog 139 = some [.int, .int, .int, .int, .int, .int] := by kernel_rfl
@[go_sem] theorem ze_139 : zeros Try.prog 139 = some [.sc (.int .i64 0), .sc (.int .i64 0), .sc (.int .i64 0), .sc (.int .i64 0), .sc (.int .i64 0), .sc (.int .i64 0)] := by kernel_rfl
@[go_sem] theorem by_139 : bytesOf Try.prog 139 = 48 := by kernel_rfl
@[go_sem] theorem sz_145 : szOf Try.prog 145 = 500 := by kernel_rfl
@[go_sem] theorem kn_145 : knownT Try.prog 145 = true := by kernel_rfl
@[go_sem] theorem ag_145 : aggOf Try.prog 145 = true := by kernel_rfl
@[go_sem] theorem us_145 : (Try.prog.underlying 145).isSome = true := by kernel_rfl
@[go_sem] theorem el_145 : Go.PA.elemOf Try.prog 145 = none := by kernel_rfl
@[go_sem] theorem ar_145 : arrOf Try.prog 145 = some (500, 3) := by kernel_rfl
@[go_sem] theorem fk_145 : fieldsKnown Try.prog 145 = true := by kernel_rfl
@[go_sem] theorem fd_145_0 : fieldOf Try.prog 145 0 = none := by kernel_rfl
@[go_sem] theorem fd_145_1 : fieldOf Try.prog 145 1 = none := by kernel_rfl
@[go_sem] theorem fd_145_2 : fieldOf Try.prog 145 2 = none := by kernel_rfl
@[go_sem] theorem fd_145_3 : fieldOf Try.prog 145 3 = none := by kernel_rfl
@[go_sem] theorem fd_145_4 : fieldOf Try.prog 145 4 = none := by kernel_rfl
@[go_sem] theorem fd_145_5 : fieldOf Try.prog 145 5 = none := by kernel_rfl
@[go_sem] theorem fd_145_6 : fieldOf Try.prog 145 6 = none := by kernel_rfl
@[go_sem] theorem fd_145_7 : fieldOf Try.prog 145 7 = none := by kernel_rfl
theorem ze_145 : zeros Try.prog 145 = some (List.replicate 500 (.sc (.int .i64 0))) := by kernel_rfl
@[go_sem] theorem by_145 : bytesOf Try.prog 145 = 4000 := by kernel_rfl
@[go_sem] theorem sz_148 : szOf Try.prog 148 = 1 := by kernel_rfl
@[go_sem] theorem kn_148 : knownT Try.prog 148 = true := by kernel_rfl
@[go_sem] theorem ag_148 : aggOf Try.prog 148 = false := by kernel_rfl
@[go_sem] theorem us_148 : (Try.prog.underlying 148).isSome = true := by kernel_rfl
@[go_sem] theorem ze_148 : zeros Try.prog 148 = some [.sc (.pointer none)] := by kernel_rfl
@[go_sem] theorem by_148 : bytesOf Try.prog 148 = 8 := by kernel_rfl
@[go_sem] theorem sz_149 : szOf Try.prog 149 = 6 := by kernel_rfl
@[go_sem] theorem kn_149 : knownT Try.prog 149 = true := by kernel_rfl
@[go_sem] theorem ag_149 : aggOf Try.prog 149 = true := by kernel_rfl
@[go_sem] theorem us_149 : (Try.prog.underlying 149).isSome = true := by kernel_rfl
@[go_sem] theorem el_149 : Go.PA.elemOf Try.prog 149 = none := by kernel_rfl
@[go_sem] theorem ar_149 : arrOf Try.prog 149 = some (6, 3) := by kernel_rfl
@[go_sem] theorem fk_149 : fieldsKnown Try.prog 149 = true := by kernel_rfl
@[go_sem] theorem fd_149_0 : fieldOf Try.prog 149 0 = none := by kernel_rfl
@[go_sem] theorem fd_149_1 : fieldOf Try.prog 149 1 = none := by kernel_rfl
@[go_sem] theorem fd_149_2 : fieldOf Try.prog 149 2 = none := by kernel_rfl
@[go_sem] theorem fd_149_3 : fieldOf Try.prog 149 3 = none := by kernel_rfl
@[go_sem] theorem fd_149_4 : fieldOf Try.prog 149 4 = none := by kernel_rfl
@[go_sem] theorem fd_149_5 : fieldOf Try.prog 149 5 = none := by kernel_rfl
@[go_sem] theorem ze_149 : zeros Try.prog 149 = some [.sc (.int .i64 0), .sc (.int .i64 0), .sc (.int .i64 0), .sc (.int .i64 0), .sc (.int .i64 0), .sc (.int .i64 0)] := by kernel_rfl
@[go_sem] theorem by_149 : bytesOf Try.prog 149 = 48 := by kernel_rfl
@[go_sem] theorem sz_156 : szOf Try.prog 156 = 1 := by kernel_rfl
@[go_sem] theorem kn_156 : knownT Try.prog 156 = true := by kernel_rfl
@[go_sem] theorem ag_156 : aggOf Try.prog 156 = false := by kernel_rfl
@[go_sem] theorem us_156 : (Try.prog.underlying 156).isSome = true := by kernel_rfl
@[go_sem] theorem ze_156 : zeros Try.prog 156 = some [.sc (.pointer none)] := by kernel_rfl
@[go_sem] theorem by_156 : bytesOf Try.prog 156 = 8 := by kernel_rfl
@[go_sem] theorem sz_161 : szOf Try.prog 161 = 4 := by kernel_rfl
@[go_sem] theorem kn_161 : knownT Try.prog 161 = true := by kernel_rfl
@[go_sem] theorem ag_161 : aggOf Try.prog 161 = true := by kernel_rfl
@[go_sem] theorem us_161 : (Try.prog.underlying 161).isSome = true := by kernel_rfl
@[go_sem] theorem fd_161_0 : fieldOf Try.prog 161 0 = some (0, 3) := by kernel_rfl
@[go_sem] theorem fd_161_1 : fieldOf Try.prog 161 1 = some (1, 3) := by kernel_rfl
@[go_sem] theorem fd_161_2 : fieldOf Try.prog 161 2 = some (2, 3) := by kernel_rfl
@[go_sem] theorem fd_161_3 : fieldOf Try.prog 161 3 = some (3, 87) := by kernel_rfl
@[go_sem] theorem el_161 : Go.PA.elemOf Try.prog 161 = none := by kernel_rfl
@[go_sem] theorem ar_161 : arrOf Try.prog 161 = none := by kernel_rfl
@[go_sem] theorem fk_161 : fieldsKnown Try.prog 161 = true := by kernel_rfl
@[go_sem] theorem ze_161 : zeros Try.prog 161 = some [.sc (.int .i64 0), .sc (.int .i64 0), .sc (.int .i64 0), .nil] := by kernel_rfl
@[go_sem] theorem by_161 : bytesOf Try.prog 161 = 48 := by kernel_rfl
@[go_sem] theorem sz_162 : szOf Try.prog 162 = 4 := by kernel_rfl
@[go_sem] theorem kn_162 : knownT Try.prog 162 = true := by kernel_rfl
@[go_sem] theorem ag_162 : aggOf Try.prog 162 = true := by kernel_rfl
@[go_sem] theorem us_162 : (Try.prog.underlying 162).isSome = true := by kernel_rfl
@[go_sem] theorem fd_162_0 : fieldOf Try.prog 162 0 = some (0, 3) := by kernel_rfl
@[go_sem] theorem fd_162_1 : fieldOf Try.prog 162 1 = some (1, 3) := by kernel_rfl
@[go_sem] theorem fd_162_2 : fieldOf Try.prog 162 2 = some (2, 3) := by kernel_rfl
@[go_sem] theorem fd_162_3 : fieldOf Try.prog 162 3 = some (3, 87) := by kernel_rfl
@[go_sem] theorem el_162 : Go.PA.elemOf Try.prog 162 = none := by kernel_rfl
@[go_sem] theorem ar_162 : arrOf Try.prog 162 = none := by kernel_rfl
@[go_sem] theorem fk_162 : fieldsKnown Try.prog 162 = true := by kernel_rfl
@[go_sem] theorem ze_162 : zeros Try.prog 162 = some [.sc (.int .i64 0), .sc (.int .i64 0), .sc (.int .i64 0), .nil] := by kernel_rfl
@[go_sem] theorem by_162 : bytesOf Try.prog 162 = 48 := by kernel_rfl
@[go_sem] theorem sz_169 : szOf Try.prog 169 = 1 := by kernel_rfl
@[go_sem] theorem kn_169 : knownT Try.prog 169 = true := by kernel_rfl
@[go_sem] theorem ag_169 : aggOf Try.prog 169 = false := by kernel_rfl
@[go_sem] theorem us_169 : (Try.prog.underlying 169).isSome = true := by kernel_rfl
@[go_sem] theorem ze_169 : zeros Try.prog 169 = some [.sc (.pointer none)] := by kernel_rfl
@[go_sem] theorem by_169 : bytesOf Try.prog 169 = 8 := by kernel_rfl
@[go_sem] theorem sz_178 : szOf Try.prog 178 = 1 := by kernel_rfl
@[go_sem] theorem kn_178 : knownT Try.prog 178 = true := by kernel_rfl
@[go_sem] theorem ag_178 : aggOf Try.prog 178 = false := by kernel_rfl
@[go_sem] theorem us_178 : (Try.prog.underlying 178).isSome = true := by kernel_rfl
@[go_sem] theorem un_178 : Try.prog.underlying 178 = some (.int .u32) := by kernel_rfl
@[go_sem] theorem ze_178 : zeros Try.prog 178 = some [.sc (.int .u32 0)] := by kernel_rfl
@[go_sem] theorem az_178 : azero1 Try.prog 178 = some (.sc (.int .u32 0)) := by kernel_rfl
@[go_sem] theorem by_178 : bytesOf Try.prog 178 = 4 := by kernel_rfl
@[go_sem] theorem sz_182 : szOf Try.prog 182 = 1 := by kernel_rfl
@[go_sem] theorem kn_182 : knownT Try.prog 182 = true := by kernel_rfl
@[go_sem] theorem ag_182 : aggOf Try.prog 182 = false := by kernel_rfl
@[go_sem] theorem us_182 : (Try.prog.underlying 182).isSome = true := by kernel_rfl
@[go_sem] theorem ze_182 : zeros Try.prog 182 = some [.sc (.pointer none)] := by kernel_rfl
@[go_sem] theorem by_182 : bytesOf Try.prog 182 = 8 := by kernel_rfl
@[go_sem] theorem en_3 : enterable Try.prog 3 = true := by kernel_rfl -- treasury/treasurylaw40.LedgerBalances
@[go_sem] theorem en_4 : enterable Try.prog 4 = true := by kernel_rfl -- treasury/treasurylaw40.LedgerTurns
@[go_sem] theorem en_5 : enterable Try.prog 5 = true := by kernel_rfl -- treasury/treasurylaw40.LedgerStatements
@[go_sem] theorem en_6 : enterable Try.prog 6 = true := by kernel_rfl -- treasury/treasurylaw40.LedgerSpans
@[go_sem] theorem en_7 : enterable Try.prog 7 = true := by kernel_rfl -- treasury/treasurylaw44.RestatementKeeps
@[go_sem] theorem en_8 : enterable Try.prog 8 = true := by kernel_rfl -- treasury/treasurylaw44.RestatementLater
@[go_sem] theorem en_9 : enterable Try.prog 9 = true := by kernel_rfl -- treasury/treasurylaw44.RestatementVersions
@[go_sem] theorem en_10 : enterable Try.prog 10 = true := by kernel_rfl -- treasury/treasurylaw44.RestatementExplains
@[go_sem] theorem en_11 : enterable Try.prog 11 = true := by kernel_rfl -- treasury/treasurylaw44.RestatementEffects
@[go_sem] theorem en_12 : enterable Try.prog 12 = true := by kernel_rfl -- treasury/treasurylaw44.RestatementExact
@[go_sem] theorem en_13 : enterable Try.prog 13 = true := by kernel_rfl -- treasury/treasurylaw40.LedgerEntries
@[go_sem] theorem en_14 : enterable Try.prog 14 = true := by kernel_rfl -- treasury/treasurylaw40.LedgerExact
@[go_sem] theorem en_15 : enterable Try.prog 15 = true := by kernel_rfl -- treasury/treasuryplay.New
@[go_sem] theorem en_16 : enterable Try.prog 16 = true := by kernel_rfl -- (*treasury/treasuryplay.Src).Ledger
@[go_sem] theorem en_17 : enterable Try.prog 17 = true := by kernel_rfl -- treasury/ledger.Balances
@[go_sem] theorem en_18 : enterable Try.prog 18 = true := by kernel_rfl -- treasury/ledger.Of
@[go_sem] theorem en_19 : enterable Try.prog 19 = true := by kernel_rfl -- (*treasury/treasuryplay.Src).Posting
@[go_sem] theorem en_20 : enterable Try.prog 20 = true := by kernel_rfl -- treasury/ledger.Post
@[go_sem] theorem en_21 : enterable Try.prog 21 = true := by kernel_rfl -- treasury/treasurylaw40.sane
@[go_sem] theorem en_22 : enterable Try.prog 22 = true := by kernel_rfl -- treasury/ledger.Turn
@[go_sem] theorem en_23 : enterable Try.prog 23 = true := by kernel_rfl -- treasury/treasuryref40.ListedSame
@[go_sem] theorem en_24 : enterable Try.prog 24 = true := by kernel_rfl -- treasury/ledger.Statement
@[go_sem] theorem en_25 : enterable Try.prog 25 = true := by kernel_rfl -- treasury/treasuryref40.Class
@[go_sem] theorem en_26 : enterable Try.prog 26 = true := by kernel_rfl -- treasury/treasurylaw44.made
@[go_sem] theorem en_27 : enterable Try.prog 27 = true := by kernel_rfl -- treasury/treasurylaw44.step
@[go_sem] theorem en_28 : enterable Try.prog 28 = true := by kernel_rfl -- treasury/restatement.Check
@[go_sem] theorem en_29 : enterable Try.prog 29 = true := by kernel_rfl -- treasury/restatement.Shown
@[go_sem] theorem en_30 : enterable Try.prog 30 = true := by kernel_rfl -- treasury/treasurylaw44.sane
@[go_sem] theorem en_31 : enterable Try.prog 31 = true := by kernel_rfl -- treasury/treasurylaw44.correction
@[go_sem] theorem en_32 : enterable Try.prog 32 = true := by kernel_rfl -- treasury/restatement.Correct
@[go_sem] theorem en_33 : enterable Try.prog 33 = true := by kernel_rfl -- treasury/restatement.Restated
@[go_sem] theorem en_34 : enterable Try.prog 34 = true := by kernel_rfl -- treasury/treasuryref40.Statement
@[go_sem] theorem en_35 : enterable Try.prog 35 = true := by kernel_rfl -- (*treasury/treasuryplay.Src).N
@[go_sem] theorem en_36 : enterable Try.prog 36 = true := by kernel_rfl -- treasury/restatement.Present
@[go_sem] theorem en_37 : enterable Try.prog 37 = true := by kernel_rfl -- treasury/restatement.Explained
@[go_sem] theorem en_38 : enterable Try.prog 38 = true := by kernel_rfl -- treasury/treasuryref40.Turn
@[go_sem] theorem en_39 : enterable Try.prog 39 = true := by kernel_rfl -- treasury/restatement.Effect
@[go_sem] theorem en_40 : enterable Try.prog 40 = true := by kernel_rfl -- treasury/treasurylaw44.small
@[go_sem] theorem en_41 : enterable Try.prog 41 = true := by kernel_rfl -- (*treasury/treasuryplay.Src).BentLedger
@[go_sem] theorem en_42 : enterable Try.prog 42 = true := by kernel_rfl -- (*treasury/treasuryplay.Src).Pick
@[go_sem] theorem en_43 : enterable Try.prog 43 = true := by kernel_rfl -- (*treasury/treasuryplay.Src).Odd
@[go_sem] theorem en_44 : enterable Try.prog 44 = true := by kernel_rfl -- treasury/restatement.New
@[go_sem] theorem en_45 : enterable Try.prog 45 = true := by kernel_rfl -- treasury/treasuryref44.New
@[go_sem] theorem en_46 : enterable Try.prog 46 = true := by kernel_rfl -- treasury/treasuryref44.Check
@[go_sem] theorem en_47 : enterable Try.prog 47 = true := by kernel_rfl -- treasury/treasuryref44.Same
@[go_sem] theorem en_48 : enterable Try.prog 48 = true := by kernel_rfl -- treasury/treasuryref44.Correct
@[go_sem] theorem en_49 : enterable Try.prog 49 = true := by kernel_rfl -- treasury/treasuryref44.Present
@[go_sem] theorem en_50 : enterable Try.prog 50 = true := by kernel_rfl -- treasury/treasuryref44.Restated
@[go_sem] theorem en_51 : enterable Try.prog 51 = true := by kernel_rfl -- treasury/treasuryref44.Shown
@[go_sem] theorem en_52 : enterable Try.prog 52 = true := by kernel_rfl -- treasury/treasuryref44.Effect
@[go_sem] theorem en_53 : enterable Try.prog 53 = true := by kernel_rfl -- treasury/treasuryref44.Explained
@[go_sem] theorem en_54 : enterable Try.prog 54 = true := by kernel_rfl -- (*treasury/treasuryplay.Src).Account
@[go_sem] theorem en_55 : enterable Try.prog 55 = true := by kernel_rfl -- treasury/ledger.Entries
@[go_sem] theorem en_56 : enterable Try.prog 56 = true := by kernel_rfl -- treasury/ledger.Check
@[go_sem] theorem en_57 : enterable Try.prog 57 = true := by kernel_rfl -- treasury/treasuryref23.At
@[go_sem] theorem en_58 : enterable Try.prog 58 = true := by kernel_rfl -- treasury/treasuryref23.Flow
@[go_sem] theorem en_59 : enterable Try.prog 59 = true := by kernel_rfl -- treasury/treasuryplay.Few
@[go_sem] theorem en_60 : enterable Try.prog 60 = true := by kernel_rfl -- treasury/treasuryref40.Check
@[go_sem] theorem en_61 : enterable Try.prog 61 = true := by kernel_rfl -- (*treasury/treasuryplay.Src).Range
@[go_sem] theorem en_62 : enterable Try.prog 62 = true := by kernel_rfl -- treasury/treasuryref40.Post
@[go_sem] theorem en_63 : enterable Try.prog 63 = true := by kernel_rfl -- treasury/ledger.Posting
@[go_sem] theorem en_64 : enterable Try.prog 64 = true := by kernel_rfl -- treasury/treasuryref40.Posting
@[go_sem] theorem en_65 : enterable Try.prog 65 = true := by kernel_rfl -- treasury/treasuryref40.Postings
@[go_sem] theorem en_66 : enterable Try.prog 66 = true := by kernel_rfl -- treasury/treasuryref40.Of
@[go_sem] theorem en_67 : enterable Try.prog 67 = true := by kernel_rfl -- treasury/treasuryref40.Balances
@[go_sem] theorem en_68 : enterable Try.prog 68 = true := by kernel_rfl -- treasury/ledger.Class
@[go_sem] theorem en_69 : enterable Try.prog 69 = true := by kernel_rfl -- (*treasury/treasuryplay.Src).BentAccount
@[go_sem] theorem en_70 : enterable Try.prog 70 = true := by kernel_rfl -- treasury/treasuryref40.Entries
@[go_sem] theorem en_71 : enterable Try.prog 71 = true := by kernel_rfl -- treasury/ledger.List
@[go_sem] theorem en_72 : enterable Try.prog 72 = true := by kernel_rfl -- treasury/ledger.Books
@[go_sem] theorem en_73 : enterable Try.prog 73 = true := by kernel_rfl -- treasury/ledger.of
@[go_sem] theorem en_74 : enterable Try.prog 74 = true := by kernel_rfl -- treasury/ledger.Last
@[go_sem] theorem en_75 : enterable Try.prog 75 = true := by kernel_rfl -- slices.Clone[[]treasury/api.Posting,treasury/api.Posting]
@[go_sem] theorem en_76 : enterable Try.prog 76 = true := by kernel_rfl -- treasury/ledger.among
@[go_sem] theorem en_77 : enterable Try.prog 77 = true := by kernel_rfl -- treasury/ledger.Sums
@[go_sem] theorem en_78 : enterable Try.prog 78 = true := by kernel_rfl -- treasury/restatement.corrections
@[go_sem] theorem en_79 : enterable Try.prog 79 = true := by kernel_rfl -- treasury/restatement.presented
@[go_sem] theorem en_80 : enterable Try.prog 80 = true := by kernel_rfl -- slices.IndexFunc[[]treasury/api.Presented,treasury/api.Presented]
@[go_sem] theorem en_81 : enterable Try.prog 81 = true := by kernel_rfl -- treasury/restatement.Shown$1
@[go_sem] theorem en_82 : enterable Try.prog 82 = true := by kernel_rfl -- treasury/treasurylaw44.forgotten
@[go_sem] theorem en_83 : enterable Try.prog 83 = true := by kernel_rfl -- slices.Clone[[]treasury/api.Correction,treasury/api.Correction]
@[go_sem] theorem en_84 : enterable Try.prog 84 = true := by kernel_rfl -- treasury/restatement.copied
@[go_sem] theorem en_85 : enterable Try.prog 85 = true := by kernel_rfl -- treasury/restatement.year
@[go_sem] theorem en_86 : enterable Try.prog 86 = true := by kernel_rfl -- treasury/restatement.restated
@[go_sem] theorem en_87 : enterable Try.prog 87 = true := by kernel_rfl -- treasury/treasuryref40.day
@[go_sem] theorem en_88 : enterable Try.prog 88 = true := by kernel_rfl -- treasury/treasuryref40.State
@[go_sem] theorem en_89 : enterable Try.prog 89 = true := by kernel_rfl -- treasury/restatement.versions
@[go_sem] theorem en_90 : enterable Try.prog 90 = true := by kernel_rfl -- treasury/restatement.effect
@[go_sem] theorem en_91 : enterable Try.prog 91 = true := by kernel_rfl -- treasury/treasuryref44.correction
@[go_sem] theorem en_92 : enterable Try.prog 92 = true := by kernel_rfl -- treasury/treasuryref44.year
@[go_sem] theorem en_93 : enterable Try.prog 93 = true := by kernel_rfl -- treasury/treasuryref01.Total
@[go_sem] theorem en_94 : enterable Try.prog 94 = true := by kernel_rfl -- treasury/treasuryref23.Open
@[go_sem] theorem en_95 : enterable Try.prog 95 = true := by kernel_rfl -- treasury/treasuryref23.Post
@[go_sem] theorem en_96 : enterable Try.prog 96 = true := by kernel_rfl -- treasury/treasuryref23.Next
@[go_sem] theorem en_97 : enterable Try.prog 97 = true := by kernel_rfl -- treasury/account.Check
@[go_sem] theorem en_98 : enterable Try.prog 98 = true := by kernel_rfl -- treasury/ledger.entity
@[go_sem] theorem en_99 : enterable Try.prog 99 = true := by kernel_rfl -- slices.ContainsFunc[[]treasury/api.Posting,treasury/api.Posting]
@[go_sem] theorem en_100 : enterable Try.prog 100 = true := by kernel_rfl -- treasury/ledger.Check$1
@[go_sem] theorem en_101 : enterable Try.prog 101 = true := by kernel_rfl -- treasury/treasuryref23.Check
@[go_sem] theorem en_102 : enterable Try.prog 102 = true := by kernel_rfl -- treasury/treasuryref23.until
@[go_sem] theorem en_103 : enterable Try.prog 103 = true := by kernel_rfl -- treasury/treasuryref40.Sums
@[go_sem] theorem en_104 : enterable Try.prog 104 = true := by kernel_rfl -- treasury/treasuryref40.Listed
@[go_sem] theorem en_105 : enterable Try.prog 105 = true := by kernel_rfl -- treasury/ledger.of$1
@[go_sem] theorem en_106 : enterable Try.prog 106 = true := by kernel_rfl -- treasury/ledger.classes
@[go_sem] theorem en_107 : enterable Try.prog 107 = true := by kernel_rfl -- treasury/restatement.correction
@[go_sem] theorem en_108 : enterable Try.prog 108 = true := by kernel_rfl -- slices.Clone[[]treasury/api.Presented,treasury/api.Presented]
@[go_sem] theorem en_109 : enterable Try.prog 109 = true := by kernel_rfl -- treasury/restatement.among
@[go_sem] theorem en_110 : enterable Try.prog 110 = true := by kernel_rfl -- treasury/treasuryref40.Classes
@[go_sem] theorem en_111 : enterable Try.prog 111 = true := by kernel_rfl -- treasury/treasuryref01.Valid
@[go_sem] theorem en_112 : enterable Try.prog 112 = true := by kernel_rfl -- treasury/treasuryref23.plain
@[go_sem] theorem en_113 : enterable Try.prog 113 = true := by kernel_rfl -- treasury/treasuryref23.add
@[go_sem] theorem en_114 : enterable Try.prog 114 = true := by kernel_rfl -- treasury/treasuryref23.last
@[go_sem] theorem en_115 : enterable Try.prog 115 = true := by kernel_rfl -- treasury/money.Valid
@[go_sem] theorem en_116 : enterable Try.prog 116 = true := by kernel_rfl -- treasury/account.numbered
@[go_sem] theorem en_117 : enterable Try.prog 117 = true := by kernel_rfl -- treasury/account.numbers
@[go_sem] theorem en_118 : enterable Try.prog 118 = true := by kernel_rfl -- treasury/account.replay
@[go_sem] theorem en_119 : enterable Try.prog 119 = true := by kernel_rfl -- treasury/account.all
@[go_sem] theorem en_120 : enterable Try.prog 120 = true := by kernel_rfl -- slices.Equal[[]treasury/api.Sub,treasury/api.Sub]
@[go_sem] theorem en_121 : enterable Try.prog 121 = true := by kernel_rfl -- slices.IndexFunc[[]treasury/api.Posting,treasury/api.Posting]
@[go_sem] theorem en_122 : enterable Try.prog 122 = true := by kernel_rfl -- treasury/treasuryref23.day
@[go_sem] theorem en_123 : enterable Try.prog 123 = true := by kernel_rfl -- treasury/treasuryref23.empty
@[go_sem] theorem en_124 : enterable Try.prog 124 = true := by kernel_rfl -- treasury/restatement.correction$1
@[go_sem] theorem en_125 : enterable Try.prog 125 = true := by kernel_rfl -- treasury/restatement.within
@[go_sem] theorem en_126 : enterable Try.prog 126 = true := by kernel_rfl -- treasury/treasuryref23.at
@[go_sem] theorem en_127 : enterable Try.prog 127 = true := by kernel_rfl -- treasury/account.among
@[go_sem] theorem en_128 : enterable Try.prog 128 = true := by kernel_rfl -- treasury/account.fresh
@[go_sem] theorem en_129 : enterable Try.prog 129 = true := by kernel_rfl -- (*treasury/account.teller).post
@[go_sem] theorem en_130 : enterable Try.prog 130 = true := by kernel_rfl -- treasury/account.positive
@[go_sem] theorem en_131 : enterable Try.prog 131 = true := by kernel_rfl -- (*treasury/account.teller).known
@[go_sem] theorem en_132 : enterable Try.prog 132 = true := by kernel_rfl -- (*treasury/account.teller).add
@[go_sem] theorem en_133 : enterable Try.prog 133 = true := by kernel_rfl -- (*treasury/account.teller).place
@[go_sem] theorem en_134 : enterable Try.prog 134 = true := by kernel_rfl -- slices.IndexFunc[[]treasury/api.Sub,treasury/api.Sub]
@[go_sem] theorem en_135 : enterable Try.prog 135 = true := by kernel_rfl -- (*treasury/account.teller).place$1
@[go_sem] theorem rs_3 : Try.f3.results.toList = [.tmp 4] := rfl
@[go_sem] theorem rs_4 : Try.f4.results.toList = [.tmp 2] := rfl
@[go_sem] theorem rs_5 : Try.f5.results.toList = [.tmp 6] := rfl
@[go_sem] theorem rs_6 : Try.f6.results.toList = [.tmp 6] := rfl
@[go_sem] theorem rs_7 : Try.f7.results.toList = [.tmp 2] := rfl
@[go_sem] theorem rs_8 : Try.f8.results.toList = [.tmp 2] := rfl
@[go_sem] theorem rs_9 : Try.f9.results.toList = [.tmp 2] := rfl
@[go_sem] theorem rs_10 : Try.f10.results.toList = [.tmp 2] := rfl
@[go_sem] theorem rs_11 : Try.f11.results.toList = [.tmp 2] := rfl
@[go_sem] theorem rs_12 : Try.f12.results.toList = [.tmp 10] := rfl
@[go_sem] theorem rs_13 : Try.f13.results.toList = [.tmp 4] := rfl
@[go_sem] theorem rs_14 : Try.f14.results.toList = [.tmp 18] := rfl
@[go_sem] theorem rs_15 : Try.f15.results.toList = [.tmp 2] := rfl
@[go_sem] theorem rs_16 : Try.f16.results.toList = [.cell 8 28] := rfl
@[go_sem] theorem rs_17 : Try.f17.results.toList = [.tmp 6] := rfl
@[go_sem] theorem rs_18 : Try.f18.results.toList = [.tmp 8] := rfl
@[go_sem] theorem rs_19 : Try.f19.results.toList = [.cell 8 37] := rfl
@[go_sem] theorem rs_20 : Try.f20.results.toList = [.cell 4 28, .tmp 5] := rfl
@[go_sem] theorem rs_21 : Try.f21.results.toList = [.tmp 0] := rfl
@[go_sem] theorem rs_22 : Try.f22.results.toList = [.cell 6 37] := rfl
@[go_sem] theorem rs_23 : Try.f23.results.toList = [.tmp 4] := rfl
@[go_sem] theorem rs_24 : Try.f24.results.toList = [.cell 8 48, .tmp 9] := rfl
@[go_sem] theorem rs_25 : Try.f25.results.toList = [.tmp 2] := rfl
@[go_sem] theorem rs_26 : Try.f26.results.toList = [.cell 4 56] := rfl
@[go_sem] theorem rs_27 : Try.f27.results.toList = [.cell 6 56, .tmp 7] := rfl
@[go_sem] theorem rs_28 : Try.f28.results.toList = [.tmp 2] := rfl
@[go_sem] theorem rs_29 : Try.f29.results.toList = [.cell 6 48, .tmp 7] := rfl
@[go_sem] theorem rs_30 : Try.f30.results.toList = [.tmp 0] := rfl
@[go_sem] theorem rs_31 : Try.f31.results.toList = [.cell 4 66] := rfl
@[go_sem] theorem rs_32 : Try.f32.results.toList = [.cell 4 56, .tmp 5] := rfl
@[go_sem] theorem rs_33 : Try.f33.results.toList = [.cell 4 48, .tmp 5] := rfl
@[go_sem] theorem rs_34 : Try.f34.results.toList = [.cell 8 48, .tmp 9] := rfl
@[go_sem] theorem rs_35 : Try.f35.results.toList = [.tmp 4] := rfl
@[go_sem] theorem rs_36 : Try.f36.results.toList = [.cell 4 56, .cell 5 62, .tmp 6] := rfl
@[go_sem] theorem rs_37 : Try.f37.results.toList = [.tmp 4] := rfl
@[go_sem] theorem rs_38 : Try.f38.results.toList = [.cell 6 37] := rfl
@[go_sem] theorem rs_39 : Try.f39.results.toList = [.tmp 4, .tmp 5] := rfl
@[go_sem] theorem rs_40 : Try.f40.results.toList = [.tmp 2] := rfl
@[go_sem] theorem rs_41 : Try.f41.results.toList = [.cell 4 28] := rfl
@[go_sem] theorem rs_42 : Try.f42.results.toList = [.tmp 4] := rfl
@[go_sem] theorem rs_43 : Try.f43.results.toList = [.tmp 2] := rfl
@[go_sem] theorem rs_44 : Try.f44.results.toList = [.cell 2 56, .tmp 3] := rfl
@[go_sem] theorem rs_45 : Try.f45.results.toList = [.cell 2 56, .tmp 3] := rfl
@[go_sem] theorem rs_46 : Try.f46.results.toList = [.tmp 2] := rfl
@[go_sem] theorem rs_47 : Try.f47.results.toList = [.tmp 4] := rfl
@[go_sem] theorem rs_48 : Try.f48.results.toList = [.cell 4 56, .tmp 5] := rfl
@[go_sem] theorem rs_49 : Try.f49.results.toList = [.cell 4 56, .cell 5 62, .tmp 6] := rfl
@[go_sem] theorem rs_50 : Try.f50.results.toList = [.cell 4 48, .tmp 5] := rfl
@[go_sem] theorem rs_51 : Try.f51.results.toList = [.cell 6 48, .tmp 7] := rfl
@[go_sem] theorem rs_52 : Try.f52.results.toList = [.tmp 4, .tmp 5] := rfl
@[go_sem] theorem rs_53 : Try.f53.results.toList = [.tmp 4] := rfl
@[go_sem] theorem rs_54 : Try.f54.results.toList = [.cell 4 90] := rfl
@[go_sem] theorem rs_55 : Try.f55.results.toList = [.tmp 6] := rfl
@[go_sem] theorem rs_56 : Try.f56.results.toList = [.tmp 2] := rfl
@[go_sem] theorem rs_57 : Try.f57.results.toList = [.tmp 4] := rfl
@[go_sem] theorem rs_58 : Try.f58.results.toList = [.tmp 6, .tmp 7] := rfl
@[go_sem] theorem rs_59 : Try.f59.results.toList = [.tmp 2] := rfl
@[go_sem] theorem rs_60 : Try.f60.results.toList = [.tmp 2] := rfl
@[go_sem] theorem rs_61 : Try.f61.results.toList = [.tmp 6] := rfl
@[go_sem] theorem rs_62 : Try.f62.results.toList = [.cell 4 28, .tmp 5] := rfl
@[go_sem] theorem rs_63 : Try.f63.results.toList = [.tmp 2] := rfl
@[go_sem] theorem rs_64 : Try.f64.results.toList = [.tmp 2] := rfl
@[go_sem] theorem rs_65 : Try.f65.results.toList = [.tmp 4] := rfl
@[go_sem] theorem rs_66 : Try.f66.results.toList = [.tmp 8] := rfl
@[go_sem] theorem rs_67 : Try.f67.results.toList = [.tmp 6] := rfl
@[go_sem] theorem rs_68 : Try.f68.results.toList = [.tmp 2] := rfl
@[go_sem] theorem rs_69 : Try.f69.results.toList = [.cell 4 90] := rfl
@[go_sem] theorem rs_70 : Try.f70.results.toList = [.tmp 6] := rfl
@[go_sem] theorem rs_71 : Try.f71.results.toList = [.tmp 2] := rfl
@[go_sem] theorem rs_72 : Try.f72.results.toList = [.tmp 4] := rfl
@[go_sem] theorem rs_73 : Try.f73.results.toList = [.tmp 6] := rfl
@[go_sem] theorem rs_74 : Try.f74.results.toList = [.tmp 2] := rfl
@[go_sem] theorem rs_75 : Try.f75.results.toList = [.tmp 2] := rfl
@[go_sem] theorem rs_76 : Try.f76.results.toList = [.tmp 6] := rfl
@[go_sem] theorem rs_77 : Try.f77.results.toList = [.cell 8 48] := rfl
@[go_sem] theorem rs_78 : Try.f78.results.toList = [.tmp 2] := rfl
@[go_sem] theorem rs_79 : Try.f79.results.toList = [.tmp 2] := rfl
@[go_sem] theorem rs_80 : Try.f80.results.toList = [.tmp 4] := rfl
@[go_sem] theorem rs_81 : Try.f81.results.toList = [.tmp 4] := rfl
@[go_sem] theorem rs_82 : Try.f82.results.toList = [.cell 0 66] := rfl
@[go_sem] theorem rs_83 : Try.f83.results.toList = [.tmp 2] := rfl
@[go_sem] theorem rs_84 : Try.f84.results.toList = [.cell 2 56] := rfl
@[go_sem] theorem rs_85 : Try.f85.results.toList = [.tmp 2] := rfl
@[go_sem] theorem rs_86 : Try.f86.results.toList = [.cell 4 48] := rfl
@[go_sem] theorem rs_87 : Try.f87.results.toList = [.tmp 2] := rfl
@[go_sem] theorem rs_88 : Try.f88.results.toList = [.cell 8 48] := rfl
@[go_sem] theorem rs_89 : Try.f89.results.toList = [.tmp 4] := rfl
@[go_sem] theorem rs_90 : Try.f90.results.toList = [.tmp 4] := rfl
@[go_sem] theorem rs_91 : Try.f91.results.toList = [.tmp 2] := rfl
@[go_sem] theorem rs_92 : Try.f92.results.toList = [.tmp 2] := rfl
@[go_sem] theorem rs_93 : Try.f93.results.toList = [.tmp 2] := rfl
@[go_sem] theorem rs_94 : Try.f94.results.toList = [.cell 4 90, .tmp 5] := rfl
@[go_sem] theorem rs_95 : Try.f95.results.toList = [.cell 4 90, .tmp 5] := rfl
@[go_sem] theorem rs_96 : Try.f96.results.toList = [.cell 12 139] := rfl
@[go_sem] theorem rs_97 : Try.f97.results.toList = [.tmp 2] := rfl
@[go_sem] theorem rs_98 : Try.f98.results.toList = [.tmp 2] := rfl
@[go_sem] theorem rs_99 : Try.f99.results.toList = [.tmp 4] := rfl
@[go_sem] theorem rs_100 : Try.f100.results.toList = [.tmp 2] := rfl
@[go_sem] theorem rs_101 : Try.f101.results.toList = [.tmp 2] := rfl
@[go_sem] theorem rs_102 : Try.f102.results.toList = [.tmp 4, .tmp 5] := rfl
@[go_sem] theorem rs_103 : Try.f103.results.toList = [.cell 8 145] := rfl
@[go_sem] theorem rs_104 : Try.f104.results.toList = [.tmp 2] := rfl
@[go_sem] theorem rs_105 : Try.f105.results.toList = [.tmp 5] := rfl
@[go_sem] theorem rs_106 : Try.f106.results.toList = [.cell 2 149] := rfl
@[go_sem] theorem rs_107 : Try.f107.results.toList = [.tmp 2] := rfl
@[go_sem] theorem rs_108 : Try.f108.results.toList = [.tmp 2] := rfl
@[go_sem] theorem rs_109 : Try.f109.results.toList = [.tmp 6] := rfl
@[go_sem] theorem rs_110 : Try.f110.results.toList = [.cell 8 149] := rfl
@[go_sem] theorem rs_111 : Try.f111.results.toList = [.tmp 2] := rfl
@[go_sem] theorem rs_112 : Try.f112.results.toList = [.tmp 2] := rfl
@[go_sem] theorem rs_113 : Try.f113.results.toList = [.tmp 8, .tmp 9] := rfl
@[go_sem] theorem rs_114 : Try.f114.results.toList = [.cell 2 139] := rfl
@[go_sem] theorem rs_115 : Try.f115.results.toList = [.tmp 2] := rfl
@[go_sem] theorem rs_116 : Try.f116.results.toList = [.tmp 2] := rfl
@[go_sem] theorem rs_117 : Try.f117.results.toList = [.tmp 2] := rfl
@[go_sem] theorem rs_118 : Try.f118.results.toList = [.tmp 4, .tmp 5] := rfl
@[go_sem] theorem rs_119 : Try.f119.results.toList = [.tmp 2] := rfl
@[go_sem] theorem rs_120 : Try.f120.results.toList = [.tmp 4] := rfl
@[go_sem] theorem rs_121 : Try.f121.results.toList = [.tmp 4] := rfl
@[go_sem] theorem rs_122 : Try.f122.results.toList = [.tmp 2] := rfl
@[go_sem] theorem rs_123 : Try.f123.results.toList = [.tmp 2] := rfl
@[go_sem] theorem rs_124 : Try.f124.results.toList = [.tmp 3] := rfl
@[go_sem] theorem rs_125 : Try.f125.results.toList = [.tmp 4] := rfl
@[go_sem] theorem rs_126 : Try.f126.results.toList = [.tmp 4] := rfl
@[go_sem] theorem rs_127 : Try.f127.results.toList = [.tmp 6] := rfl
@[go_sem] theorem rs_128 : Try.f128.results.toList = [.tmp 2] := rfl
@[go_sem] theorem rs_129 : Try.f129.results.toList = [.tmp 4] := rfl
@[go_sem] theorem rs_130 : Try.f130.results.toList = [.tmp 2] := rfl
@[go_sem] theorem rs_131 : Try.f131.results.toList = [.tmp 4] := rfl
@[go_sem] theorem rs_132 : Try.f132.results.toList = [.tmp 6] := rfl
@[go_sem] theorem rs_133 : Try.f133.results.toList = [.tmp 4] := rfl
@[go_sem] theorem rs_134 : Try.f134.results.toList = [.tmp 4] := rfl
@[go_sem] theorem rs_135 : Try.f135.results.toList = [.tmp 3] := rfl
@[go_sem] theorem rs_151 : Try.f151.results.toList = [] := rfl

end Go.Proofs.Ytellcfkpfccgaaa
