/- The types and functions of this seat's program, as PA reads them. Printed by wip/facts.py. -/
import Derived.Test.YtkicgnigaeopnaaPa16
import Derived.Test.YtkicgnigaeopnaaProg
import Derived.KernelRfl
namespace Go.Proofs.Ytkicgnigaeopnaa
open Go.PA

@[go_sem] theorem sz_2 : szOf Try.prog 2 = 1 := by kernel_rfl
@[go_sem] theorem kn_2 : knownT Try.prog 2 = true := by kernel_rfl
@[go_sem] theorem ag_2 : aggOf Try.prog 2 = false := by kernel_rfl
@[go_sem] theorem us_2 : (Try.prog.underlying 2).isSome = true := by kernel_rfl
@[go_sem] theorem un_2 : Try.prog.underlying 2 = some (.int .i64) := by kernel_rfl
@[go_sem] theorem ze_2 : zeros Try.prog 2 = some [.sc (.int .i64 0)] := by kernel_rfl
@[go_sem] theorem by_2 : bytesOf Try.prog 2 = 8 := by kernel_rfl
@[go_sem] theorem sz_3 : szOf Try.prog 3 = 1 := by kernel_rfl
@[go_sem] theorem kn_3 : knownT Try.prog 3 = true := by kernel_rfl
@[go_sem] theorem ag_3 : aggOf Try.prog 3 = false := by kernel_rfl
@[go_sem] theorem us_3 : (Try.prog.underlying 3).isSome = true := by kernel_rfl
@[go_sem] theorem un_3 : Try.prog.underlying 3 = some (.int .i64) := by kernel_rfl
@[go_sem] theorem ze_3 : zeros Try.prog 3 = some [.sc (.int .i64 0)] := by kernel_rfl
@[go_sem] theorem by_3 : bytesOf Try.prog 3 = 8 := by kernel_rfl
@[go_sem] theorem sz_4 : szOf Try.prog 4 = 1 := by kernel_rfl
@[go_sem] theorem kn_4 : knownT Try.prog 4 = true := by kernel_rfl
@[go_sem] theorem ag_4 : aggOf Try.prog 4 = false := by kernel_rfl
@[go_sem] theorem us_4 : (Try.prog.underlying 4).isSome = true := by kernel_rfl
@[go_sem] theorem un_4 : Try.prog.underlying 4 = some .bool := by kernel_rfl
@[go_sem] theorem ze_4 : zeros Try.prog 4 = some [.sc (.bool false)] := by kernel_rfl
@[go_sem] theorem by_4 : bytesOf Try.prog 4 = 1 := by kernel_rfl
@[go_sem] theorem sz_5 : szOf Try.prog 5 = 1 := by kernel_rfl
@[go_sem] theorem kn_5 : knownT Try.prog 5 = true := by kernel_rfl
@[go_sem] theorem ag_5 : aggOf Try.prog 5 = false := by kernel_rfl
@[go_sem] theorem us_5 : (Try.prog.underlying 5).isSome = true := by kernel_rfl
@[go_sem] theorem un_5 : Try.prog.underlying 5 = some (.int .u8) := by kernel_rfl
@[go_sem] theorem ze_5 : zeros Try.prog 5 = some [.sc (.int .u8 0)] := by kernel_rfl
@[go_sem] theorem by_5 : bytesOf Try.prog 5 = 1 := by kernel_rfl
@[go_sem] theorem sz_9 : szOf Try.prog 9 = 1 := by kernel_rfl
@[go_sem] theorem kn_9 : knownT Try.prog 9 = true := by kernel_rfl
@[go_sem] theorem ag_9 : aggOf Try.prog 9 = false := by kernel_rfl
@[go_sem] theorem us_9 : (Try.prog.underlying 9).isSome = true := by kernel_rfl
@[go_sem] theorem un_9 : Try.prog.underlying 9 = some .string := by kernel_rfl
@[go_sem] theorem ze_9 : zeros Try.prog 9 = some [.sc (.string ByteArray.empty)] := by kernel_rfl
@[go_sem] theorem by_9 : bytesOf Try.prog 9 = 16 := by kernel_rfl
@[go_sem] theorem sz_12 : szOf Try.prog 12 = 1 := by kernel_rfl
@[go_sem] theorem kn_12 : knownT Try.prog 12 = true := by kernel_rfl
@[go_sem] theorem ag_12 : aggOf Try.prog 12 = false := by kernel_rfl
@[go_sem] theorem us_12 : (Try.prog.underlying 12).isSome = true := by kernel_rfl
@[go_sem] theorem un_12 : Try.prog.underlying 12 = some (.int .u64) := by kernel_rfl
@[go_sem] theorem ze_12 : zeros Try.prog 12 = some [.sc (.int .u64 0)] := by kernel_rfl
@[go_sem] theorem by_12 : bytesOf Try.prog 12 = 8 := by kernel_rfl
@[go_sem] theorem sz_17 : szOf Try.prog 17 = 1 := by kernel_rfl
@[go_sem] theorem kn_17 : knownT Try.prog 17 = true := by kernel_rfl
@[go_sem] theorem ag_17 : aggOf Try.prog 17 = false := by kernel_rfl
@[go_sem] theorem us_17 : (Try.prog.underlying 17).isSome = true := by kernel_rfl
@[go_sem] theorem ze_17 : zeros Try.prog 17 = some [.sc (.pointer none)] := by kernel_rfl
@[go_sem] theorem by_17 : bytesOf Try.prog 17 = 8 := by kernel_rfl
@[go_sem] theorem sz_21 : szOf Try.prog 21 = 1 := by kernel_rfl
@[go_sem] theorem kn_21 : knownT Try.prog 21 = true := by kernel_rfl
@[go_sem] theorem ag_21 : aggOf Try.prog 21 = false := by kernel_rfl
@[go_sem] theorem us_21 : (Try.prog.underlying 21).isSome = true := by kernel_rfl
@[go_sem] theorem un_21 : Try.prog.underlying 21 = some (.int .i32) := by kernel_rfl
@[go_sem] theorem ze_21 : zeros Try.prog 21 = some [.sc (.int .i32 0)] := by kernel_rfl
@[go_sem] theorem by_21 : bytesOf Try.prog 21 = 4 := by kernel_rfl
@[go_sem] theorem sz_22 : szOf Try.prog 22 = 1 := by kernel_rfl
@[go_sem] theorem kn_22 : knownT Try.prog 22 = true := by kernel_rfl
@[go_sem] theorem ag_22 : aggOf Try.prog 22 = false := by kernel_rfl
@[go_sem] theorem us_22 : (Try.prog.underlying 22).isSome = true := by kernel_rfl
@[go_sem] theorem el_22 : Go.PA.elemOf Try.prog 22 = some 3 := by kernel_rfl
@[go_sem] theorem un_22 : Try.prog.underlying 22 = some (.slice 3) := by kernel_rfl
@[go_sem] theorem ze_22 : zeros Try.prog 22 = some [.nil] := by kernel_rfl
@[go_sem] theorem by_22 : bytesOf Try.prog 22 = 24 := by kernel_rfl
@[go_sem] theorem sz_23 : szOf Try.prog 23 = 1 := by kernel_rfl
@[go_sem] theorem kn_23 : knownT Try.prog 23 = true := by kernel_rfl
@[go_sem] theorem ag_23 : aggOf Try.prog 23 = false := by kernel_rfl
@[go_sem] theorem us_23 : (Try.prog.underlying 23).isSome = true := by kernel_rfl
@[go_sem] theorem ze_23 : zeros Try.prog 23 = some [.sc (.pointer none)] := by kernel_rfl
@[go_sem] theorem by_23 : bytesOf Try.prog 23 = 8 := by kernel_rfl
@[go_sem] theorem sz_25 : szOf Try.prog 25 = 1 := by kernel_rfl
@[go_sem] theorem kn_25 : knownT Try.prog 25 = true := by kernel_rfl
@[go_sem] theorem ag_25 : aggOf Try.prog 25 = false := by kernel_rfl
@[go_sem] theorem us_25 : (Try.prog.underlying 25).isSome = true := by kernel_rfl
@[go_sem] theorem el_25 : Go.PA.elemOf Try.prog 25 = some 38 := by kernel_rfl
@[go_sem] theorem un_25 : Try.prog.underlying 25 = some (.slice 38) := by kernel_rfl
@[go_sem] theorem ze_25 : zeros Try.prog 25 = some [.nil] := by kernel_rfl
@[go_sem] theorem by_25 : bytesOf Try.prog 25 = 24 := by kernel_rfl
@[go_sem] theorem sz_28 : szOf Try.prog 28 = 1 := by kernel_rfl
@[go_sem] theorem kn_28 : knownT Try.prog 28 = true := by kernel_rfl
@[go_sem] theorem ag_28 : aggOf Try.prog 28 = false := by kernel_rfl
@[go_sem] theorem us_28 : (Try.prog.underlying 28).isSome = true := by kernel_rfl
@[go_sem] theorem el_28 : Go.PA.elemOf Try.prog 28 = some 33 := by kernel_rfl
@[go_sem] theorem un_28 : Try.prog.underlying 28 = some (.slice 33) := by kernel_rfl
@[go_sem] theorem ze_28 : zeros Try.prog 28 = some [.nil] := by kernel_rfl
@[go_sem] theorem by_28 : bytesOf Try.prog 28 = 24 := by kernel_rfl
@[go_sem] theorem sz_29 : szOf Try.prog 29 = 1 := by kernel_rfl
@[go_sem] theorem kn_29 : knownT Try.prog 29 = true := by kernel_rfl
@[go_sem] theorem ag_29 : aggOf Try.prog 29 = false := by kernel_rfl
@[go_sem] theorem us_29 : (Try.prog.underlying 29).isSome = true := by kernel_rfl
@[go_sem] theorem un_29 : Try.prog.underlying 29 = some (.int .i64) := by kernel_rfl
@[go_sem] theorem ze_29 : zeros Try.prog 29 = some [.sc (.int .i64 0)] := by kernel_rfl
@[go_sem] theorem by_29 : bytesOf Try.prog 29 = 8 := by kernel_rfl
@[go_sem] theorem sz_32 : szOf Try.prog 32 = 2 := by kernel_rfl
@[go_sem] theorem kn_32 : knownT Try.prog 32 = true := by kernel_rfl
@[go_sem] theorem ag_32 : aggOf Try.prog 32 = true := by kernel_rfl
@[go_sem] theorem us_32 : (Try.prog.underlying 32).isSome = true := by kernel_rfl
@[go_sem] theorem fd_32_0 : fieldOf Try.prog 32 0 = some (0, 3) := by kernel_rfl
@[go_sem] theorem fd_32_1 : fieldOf Try.prog 32 1 = some (1, 3) := by kernel_rfl
@[go_sem] theorem el_32 : Go.PA.elemOf Try.prog 32 = none := by kernel_rfl
@[go_sem] theorem ar_32 : arrOf Try.prog 32 = none := by kernel_rfl
@[go_sem] theorem fk_32 : fieldsKnown Try.prog 32 = true := by kernel_rfl
@[go_sem] theorem sg_32 : sigOf Try.prog 32 = some [.int, .int] := by kernel_rfl
@[go_sem] theorem ze_32 : zeros Try.prog 32 = some [.sc (.int .i64 0), .sc (.int .i64 0)] := by kernel_rfl
@[go_sem] theorem by_32 : bytesOf Try.prog 32 = 16 := by kernel_rfl
@[go_sem] theorem sz_33 : szOf Try.prog 33 = 2 := by kernel_rfl
@[go_sem] theorem kn_33 : knownT Try.prog 33 = true := by kernel_rfl
@[go_sem] theorem ag_33 : aggOf Try.prog 33 = true := by kernel_rfl
@[go_sem] theorem us_33 : (Try.prog.underlying 33).isSome = true := by kernel_rfl
@[go_sem] theorem fd_33_0 : fieldOf Try.prog 33 0 = some (0, 3) := by kernel_rfl
@[go_sem] theorem fd_33_1 : fieldOf Try.prog 33 1 = some (1, 3) := by kernel_rfl
@[go_sem] theorem el_33 : Go.PA.elemOf Try.prog 33 = none := by kernel_rfl
@[go_sem] theorem ar_33 : arrOf Try.prog 33 = none := by kernel_rfl
@[go_sem] theorem fk_33 : fieldsKnown Try.prog 33 = true := by kernel_rfl
@[go_sem] theorem sg_33 : sigOf Try.prog 33 = some [.int, .int] := by kernel_rfl
@[go_sem] theorem ze_33 : zeros Try.prog 33 = some [.sc (.int .i64 0), .sc (.int .i64 0)] := by kernel_rfl
@[go_sem] theorem by_33 : bytesOf Try.prog 33 = 16 := by kernel_rfl
@[go_sem] theorem sz_37 : szOf Try.prog 37 = 4 := by kernel_rfl
@[go_sem] theorem kn_37 : knownT Try.prog 37 = true := by kernel_rfl
@[go_sem] theorem ag_37 : aggOf Try.prog 37 = true := by kernel_rfl
@[go_sem] theorem us_37 : (Try.prog.underlying 37).isSome = true := by kernel_rfl
@[go_sem] theorem fd_37_0 : fieldOf Try.prog 37 0 = some (0, 3) := by kernel_rfl
@[go_sem] theorem fd_37_1 : fieldOf Try.prog 37 1 = some (1, 3) := by kernel_rfl
@[go_sem] theorem fd_37_2 : fieldOf Try.prog 37 2 = some (2, 3) := by kernel_rfl
@[go_sem] theorem fd_37_3 : fieldOf Try.prog 37 3 = some (3, 3) := by kernel_rfl
@[go_sem] theorem el_37 : Go.PA.elemOf Try.prog 37 = none := by kernel_rfl
@[go_sem] theorem ar_37 : arrOf Try.prog 37 = none := by kernel_rfl
@[go_sem] theorem fk_37 : fieldsKnown Try.prog 37 = true := by kernel_rfl
@[go_sem] theorem sg_37 : sigOf Try.prog 37 = some [.int, .int, .int, .int] := by kernel_rfl
@[go_sem] theorem ze_37 : zeros Try.prog 37 = some [.sc (.int .i64 0), .sc (.int .i64 0), .sc (.int .i64 0), .sc (.int .i64 0)] := by kernel_rfl
@[go_sem] theorem by_37 : bytesOf Try.prog 37 = 32 := by kernel_rfl
@[go_sem] theorem sz_38 : szOf Try.prog 38 = 4 := by kernel_rfl
@[go_sem] theorem kn_38 : knownT Try.prog 38 = true := by kernel_rfl
@[go_sem] theorem ag_38 : aggOf Try.prog 38 = true := by kernel_rfl
@[go_sem] theorem us_38 : (Try.prog.underlying 38).isSome = true := by kernel_rfl
@[go_sem] theorem fd_38_0 : fieldOf Try.prog 38 0 = some (0, 3) := by kernel_rfl
@[go_sem] theorem fd_38_1 : fieldOf Try.prog 38 1 = some (1, 3) := by kernel_rfl
@[go_sem] theorem fd_38_2 : fieldOf Try.prog 38 2 = some (2, 3) := by kernel_rfl
@[go_sem] theorem fd_38_3 : fieldOf Try.prog 38 3 = some (3, 3) := by kernel_rfl
@[go_sem] theorem el_38 : Go.PA.elemOf Try.prog 38 = none := by kernel_rfl
@[go_sem] theorem ar_38 : arrOf Try.prog 38 = none := by kernel_rfl
@[go_sem] theorem fk_38 : fieldsKnown Try.prog 38 = true := by kernel_rfl
@[go_sem] theorem sg_38 : sigOf Try.prog 38 = some [.int, .int, .int, .int] := by kernel_rfl
@[go_sem] theorem ze_38 : zeros Try.prog 38 = some [.sc (.int .i64 0), .sc (.int .i64 0), .sc (.int .i64 0), .sc (.int .i64 0)] := by kernel_rfl
@[go_sem] theorem by_38 : bytesOf Try.prog 38 = 32 := by kernel_rfl
@[go_sem] theorem sz_43 : szOf Try.prog 43 = 1 := by kernel_rfl
@[go_sem] theorem kn_43 : knownT Try.prog 43 = true := by kernel_rfl
@[go_sem] theorem ag_43 : aggOf Try.prog 43 = false := by kernel_rfl
@[go_sem] theorem us_43 : (Try.prog.underlying 43).isSome = true := by kernel_rfl
@[go_sem] theorem el_43 : Go.PA.elemOf Try.prog 43 = some 25 := by kernel_rfl
@[go_sem] theorem un_43 : Try.prog.underlying 43 = some (.slice 25) := by kernel_rfl
@[go_sem] theorem ze_43 : zeros Try.prog 43 = some [.nil] := by kernel_rfl
@[go_sem] theorem by_43 : bytesOf Try.prog 43 = 24 := by kernel_rfl
@[go_sem] theorem sz_46 : szOf Try.prog 46 = 2 := by kernel_rfl
@[go_sem] theorem kn_46 : knownT Try.prog 46 = true := by kernel_rfl
@[go_sem] theorem ag_46 : aggOf Try.prog 46 = true := by kernel_rfl
@[go_sem] theorem us_46 : (Try.prog.underlying 46).isSome = true := by kernel_rfl
@[go_sem] theorem fd_46_0 : fieldOf Try.prog 46 0 = some (0, 22) := by kernel_rfl
@[go_sem] theorem fd_46_1 : fieldOf Try.prog 46 1 = some (1, 3) := by kernel_rfl
@[go_sem] theorem el_46 : Go.PA.elemOf Try.prog 46 = none := by kernel_rfl
@[go_sem] theorem ar_46 : arrOf Try.prog 46 = none := by kernel_rfl
@[go_sem] theorem fk_46 : fieldsKnown Try.prog 46 = true := by kernel_rfl
@[go_sem] theorem ze_46 : zeros Try.prog 46 = some [.nil, .sc (.int .i64 0)] := by kernel_rfl
@[go_sem] theorem by_46 : bytesOf Try.prog 46 = 32 := by kernel_rfl
@[go_sem] theorem sz_47 : szOf Try.prog 47 = 2 := by kernel_rfl
@[go_sem] theorem kn_47 : knownT Try.prog 47 = true := by kernel_rfl
@[go_sem] theorem ag_47 : aggOf Try.prog 47 = true := by kernel_rfl
@[go_sem] theorem us_47 : (Try.prog.underlying 47).isSome = true := by kernel_rfl
@[go_sem] theorem fd_47_0 : fieldOf Try.prog 47 0 = some (0, 22) := by kernel_rfl
@[go_sem] theorem fd_47_1 : fieldOf Try.prog 47 1 = some (1, 3) := by kernel_rfl
@[go_sem] theorem el_47 : Go.PA.elemOf Try.prog 47 = none := by kernel_rfl
@[go_sem] theorem ar_47 : arrOf Try.prog 47 = none := by kernel_rfl
@[go_sem] theorem fk_47 : fieldsKnown Try.prog 47 = true := by kernel_rfl
@[go_sem] theorem ze_47 : zeros Try.prog 47 = some [.nil, .sc (.int .i64 0)] := by kernel_rfl
@[go_sem] theorem by_47 : bytesOf Try.prog 47 = 32 := by kernel_rfl
@[go_sem] theorem sz_68 : szOf Try.prog 68 = 1 := by kernel_rfl
@[go_sem] theorem kn_68 : knownT Try.prog 68 = true := by kernel_rfl
@[go_sem] theorem ag_68 : aggOf Try.prog 68 = false := by kernel_rfl
@[go_sem] theorem us_68 : (Try.prog.underlying 68).isSome = true := by kernel_rfl
@[go_sem] theorem un_68 : Try.prog.underlying 68 = some (.int .u64) := by kernel_rfl
@[go_sem] theorem ze_68 : zeros Try.prog 68 = some [.sc (.int .u64 0)] := by kernel_rfl
@[go_sem] theorem by_68 : bytesOf Try.prog 68 = 8 := by kernel_rfl
@[go_sem] theorem sz_76 : szOf Try.prog 76 = 1 := by kernel_rfl
@[go_sem] theorem kn_76 : knownT Try.prog 76 = true := by kernel_rfl
@[go_sem] theorem ag_76 : aggOf Try.prog 76 = false := by kernel_rfl
@[go_sem] theorem us_76 : (Try.prog.underlying 76).isSome = true := by kernel_rfl
@[go_sem] theorem un_76 : Try.prog.underlying 76 = some (.int .u32) := by kernel_rfl
@[go_sem] theorem ze_76 : zeros Try.prog 76 = some [.sc (.int .u32 0)] := by kernel_rfl
@[go_sem] theorem by_76 : bytesOf Try.prog 76 = 4 := by kernel_rfl
@[go_sem] theorem sz_80 : szOf Try.prog 80 = 1 := by kernel_rfl
@[go_sem] theorem kn_80 : knownT Try.prog 80 = true := by kernel_rfl
@[go_sem] theorem ag_80 : aggOf Try.prog 80 = false := by kernel_rfl
@[go_sem] theorem us_80 : (Try.prog.underlying 80).isSome = true := by kernel_rfl
@[go_sem] theorem ze_80 : zeros Try.prog 80 = some [.sc (.pointer none)] := by kernel_rfl
@[go_sem] theorem by_80 : bytesOf Try.prog 80 = 8 := by kernel_rfl
@[go_sem] theorem en_3 : enterable Try.prog 3 = true := by kernel_rfl -- treasury/treasurylaw29.ForecastSplits
@[go_sem] theorem en_4 : enterable Try.prog 4 = true := by kernel_rfl -- treasury/treasurylaw29.ForecastLater
@[go_sem] theorem en_5 : enterable Try.prog 5 = true := by kernel_rfl -- treasury/treasurylaw29.ForecastAdds
@[go_sem] theorem en_6 : enterable Try.prog 6 = true := by kernel_rfl -- treasury/treasurylaw29.ForecastOrder
@[go_sem] theorem en_7 : enterable Try.prog 7 = true := by kernel_rfl -- treasury/treasuryplay.New
@[go_sem] theorem en_8 : enterable Try.prog 8 = true := by kernel_rfl -- (*treasury/treasuryplay.Src).Flows
@[go_sem] theorem en_9 : enterable Try.prog 9 = true := by kernel_rfl -- (*treasury/treasuryplay.Src).Range
@[go_sem] theorem en_10 : enterable Try.prog 10 = true := by kernel_rfl -- treasury/forecast.Project
@[go_sem] theorem en_11 : enterable Try.prog 11 = true := by kernel_rfl -- treasury/treasuryref29.Positions
@[go_sem] theorem en_12 : enterable Try.prog 12 = true := by kernel_rfl -- treasury/treasurylaw29.sane
@[go_sem] theorem en_13 : enterable Try.prog 13 = true := by kernel_rfl -- treasury/forecast.Shift
@[go_sem] theorem en_14 : enterable Try.prog 14 = true := by kernel_rfl -- (*treasury/treasuryplay.Src).N
@[go_sem] theorem en_15 : enterable Try.prog 15 = true := by kernel_rfl -- treasury/forecast.Merge
@[go_sem] theorem en_16 : enterable Try.prog 16 = true := by kernel_rfl -- treasury/treasurylaw29.ordered
@[go_sem] theorem en_17 : enterable Try.prog 17 = true := by kernel_rfl -- (*treasury/treasuryplay.Src).Flow
@[go_sem] theorem en_18 : enterable Try.prog 18 = true := by kernel_rfl -- treasury/forecast.Check
@[go_sem] theorem en_19 : enterable Try.prog 19 = true := by kernel_rfl -- treasury/money.Total
@[go_sem] theorem en_20 : enterable Try.prog 20 = true := by kernel_rfl -- treasury/calendar.Valid
@[go_sem] theorem en_21 : enterable Try.prog 21 = true := by kernel_rfl -- treasury/forecast.among
@[go_sem] theorem en_22 : enterable Try.prog 22 = true := by kernel_rfl -- treasury/forecast.Lowest
@[go_sem] theorem en_23 : enterable Try.prog 23 = true := by kernel_rfl -- treasury/forecast.order
@[go_sem] theorem en_24 : enterable Try.prog 24 = true := by kernel_rfl -- slices.Concat[[]treasury/api.Flow,treasury/api.Flow]
@[go_sem] theorem en_25 : enterable Try.prog 25 = true := by kernel_rfl -- (*treasury/treasuryplay.Src).Pick
@[go_sem] theorem en_26 : enterable Try.prog 26 = true := by kernel_rfl -- slices.ContainsFunc[[]treasury/api.Flow,treasury/api.Flow]
@[go_sem] theorem en_27 : enterable Try.prog 27 = true := by kernel_rfl -- treasury/forecast.Check$1
@[go_sem] theorem en_28 : enterable Try.prog 28 = true := by kernel_rfl -- treasury/forecast.valid
@[go_sem] theorem en_29 : enterable Try.prog 29 = true := by kernel_rfl -- slices.MinFunc[[]treasury/api.Position,treasury/api.Position]
@[go_sem] theorem en_30 : enterable Try.prog 30 = true := by kernel_rfl -- treasury/forecast.Lowest$1
@[go_sem] theorem en_31 : enterable Try.prog 31 = true := by kernel_rfl -- cmp.Compare[int]
@[go_sem] theorem en_32 : enterable Try.prog 32 = true := by kernel_rfl -- slices.SortStableFunc[[]treasury/api.Flow,treasury/api.Flow]
@[go_sem] theorem en_33 : enterable Try.prog 33 = true := by kernel_rfl -- treasury/forecast.order$1
@[go_sem] theorem en_34 : enterable Try.prog 34 = true := by kernel_rfl -- cmp.Or[int]
@[go_sem] theorem en_35 : enterable Try.prog 35 = true := by kernel_rfl -- slices.Grow[[]treasury/api.Flow,treasury/api.Flow]
@[go_sem] theorem en_36 : enterable Try.prog 36 = true := by kernel_rfl -- slices.IndexFunc[[]treasury/api.Flow,treasury/api.Flow]
@[go_sem] theorem en_37 : enterable Try.prog 37 = true := by kernel_rfl -- cmp.isNaN[int]
@[go_sem] theorem en_38 : enterable Try.prog 38 = true := by kernel_rfl -- slices.stableCmpFunc[treasury/api.Flow]
@[go_sem] theorem en_39 : enterable Try.prog 39 = true := by kernel_rfl -- slices.insertionSortCmpFunc[treasury/api.Flow]
@[go_sem] theorem en_40 : enterable Try.prog 40 = true := by kernel_rfl -- slices.symMergeCmpFunc[treasury/api.Flow]
@[go_sem] theorem en_41 : enterable Try.prog 41 = true := by kernel_rfl -- slices.rotateCmpFunc[treasury/api.Flow]
@[go_sem] theorem en_42 : enterable Try.prog 42 = true := by kernel_rfl -- slices.swapRangeCmpFunc[treasury/api.Flow]
@[go_sem] theorem rs_3 : Try.f3.results.toList = [.tmp 4] := rfl
@[go_sem] theorem rs_4 : Try.f4.results.toList = [.tmp 4] := rfl
@[go_sem] theorem rs_5 : Try.f5.results.toList = [.tmp 2] := rfl
@[go_sem] theorem rs_6 : Try.f6.results.toList = [.tmp 2] := rfl
@[go_sem] theorem rs_7 : Try.f7.results.toList = [.tmp 2] := rfl
@[go_sem] theorem rs_8 : Try.f8.results.toList = [.tmp 4] := rfl
@[go_sem] theorem rs_9 : Try.f9.results.toList = [.tmp 6] := rfl
@[go_sem] theorem rs_10 : Try.f10.results.toList = [.tmp 8, .tmp 9] := rfl
@[go_sem] theorem rs_11 : Try.f11.results.toList = [.tmp 4] := rfl
@[go_sem] theorem rs_12 : Try.f12.results.toList = [.tmp 0] := rfl
@[go_sem] theorem rs_13 : Try.f13.results.toList = [.tmp 6, .tmp 7] := rfl
@[go_sem] theorem rs_14 : Try.f14.results.toList = [.tmp 4] := rfl
@[go_sem] theorem rs_15 : Try.f15.results.toList = [.tmp 2, .tmp 3] := rfl
@[go_sem] theorem rs_16 : Try.f16.results.toList = [.tmp 2] := rfl
@[go_sem] theorem rs_17 : Try.f17.results.toList = [.cell 2 38] := rfl
@[go_sem] theorem rs_18 : Try.f18.results.toList = [.tmp 2] := rfl
@[go_sem] theorem rs_19 : Try.f19.results.toList = [.tmp 2] := rfl
@[go_sem] theorem rs_20 : Try.f20.results.toList = [.tmp 2] := rfl
@[go_sem] theorem rs_21 : Try.f21.results.toList = [.tmp 6] := rfl
@[go_sem] theorem rs_22 : Try.f22.results.toList = [.cell 2 33, .tmp 3] := rfl
@[go_sem] theorem rs_23 : Try.f23.results.toList = [.tmp 2] := rfl
@[go_sem] theorem rs_24 : Try.f24.results.toList = [.tmp 2] := rfl
@[go_sem] theorem rs_25 : Try.f25.results.toList = [.tmp 4] := rfl
@[go_sem] theorem rs_26 : Try.f26.results.toList = [.tmp 4] := rfl
@[go_sem] theorem rs_27 : Try.f27.results.toList = [.tmp 2] := rfl
@[go_sem] theorem rs_28 : Try.f28.results.toList = [.tmp 2] := rfl
@[go_sem] theorem rs_29 : Try.f29.results.toList = [.cell 4 33] := rfl
@[go_sem] theorem rs_30 : Try.f30.results.toList = [.tmp 4] := rfl
@[go_sem] theorem rs_31 : Try.f31.results.toList = [.tmp 4] := rfl
@[go_sem] theorem rs_32 : Try.f32.results.toList = [] := rfl
@[go_sem] theorem rs_33 : Try.f33.results.toList = [.tmp 4] := rfl
@[go_sem] theorem rs_34 : Try.f34.results.toList = [.tmp 2] := rfl
@[go_sem] theorem rs_35 : Try.f35.results.toList = [.tmp 4] := rfl
@[go_sem] theorem rs_36 : Try.f36.results.toList = [.tmp 4] := rfl
@[go_sem] theorem rs_37 : Try.f37.results.toList = [.tmp 2] := rfl
@[go_sem] theorem rs_38 : Try.f38.results.toList = [] := rfl
@[go_sem] theorem rs_39 : Try.f39.results.toList = [] := rfl
@[go_sem] theorem rs_40 : Try.f40.results.toList = [] := rfl
@[go_sem] theorem rs_41 : Try.f41.results.toList = [] := rfl
@[go_sem] theorem rs_42 : Try.f42.results.toList = [] := rfl
@[go_sem] theorem rs_58 : Try.f58.results.toList = [] := rfl

end Go.Proofs.Ytkicgnigaeopnaa
