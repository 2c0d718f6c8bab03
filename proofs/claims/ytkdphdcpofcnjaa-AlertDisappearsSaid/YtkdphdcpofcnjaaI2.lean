/- Part of the proofs of the statements on alerts: texts that the last text is built on. -/
import Derived.Test.YtkdphdcpofcnjaaI1
import Derived.Test.YtkdphdcpofcnjaaProg
import Derived.KernelRfl
namespace Go.Proofs.Ytkdphdcpofcnjaa
open Go Abs
/-! slices.Clone[[]seismonet/api.Alert,seismonet/api.Alert] -/
def R49_0 : ACode := .reg none [
    ⟨0, none, (some 2), .mov, [.c (.nils)], []⟩] [0] []
def R49_1 : ACode := .reg none [
    ⟨0, none, (some 3), .mov, [.t 0], []⟩,
    ⟨1, none, (some 4), (.isn false), [.t 3], []⟩] [0, 4] []
def R49_2 : ACode := .reg none [
    ⟨0, none, (some 2), .mov, [.c (.nils)], []⟩] [2] []
def R49_3 : ACode := .reg none [
    ⟨0, none, (some 5), (.bslice 0 38 [.int .i64 0, .bool false, .str ⟨#[]⟩, .str ⟨#[]⟩, .str ⟨#[]⟩, .str ⟨#[]⟩, .int .i64 0, .int .i64 0, .int .i64 0, .int .i64 0, .int .i64 0, .int .i64 0, .str ⟨#[]⟩, .str ⟨#[]⟩, .str ⟨#[]⟩, .str ⟨#[]⟩, .int .i64 0, .int .i64 0, .int .i64 0, .int .i64 0, .int .i64 0, .nils, .int .i64 0, .int .i64 0, .int .i64 0, .int .i64 0, .int .i64 0, .int .i64 0, .int .i64 0, .int .i64 0, .int .i64 0, .int .i64 0, .int .i64 0, .int .i64 0, .int .i64 0, .int .i64 0, .int .i64 0, .int .i64 0] []), [], []⟩,
    ⟨1, none, (some 6), .mov, [.t 0], []⟩,
    ⟨2, none, (some 7), (.appm [.int .i64 0, .bool false, .str ⟨#[]⟩, .str ⟨#[]⟩, .str ⟨#[]⟩, .str ⟨#[]⟩, .int .i64 0, .int .i64 0, .int .i64 0, .int .i64 0, .int .i64 0, .int .i64 0, .str ⟨#[]⟩, .str ⟨#[]⟩, .str ⟨#[]⟩, .str ⟨#[]⟩, .int .i64 0, .int .i64 0, .int .i64 0, .int .i64 0, .int .i64 0, .nils, .int .i64 0, .int .i64 0, .int .i64 0, .int .i64 0, .int .i64 0, .int .i64 0, .int .i64 0, .int .i64 0, .int .i64 0, .int .i64 0, .int .i64 0, .int .i64 0, .int .i64 0, .int .i64 0, .int .i64 0, .int .i64 0] 366503875925), [.t 5, .t 6], []⟩,
    ⟨3, none, (some 2), .mov, [.t 7], []⟩] [2] []
def C49 : ACode := (.seq R49_0 (.seq (.seq R49_1 (.cond (.t 4) (.seq R49_2 .ret) .skip)) (.seq R49_3 .ret)))
def F49 : AFn := ⟨1, 8, [.tmp 2], C49⟩
theorem ok49 : fnOk Try.prog Try.f49 F49 = true := by kernel_rfl
theorem at49 : Try.prog.funcs[49]? = some Try.f49 := by kernel_rfl
/-! slices.Backward[[]seismonet/api.Rule,seismonet/api.Rule] -/
def R50_0 : ACode := .reg none [
    ⟨0, none, (some 1), .boxh, [.t 0], []⟩,
    ⟨1, none, (some 2), .mov, [.c (.nilf)], []⟩] [1] []
def R50_1 : ACode := .reg none [
    ⟨0, none, (some 3), (.mkf 72 0), [.t 1], []⟩,
    ⟨1, none, (some 2), .mov, [.t 3], []⟩] [2] []
def C50 : ACode := (.seq R50_0 (.seq R50_1 .ret))
def F50 : AFn := ⟨1, 4, [.tmp 2], C50⟩
theorem ok50 : fnOk Try.prog Try.f50 F50 = true := by kernel_rfl
theorem at50 : Try.prog.funcs[50]? = some Try.f50 := by kernel_rfl
/-! seismonet/rule.Meets -/
def R51_0 : ACode := .reg none [
    ⟨0, none, (some 2), (.boxl 2), [.t 0], []⟩,
    ⟨1, none, (some 3), (.boxl 3), [.t 1], []⟩,
    ⟨2, none, (some 4), .mov, [.c (.bool false)], []⟩] [2, 3] [2, 3]
def R51_1 : ACode := .reg none [
    ⟨0, none, (some 6), (.fld 9), [.t 3], []⟩,
    ⟨1, none, (some 7), (.ld 16 true), [.t 6], []⟩,
    ⟨2, none, (some 5), (.newl 5 [.nils, .int .i64 0, .int .i64 0, .int .i64 0, .int .i64 0, .int .i64 0, .int .i64 0, .int .i64 0, .int .i64 0, .int .i64 0, .int .i64 0, .int .i64 0, .int .i64 0, .int .i64 0, .int .i64 0, .int .i64 0]), [], []⟩,
    ⟨3, none, none, (.st 16), [.t 5, .t 7], []⟩] [2, 5] [2, 5]
def R51_2 : ACode := .reg none [
    ⟨0, none, (some 8), (.fld 15), [.t 5], []⟩,
    ⟨1, none, (some 9), (.ld 1 false), [.t 8], []⟩,
    ⟨2, none, (some 10), (.bin .ge), [.t 9, .c (.int .i64 1)], []⟩,
    ⟨3, none, (some 11), .mov, [.t 10], []⟩,
    ⟨4, (some (11, true)), (some 12), (.fld 13), [.t 5], []⟩,
    ⟨5, (some (11, true)), (some 13), (.fld 0), [.t 12], []⟩,
    ⟨6, (some (11, true)), (some 14), (.ld 1 false), [.t 13], []⟩,
    ⟨7, (some (11, true)), (some 15), (.fld 0), [.t 2], []⟩,
    ⟨8, (some (11, true)), (some 16), (.ld 1 false), [.t 15], []⟩,
    ⟨9, (some (11, true)), (some 17), (.bin .ge), [.t 14, .t 16], []⟩,
    ⟨10, none, (some 18), .pick, [.t 11, .t 17, .c (.bool false)], []⟩,
    ⟨11, none, (some 19), .mov, [.t 18], []⟩,
    ⟨12, (some (19, true)), (some 20), (.fld 0), [.t 5], []⟩,
    ⟨13, (some (19, true)), (some 21), (.ld 1 false), [.t 20], []⟩,
    ⟨14, (some (19, true)), (some 22), .len, [.t 21], []⟩,
    ⟨15, (some (19, true)), (some 23), (.fld 1), [.t 2], []⟩,
    ⟨16, (some (19, true)), (some 24), (.ld 1 false), [.t 23], []⟩,
    ⟨17, (some (19, true)), (some 25), (.bin .ge), [.t 22, .t 24], []⟩,
    ⟨18, none, (some 26), .pick, [.t 19, .t 25, .c (.bool false)], []⟩,
    ⟨19, none, (some 27), .mov, [.t 26], []⟩,
    ⟨20, (some (27, true)), (some 28), (.fld 1), [.t 5], []⟩,
    ⟨21, (some (27, true)), (some 29), (.fld 4), [.t 28], []⟩,
    ⟨22, (some (27, true)), (some 30), (.ld 1 false), [.t 29], []⟩,
    ⟨23, (some (27, true)), (some 31), (.fld 2), [.t 2], []⟩,
    ⟨24, (some (27, true)), (some 32), (.ld 1 false), [.t 31], []⟩,
    ⟨25, (some (27, true)), (some 33), (.bin .le), [.t 30, .t 32], []⟩,
    ⟨26, none, (some 34), .pick, [.t 27, .t 33, .c (.bool false)], []⟩,
    ⟨27, none, (some 4), .mov, [.t 34], []⟩] [4] []
def C51 : ACode := (.seq R51_0 (.seq R51_1 (.seq R51_2 .ret)))
def F51 : AFn := ⟨2, 35, [.tmp 4], C51⟩
theorem ok51 : fnOk Try.prog Try.f51 F51 = true := by kernel_rfl
theorem at51 : Try.prog.funcs[51]? = some Try.f51 := by kernel_rfl
/-! seismonet/geometry.Square -/
def R52_0 : ACode := .reg none [
    ⟨0, none, (some 2), (.boxl 2), [.t 0], []⟩,
    ⟨1, none, (some 3), (.boxl 3), [.t 1], []⟩,
    ⟨2, none, (some 4), .mov, [.c (.int .i64 0)], []⟩] [2, 3] [2, 3]
def R52_1 : ACode := .reg none [
    ⟨0, none, (some 9), (.ld 3 true), [.t 2], []⟩,
    ⟨1, none, (some 10), (.callp 73), [.t 9], []⟩,
    ⟨2, none, (some 11), .not, [.t 10], []⟩,
    ⟨3, none, (some 12), .mov, [.t 11], []⟩,
    ⟨4, (some (12, false)), (some 13), (.ld 3 true), [.t 3], []⟩,
    ⟨5, (some (12, false)), (some 14), (.callp 73), [.t 13], []⟩,
    ⟨6, (some (12, false)), (some 15), .not, [.t 14], []⟩,
    ⟨7, none, (some 16), .pick, [.t 12, .c (.bool true), .t 15], []⟩] [2, 3, 16] [2, 3]
def R52_2 : ACode := .reg none [
    ⟨0, none, (some 4), .mov, [.c (.int .i64 0)], []⟩] [4] []
def R52_3 : ACode := .reg none [
    ⟨0, none, (some 17), (.ld 3 true), [.t 3], []⟩,
    ⟨1, none, (some 18), (.callp 74), [.t 17], []⟩,
    ⟨2, none, (some 6), (.newl 6 [.int .i64 0, .int .i64 0, .int .i64 0]), [], []⟩,
    ⟨3, none, (some 5), .mov, [.c (.int .i64 0)], []⟩,
    ⟨4, none, none, (.st 3), [.t 6, .t 18], []⟩] [2, 5, 6] [2, 6]
def R52_4 : ACode := .reg none [
    ⟨0, none, (some 19), (.ld 3 true), [.t 2], []⟩,
    ⟨1, none, (some 20), (.callp 74), [.t 19], []⟩,
    ⟨2, none, (some 21), .mov, [.c (.int .i64 0)], []⟩] [5, 6, 20, 21] [6]
def R52_5 : ACode := .reg none [
    ⟨0, none, (some 22), (.bin .lt), [.t 21, .c (.int .i64 3)], []⟩] [5, 6, 20, 21, 22] [6]
def R52_6 : ACode := .reg none [
    ⟨0, none, (some 23), .mov, [.t 21], []⟩,
    ⟨1, none, (some 24), (.ixv 3 1 false), [.t 20, .t 21], []⟩,
    ⟨2, none, (some 7), .mov, [.t 23], []⟩,
    ⟨3, none, (some 8), .mov, [.t 24], []⟩] [5, 6, 7, 8, 20, 21] [6]
def R52_7 : ACode := .reg (some [0, 0, 0, 4, 12, 30, 0, 0, 128, 384, 960, 2046, 4095, 8191]) [
    ⟨0, none, (some 25), .mov, [.t 5], []⟩,
    ⟨1, none, (some 26), .mov, [.t 8], []⟩,
    ⟨2, none, (some 27), .mov, [.t 7], []⟩,
    ⟨3, none, (some 28), (.ixa 3 1), [.t 6, .t 27], []⟩,
    ⟨4, none, (some 29), (.ld 1 false), [.t 28], []⟩,
    ⟨5, none, (some 30), (.bin .sub), [.t 26, .t 29], []⟩,
    ⟨6, none, (some 31), .mov, [.t 8], []⟩,
    ⟨7, none, (some 32), .mov, [.t 7], []⟩,
    ⟨8, none, (some 33), (.ixa 3 1), [.t 6, .t 32], []⟩,
    ⟨9, none, (some 34), (.ld 1 false), [.t 33], []⟩,
    ⟨10, none, (some 35), (.bin .sub), [.t 31, .t 34], []⟩,
    ⟨11, none, (some 36), (.bin .mul), [.t 30, .t 35], []⟩,
    ⟨12, none, (some 37), (.bin .add), [.t 25, .t 36], []⟩,
    ⟨13, none, (some 5), .mov, [.t 37], []⟩] [5, 6, 20, 21] [6]
def R52_8 : ACode := .reg none [
    ⟨0, none, (some 38), (.bin .add), [.t 21, .c (.int .i64 1)], []⟩,
    ⟨1, none, (some 21), .mov, [.t 38], []⟩] [5, 6, 20, 21] [6]
def R52_9 : ACode := .reg none [
    ⟨0, none, (some 39), .mov, [.t 5], []⟩,
    ⟨1, none, (some 4), .mov, [.t 39], []⟩] [4] []
def C52 : ACode := (.seq R52_0 (.seq (.seq R52_1 (.cond (.t 16) (.seq R52_2 .ret) .skip)) (.seq R52_3 (.seq (.seq R52_4 (.block 0 (.loop (.seq R52_5 (.seq (.cond (.t 22) .skip (.exit 0)) (.seq (.block 1 (.seq R52_6 R52_7)) R52_8)))))) (.seq R52_9 .ret)))))
def F52 : AFn := ⟨2, 40, [.tmp 4], C52⟩
theorem ok52 : fnOk Try.prog Try.f52 F52 = true := by kernel_rfl
theorem at52 : Try.prog.funcs[52]? = some Try.f52 := by kernel_rfl
/-! seismonet/rule.apart -/
def R53_0 : ACode := .reg none [
    ⟨0, none, (some 4), .mov, [.c (.int .u64 0)], []⟩] [0, 1] []
def R53_1 : ACode := .reg none [
    ⟨0, none, (some 5), .mov, [.t 0], []⟩,
    ⟨1, none, (some 6), .mov, [.t 1], []⟩,
    ⟨2, none, (some 7), (.bin .lt), [.t 5, .t 6], []⟩] [0, 1, 7] []
def R53_2 : ACode := .reg none [
    ⟨0, none, (some 8), .mov, [.t 1], []⟩,
    ⟨1, none, (some 9), .mov, [.t 0], []⟩,
    ⟨2, none, (some 0), .mov, [.t 8], []⟩,
    ⟨3, none, (some 1), .mov, [.t 9], []⟩] [0, 1] []
def R53_3 : ACode := .reg none [
    ⟨0, none, (some 10), .mov, [.t 0], []⟩,
    ⟨1, none, (some 11), (.conv .u64), [.t 10], []⟩,
    ⟨2, none, (some 12), .mov, [.t 1], []⟩,
    ⟨3, none, (some 13), (.conv .u64), [.t 12], []⟩,
    ⟨4, none, (some 14), (.bin .sub), [.t 11, .t 13], []⟩,
    ⟨5, none, (some 4), .mov, [.t 14], []⟩] [4] []
def C53 : ACode := (.seq R53_0 (.seq (.seq R53_1 (.cond (.t 7) R53_2 .skip)) (.seq R53_3 .ret)))
def F53 : AFn := ⟨2, 15, [.tmp 4], C53⟩
theorem ok53 : fnOk Try.prog Try.f53 F53 = true := by kernel_rfl
theorem at53 : Try.prog.funcs[53]? = some Try.f53 := by kernel_rfl
/-! seismonet/magnitude.Agree -/
def R54_0 : ACode := .reg none [
    ⟨0, none, (some 2), (.boxl 2), [.t 0], []⟩,
    ⟨1, none, (some 3), (.boxl 3), [.t 1], []⟩,
    ⟨2, none, (some 4), .mov, [.c (.bool false)], []⟩] [2, 3] [2, 3]
def R54_1 : ACode := .reg none [
    ⟨0, none, (some 5), (.fld 0), [.t 2], []⟩,
    ⟨1, none, (some 6), (.ld 1 false), [.t 5], []⟩,
    ⟨2, none, (some 7), (.fld 0), [.t 3], []⟩,
    ⟨3, none, (some 8), (.ld 1 false), [.t 7], []⟩,
    ⟨4, none, (some 9), .mx, [.t 6, .t 8], []⟩,
    ⟨5, none, (some 10), (.fld 1), [.t 2], []⟩,
    ⟨6, none, (some 11), (.ld 1 false), [.t 10], []⟩,
    ⟨7, none, (some 12), (.fld 1), [.t 3], []⟩,
    ⟨8, none, (some 13), (.ld 1 false), [.t 12], []⟩,
    ⟨9, none, (some 14), .mn, [.t 11, .t 13], []⟩,
    ⟨10, none, (some 15), (.bin .le), [.t 9, .t 14], []⟩,
    ⟨11, none, (some 4), .mov, [.t 15], []⟩] [4] []
def C54 : ACode := (.seq R54_0 (.seq R54_1 .ret))
def F54 : AFn := ⟨2, 16, [.tmp 4], C54⟩
theorem ok54 : fnOk Try.prog Try.f54 F54 = true := by kernel_rfl
theorem at54 : Try.prog.funcs[54]? = some Try.f54 := by kernel_rfl
/-! slices.ContainsFunc[[]seismonet/api.Pick,seismonet/api.Pick] -/
def R55_0 : ACode := .reg none [
    ⟨0, none, (some 4), .mov, [.c (.bool false)], []⟩] [0, 1] []
def R55_1 : ACode := .reg none [
    ⟨0, none, (some 5), .mov, [.t 0], []⟩,
    ⟨1, none, (some 6), .mov, [.t 1], []⟩,
    ⟨2, none, (some 7), (.callp 75), [.t 5, .t 6], []⟩,
    ⟨3, none, (some 8), (.bin .ge), [.t 7, .c (.int .i64 0)], []⟩,
    ⟨4, none, (some 4), .mov, [.t 8], []⟩] [4] []
def C55 : ACode := (.seq R55_0 (.seq R55_1 .ret))
def F55 : AFn := ⟨2, 9, [.tmp 4], C55⟩
theorem ok55 : fnOk Try.prog Try.f55 F55 = true := by kernel_rfl
theorem at55 : Try.prog.funcs[55]? = some Try.f55 := by kernel_rfl
/-! seismonet/alert.shared$1 -/
def R56_0 : ACode := .reg none [
    ⟨0, none, (some 2), (.boxl 2), [.t 0], []⟩,
    ⟨1, none, (some 3), .mov, [.c (.bool false)], []⟩] [1, 2] [2]
def R56_1 : ACode := .reg none [
    ⟨0, none, (some 4), (.fld 9), [.t 1], []⟩,
    ⟨1, none, (some 5), (.fld 0), [.t 4], []⟩,
    ⟨2, none, (some 6), (.ldh 1 false), [.t 5], []⟩,
    ⟨3, none, (some 7), (.ld 9 true), [.t 2], []⟩,
    ⟨4, none, (some 8), (.callp 57), [.t 6, .t 7], []⟩,
    ⟨5, none, (some 3), .mov, [.t 8], []⟩] [3] []
def C56 : ACode := (.seq R56_0 (.seq R56_1 .ret))
def F56 : AFn := ⟨2, 9, [.tmp 3], C56⟩
theorem ok56 : fnOk Try.prog Try.f56 F56 = true := by kernel_rfl
theorem at56 : Try.prog.funcs[56]? = some Try.f56 := by kernel_rfl
/-! slices.Contains[[]seismonet/api.Pick,seismonet/api.Pick] -/
def R57_0 : ACode := .reg none [
    ⟨0, none, (some 3), (.boxl 3), [.t 1], []⟩,
    ⟨1, none, (some 4), .mov, [.c (.bool false)], []⟩] [0, 3] [3]
def R57_1 : ACode := .reg none [
    ⟨0, none, (some 5), .mov, [.t 0], []⟩,
    ⟨1, none, (some 6), (.ld 9 true), [.t 3], []⟩,
    ⟨2, none, (some 7), (.callp 76), [.t 5, .t 6], []⟩,
    ⟨3, none, (some 8), (.bin .ge), [.t 7, .c (.int .i64 0)], []⟩,
    ⟨4, none, (some 4), .mov, [.t 8], []⟩] [4] []
def C57 : ACode := (.seq R57_0 (.seq R57_1 .ret))
def F57 : AFn := ⟨2, 9, [.tmp 4], C57⟩
theorem ok57 : fnOk Try.prog Try.f57 F57 = true := by kernel_rfl
theorem at57 : Try.prog.funcs[57]? = some Try.f57 := by kernel_rfl
/-! slices.IndexFunc[[]seismonet/api.Alert,seismonet/api.Alert] -/
def R58_0 : ACode := .reg none [
    ⟨0, none, (some 4), .mov, [.c (.int .i64 0)], []⟩] [0, 1] []
def R58_1 : ACode := .reg none [
    ⟨0, none, (some 6), .mov, [.t 0], []⟩,
    ⟨1, none, (some 7), .len, [.t 6], []⟩,
    ⟨2, none, (some 8), .mov, [.c (.int .i64 0)], []⟩] [0, 1, 7, 8] []
def R58_2 : ACode := .reg none [
    ⟨0, none, (some 9), (.bin .lt), [.t 8, .t 7], []⟩] [0, 1, 7, 8, 9] []
def R58_3 : ACode := .reg none [
    ⟨0, none, (some 10), .mov, [.t 8], []⟩,
    ⟨1, none, (some 5), .mov, [.t 10], []⟩] [0, 1, 5, 7, 8] []
def R58_4 : ACode := .reg none [
    ⟨0, none, (some 11), .mov, [.t 1], []⟩,
    ⟨1, none, (some 12), .mov, [.t 0], []⟩,
    ⟨2, none, (some 13), .mov, [.t 5], []⟩,
    ⟨3, none, (some 14), (.ix 38), [.t 12, .t 13], []⟩,
    ⟨4, none, (some 15), (.ldh 38 true), [.t 14], []⟩,
    ⟨5, none, (some 16), .callv, [.t 11, .t 15], []⟩] [0, 1, 5, 7, 8, 16] []
def R58_5 : ACode := .reg none [
    ⟨0, none, (some 17), .mov, [.t 5], []⟩,
    ⟨1, none, (some 4), .mov, [.t 17], []⟩] [4] []
def R58_6 : ACode := .reg none [
    ⟨0, none, (some 18), (.bin .add), [.t 8, .c (.int .i64 1)], []⟩,
    ⟨1, none, (some 8), .mov, [.t 18], []⟩] [0, 1, 7, 8] []
def R58_7 : ACode := .reg none [
    ⟨0, none, (some 4), .mov, [.c (.int .i64 (-1))], []⟩] [4] []
def C58 : ACode := (.seq R58_0 (.seq (.seq R58_1 (.block 0 (.loop (.seq R58_2 (.seq (.cond (.t 9) .skip (.exit 0)) (.seq (.block 1 (.seq R58_3 (.seq R58_4 (.cond (.t 16) (.seq R58_5 .ret) .skip)))) R58_6)))))) (.seq R58_7 .ret)))
def F58 : AFn := ⟨2, 19, [.tmp 4], C58⟩
theorem ok58 : fnOk Try.prog Try.f58 F58 = true := by kernel_rfl
theorem at58 : Try.prog.funcs[58]? = some Try.f58 := by kernel_rfl
/-! seismonet/seismonetref33.SamePicks -/
def R59_0 : ACode := .reg none [
    ⟨0, none, (some 4), .mov, [.c (.bool false)], []⟩] [0, 1] []
def R59_1 : ACode := .reg none [
    ⟨0, none, (some 6), .mov, [.t 0], []⟩,
    ⟨1, none, (some 7), .len, [.t 6], []⟩,
    ⟨2, none, (some 8), .mov, [.t 1], []⟩,
    ⟨3, none, (some 9), .len, [.t 8], []⟩,
    ⟨4, none, (some 10), (.bin .ne), [.t 7, .t 9], []⟩] [0, 1, 10] []
def R59_2 : ACode := .reg none [
    ⟨0, none, (some 4), .mov, [.c (.bool false)], []⟩] [4] []
def R59_3 : ACode := .reg none [
    ⟨0, none, (some 5), .mov, [.c (.int .i64 0)], []⟩] [0, 1, 5] []
def R59_4 : ACode := .reg none [
    ⟨0, none, (some 11), .mov, [.t 5], []⟩,
    ⟨1, none, (some 12), .mov, [.t 0], []⟩,
    ⟨2, none, (some 13), .len, [.t 12], []⟩,
    ⟨3, none, (some 14), (.bin .lt), [.t 11, .t 13], []⟩] [0, 1, 5, 14] []
def R59_6 : ACode := .reg (some [0, 0, 3, 7, 0, 0, 48, 112, 255]) [
    ⟨0, none, (some 17), .mov, [.t 0], []⟩,
    ⟨1, none, (some 18), .mov, [.t 5], []⟩,
    ⟨2, none, (some 19), (.ix 9), [.t 17, .t 18], []⟩,
    ⟨3, none, (some 20), (.ldh 9 true), [.t 19], []⟩,
    ⟨4, none, (some 21), .mov, [.t 1], []⟩,
    ⟨5, none, (some 22), .mov, [.t 5], []⟩,
    ⟨6, none, (some 23), (.ix 9), [.t 21, .t 22], []⟩,
    ⟨7, none, (some 24), (.ldh 9 true), [.t 23], []⟩,
    ⟨8, none, (some 25), (.eqs true [1, 1, 1, 1, 6, 6, 6, 6, 6]), [.t 20, .t 24], []⟩] [0, 1, 5, 25] []
def R59_7 : ACode := .reg none [
    ⟨0, none, (some 4), .mov, [.c (.bool false)], []⟩] [4] []
def R59_5 : ACode := .reg none [
    ⟨0, none, (some 15), .mov, [.t 5], []⟩,
    ⟨1, none, (some 16), (.bin .add), [.t 15, .c (.int .i64 1)], []⟩,
    ⟨2, none, (some 5), .mov, [.t 16], []⟩] [0, 1, 5] []
def R59_8 : ACode := .reg none [
    ⟨0, none, (some 4), .mov, [.c (.bool true)], []⟩] [4] []
def C59 : ACode := (.seq R59_0 (.seq (.seq R59_1 (.cond (.t 10) (.seq R59_2 .ret) .skip)) (.seq (.seq R59_3 (.block 0 (.loop (.seq (.seq R59_4 (.cond (.t 14) .skip (.exit 0))) (.seq (.block 1 (.seq R59_6 (.cond (.t 25) (.seq R59_7 .ret) .skip))) R59_5))))) (.seq R59_8 .ret))))
def F59 : AFn := ⟨2, 26, [.tmp 4], C59⟩
theorem ok59 : fnOk Try.prog Try.f59 F59 = true := by kernel_rfl
theorem at59 : Try.prog.funcs[59]? = some Try.f59 := by kernel_rfl
/-! seismonet/seismonetref35.Validate -/
def R60_0 : ACode := .reg none [
    ⟨0, none, (some 1), (.boxl 1), [.t 0], []⟩,
    ⟨1, none, (some 2), .mov, [.c (.int .i64 0)], []⟩] [1] [1]
def R60_1 : ACode := .reg none [
    ⟨0, none, (some 5), (.fld 0), [.t 1], []⟩,
    ⟨1, none, (some 6), (.ld 1 false), [.t 5], []⟩,
    ⟨2, none, (some 7), .len, [.t 6], []⟩,
    ⟨3, none, (some 8), (.bin .lt), [.t 7, .c (.int .i64 1)], []⟩,
    ⟨4, none, (some 9), .mov, [.t 8], []⟩,
    ⟨5, (some (9, false)), (some 10), (.fld 0), [.t 1], []⟩,
    ⟨6, (some (9, false)), (some 11), (.ld 1 false), [.t 10], []⟩,
    ⟨7, (some (9, false)), (some 12), .len, [.t 11], []⟩,
    ⟨8, (some (9, false)), (some 13), (.bin .gt), [.t 12, .c (.int .i64 8)], []⟩,
    ⟨9, none, (some 14), .pick, [.t 9, .c (.bool true), .t 13], []⟩,
    ⟨10, none, (some 15), .mov, [.t 14], []⟩,
    ⟨11, (some (15, false)), (some 16), (.fld 1), [.t 1], []⟩,
    ⟨12, (some (15, false)), (some 17), (.ld 1 false), [.t 16], []⟩,
    ⟨13, (some (15, false)), (some 18), (.callp 77), [.t 17], []⟩,
    ⟨14, (some (15, false)), (some 19), .not, [.t 18], []⟩,
    ⟨15, none, (some 20), .pick, [.t 15, .c (.bool true), .t 19], []⟩,
    ⟨16, none, (some 21), .mov, [.t 20], []⟩,
    ⟨17, (some (21, false)), (some 22), (.fld 2), [.t 1], []⟩,
    ⟨18, (some (21, false)), (some 23), (.ld 1 false), [.t 22], []⟩,
    ⟨19, (some (21, false)), (some 24), (.callp 77), [.t 23], []⟩,
    ⟨20, (some (21, false)), (some 25), .not, [.t 24], []⟩,
    ⟨21, none, (some 26), .pick, [.t 21, .c (.bool true), .t 25], []⟩] [1, 26] [1]
def R60_2 : ACode := .reg none [
    ⟨0, none, (some 2), .mov, [.c (.int .i64 27)], []⟩] [2] []
def R60_3 : ACode := .reg none [
    ⟨0, none, (some 3), .mov, [.c (.int .i64 0)], []⟩] [1, 3] [1]
def R60_4 : ACode := .reg none [
    ⟨0, none, (some 27), .mov, [.t 3], []⟩,
    ⟨1, none, (some 28), (.fld 0), [.t 1], []⟩,
    ⟨2, none, (some 29), (.ld 1 false), [.t 28], []⟩,
    ⟨3, none, (some 30), .len, [.t 29], []⟩,
    ⟨4, none, (some 31), (.bin .lt), [.t 27, .t 30], []⟩] [1, 3, 31] [1]
def R60_6 : ACode := .reg none [
    ⟨0, none, (some 34), (.fld 0), [.t 1], []⟩,
    ⟨1, none, (some 35), (.ld 1 false), [.t 34], []⟩,
    ⟨2, none, (some 36), .mov, [.t 3], []⟩,
    ⟨3, none, (some 37), (.ix 4), [.t 35, .t 36], []⟩,
    ⟨4, none, (some 38), (.ldh 4 true), [.t 37], []⟩,
    ⟨5, none, (some 4), (.newl 4 [.int .i64 0, .int .i64 0, .int .i64 0, .int .i64 0]), [], []⟩,
    ⟨6, none, none, (.st 4), [.t 4, .t 38], []⟩] [1, 3, 4] [1, 4]
def R60_7 : ACode := .reg none [
    ⟨0, none, (some 39), (.fld 0), [.t 4], []⟩,
    ⟨1, none, (some 40), (.ld 1 false), [.t 39], []⟩,
    ⟨2, none, (some 41), (.bin .lt), [.t 40, .c (.int .i64 (-1000))], []⟩,
    ⟨3, none, (some 42), .mov, [.t 41], []⟩,
    ⟨4, (some (42, false)), (some 43), (.fld 0), [.t 4], []⟩,
    ⟨5, (some (42, false)), (some 44), (.ld 1 false), [.t 43], []⟩,
    ⟨6, (some (42, false)), (some 45), (.bin .gt), [.t 44, .c (.int .i64 2000)], []⟩,
    ⟨7, none, (some 46), .pick, [.t 42, .c (.bool true), .t 45], []⟩,
    ⟨8, none, (some 47), .mov, [.t 46], []⟩,
    ⟨9, (some (47, false)), (some 48), (.fld 1), [.t 4], []⟩,
    ⟨10, (some (47, false)), (some 49), (.ld 1 false), [.t 48], []⟩,
    ⟨11, (some (47, false)), (some 50), (.bin .lt), [.t 49, .c (.int .i64 1)], []⟩,
    ⟨12, none, (some 51), .pick, [.t 47, .c (.bool true), .t 50], []⟩,
    ⟨13, none, (some 52), .mov, [.t 51], []⟩,
    ⟨14, (some (52, false)), (some 53), (.fld 1), [.t 4], []⟩,
    ⟨15, (some (52, false)), (some 54), (.ld 1 false), [.t 53], []⟩,
    ⟨16, (some (52, false)), (some 55), (.bin .gt), [.t 54, .c (.int .i64 64)], []⟩,
    ⟨17, none, (some 56), .pick, [.t 52, .c (.bool true), .t 55], []⟩,
    ⟨18, none, (some 57), .mov, [.t 56], []⟩,
    ⟨19, (some (57, false)), (some 58), (.fld 2), [.t 4], []⟩,
    ⟨20, (some (57, false)), (some 59), (.ld 1 false), [.t 58], []⟩,
    ⟨21, (some (57, false)), (some 60), (.callp 77), [.t 59], []⟩,
    ⟨22, (some (57, false)), (some 61), .not, [.t 60], []⟩,
    ⟨23, none, (some 62), .pick, [.t 57, .c (.bool true), .t 61], []⟩,
    ⟨24, none, (some 63), .mov, [.t 62], []⟩,
    ⟨25, (some (63, false)), (some 64), (.fld 3), [.t 4], []⟩,
    ⟨26, (some (63, false)), (some 65), (.ld 1 false), [.t 64], []⟩,
    ⟨27, (some (63, false)), (some 66), (.callp 77), [.t 65], []⟩,
    ⟨28, (some (63, false)), (some 67), .not, [.t 66], []⟩,
    ⟨29, none, (some 68), .pick, [.t 63, .c (.bool true), .t 67], []⟩] [1, 3, 68] [1]
def R60_8 : ACode := .reg none [
    ⟨0, none, (some 2), .mov, [.c (.int .i64 27)], []⟩] [2] []
def R60_5 : ACode := .reg none [
    ⟨0, none, (some 32), .mov, [.t 3], []⟩,
    ⟨1, none, (some 33), (.bin .add), [.t 32, .c (.int .i64 1)], []⟩,
    ⟨2, none, (some 3), .mov, [.t 33], []⟩] [1, 3] [1]
def R60_9 : ACode := .reg none [
    ⟨0, none, (some 2), .mov, [.c (.int .i64 0)], []⟩] [2] []
def C60 : ACode := (.seq R60_0 (.seq (.seq R60_1 (.cond (.t 26) (.seq R60_2 .ret) .skip)) (.seq (.seq R60_3 (.block 0 (.loop (.seq (.seq R60_4 (.cond (.t 31) .skip (.exit 0))) (.seq (.block 1 (.seq R60_6 (.seq R60_7 (.cond (.t 68) (.seq R60_8 .ret) .skip)))) R60_5))))) (.seq R60_9 .ret))))
def F60 : AFn := ⟨1, 69, [.tmp 2], C60⟩
theorem ok60 : fnOk Try.prog Try.f60 F60 = true := by kernel_rfl
theorem at60 : Try.prog.funcs[60]? = some Try.f60 := by kernel_rfl
/-! seismonet/seismonetref36.Valid -/
def R61_0 : ACode := .reg none [
    ⟨0, none, (some 2), .mov, [.c (.bool false)], []⟩] [0] []
def R61_1 : ACode := .reg none [
    ⟨0, none, (some 3), .mov, [.c (.int .i64 0)], []⟩] [0, 3] []
def R61_2 : ACode := .reg none [
    ⟨0, none, (some 5), .mov, [.t 3], []⟩,
    ⟨1, none, (some 6), .mov, [.t 0], []⟩,
    ⟨2, none, (some 7), .len, [.t 6], []⟩,
    ⟨3, none, (some 8), (.bin .lt), [.t 5, .t 7], []⟩] [0, 3, 8] []
def R61_4 : ACode := .reg (some [0, 0, 3, 7, 15, 31, 63, 127, 127, 511, 1023, 2047, 4095, 8191, 16383, 32767, 65535, 131071, 262143, 262143, 1048575, 2097151, 4194303, 262143, 262143, 17039359, 58982399, 126091263, 260308991, 536870911, 1073741823, 2147483647, 4294967295, 8589934591, 8589934591, 34359738367, 68719476735, 137438953471, 274877906943, 549755813887, 1099511627775, 2199023255551, 2199023255551, 8796093022207, 17592186044415, 35184372088831, 70368744177663, 140737488355327]) [
    ⟨0, none, (some 11), .mov, [.t 0], []⟩,
    ⟨1, none, (some 12), .mov, [.t 3], []⟩,
    ⟨2, none, (some 13), (.ix 38), [.t 11, .t 12], []⟩,
    ⟨3, none, (some 14), (.fld 0), [.t 13], []⟩,
    ⟨4, none, (some 15), (.ldh 1 false), [.t 14], []⟩,
    ⟨5, none, (some 16), (.bin .lt), [.t 15, .c (.int .i64 0)], []⟩,
    ⟨6, none, (some 17), .mov, [.t 16], []⟩,
    ⟨7, (some (17, false)), (some 18), .mov, [.t 0], []⟩,
    ⟨8, (some (17, false)), (some 19), .mov, [.t 3], []⟩,
    ⟨9, (some (17, false)), (some 20), (.ix 38), [.t 18, .t 19], []⟩,
    ⟨10, (some (17, false)), (some 21), (.fld 0), [.t 20], []⟩,
    ⟨11, (some (17, false)), (some 22), (.ldh 1 false), [.t 21], []⟩,
    ⟨12, (some (17, false)), (some 23), (.bin .ge), [.t 22, .c (.int .i64 1000)], []⟩,
    ⟨13, none, (some 24), .pick, [.t 17, .c (.bool true), .t 23], []⟩,
    ⟨14, none, (some 25), .mov, [.t 24], []⟩,
    ⟨15, (some (25, false)), (some 26), .mov, [.t 3], []⟩,
    ⟨16, (some (25, false)), (some 27), (.bin .gt), [.t 26, .c (.int .i64 0)], []⟩,
    ⟨17, (some (25, false)), (some 28), .mov, [.t 27], []⟩,
    ⟨18, (some (28, true)), (some 29), .mov, [.t 0], []⟩,
    ⟨19, (some (28, true)), (some 30), .mov, [.t 3], []⟩,
    ⟨20, (some (28, true)), (some 31), (.ix 38), [.t 29, .t 30], []⟩,
    ⟨21, (some (28, true)), (some 32), (.fld 0), [.t 31], []⟩,
    ⟨22, (some (28, true)), (some 33), (.ldh 1 false), [.t 32], []⟩,
    ⟨23, (some (28, true)), (some 34), .mov, [.t 0], []⟩,
    ⟨24, (some (28, true)), (some 35), .mov, [.t 3], []⟩,
    ⟨25, (some (28, true)), (some 36), (.bin .sub), [.t 35, .c (.int .i64 1)], []⟩,
    ⟨26, (some (28, true)), (some 37), (.ix 38), [.t 34, .t 36], []⟩,
    ⟨27, (some (28, true)), (some 38), (.fld 0), [.t 37], []⟩,
    ⟨28, (some (28, true)), (some 39), (.ldh 1 false), [.t 38], []⟩,
    ⟨29, (some (28, true)), (some 40), (.bin .le), [.t 33, .t 39], []⟩,
    ⟨30, (some (25, false)), (some 41), .pick, [.t 28, .t 40, .c (.bool false)], []⟩,
    ⟨31, none, (some 42), .pick, [.t 25, .c (.bool true), .t 41], []⟩,
    ⟨32, none, (some 43), .mov, [.t 42], []⟩,
    ⟨33, (some (43, false)), (some 44), .mov, [.t 0], []⟩,
    ⟨34, (some (43, false)), (some 45), .mov, [.t 3], []⟩,
    ⟨35, (some (43, false)), (some 46), (.ix 38), [.t 44, .t 45], []⟩,
    ⟨36, (some (43, false)), (some 47), (.fld 37), [.t 46], []⟩,
    ⟨37, (some (43, false)), (some 48), (.ldh 1 false), [.t 47], []⟩,
    ⟨38, (some (43, false)), (some 49), (.bin .lt), [.t 48, .c (.int .i64 0)], []⟩,
    ⟨39, none, (some 50), .pick, [.t 43, .c (.bool true), .t 49], []⟩,
    ⟨40, none, (some 51), .mov, [.t 50], []⟩,
    ⟨41, (some (51, false)), (some 52), .mov, [.t 0], []⟩,
    ⟨42, (some (51, false)), (some 53), .mov, [.t 3], []⟩,
    ⟨43, (some (51, false)), (some 54), (.ix 38), [.t 52, .t 53], []⟩,
    ⟨44, (some (51, false)), (some 55), (.fld 37), [.t 54], []⟩,
    ⟨45, (some (51, false)), (some 56), (.ldh 1 false), [.t 55], []⟩,
    ⟨46, (some (51, false)), (some 57), (.bin .gt), [.t 56, .c (.int .i64 18014398509481984)], []⟩,
    ⟨47, none, (some 58), .pick, [.t 51, .c (.bool true), .t 57], []⟩] [0, 3, 58] []
def R61_5 : ACode := .reg none [
    ⟨0, none, (some 2), .mov, [.c (.bool false)], []⟩] [2] []
def R61_6 : ACode := .reg none [
    ⟨0, none, (some 4), .mov, [.c (.int .i64 0)], []⟩] [0, 3, 4] []
def R61_7 : ACode := .reg none [
    ⟨0, none, (some 59), .mov, [.t 4], []⟩,
    ⟨1, none, (some 60), .mov, [.t 3], []⟩,
    ⟨2, none, (some 61), (.bin .lt), [.t 59, .t 60], []⟩] [0, 3, 4, 61] []
def R61_9 : ACode := .reg (some [0, 0, 3, 7, 15, 31, 63, 127, 127, 511, 1023, 2047, 4095, 8191, 16383, 32767, 32767, 131071, 262143, 524287, 32767, 32767, 3178495, 7372799, 15761407, 33554431, 67108863]) [
    ⟨0, none, (some 64), .mov, [.t 0], []⟩,
    ⟨1, none, (some 65), .mov, [.t 3], []⟩,
    ⟨2, none, (some 66), (.ix 38), [.t 64, .t 65], []⟩,
    ⟨3, none, (some 67), (.fld 1), [.t 66], []⟩,
    ⟨4, none, (some 68), (.ldh 1 false), [.t 67], []⟩,
    ⟨5, none, (some 69), .not, [.t 68], []⟩,
    ⟨6, none, (some 70), .mov, [.t 69], []⟩,
    ⟨7, (some (70, true)), (some 71), .mov, [.t 0], []⟩,
    ⟨8, (some (70, true)), (some 72), .mov, [.t 4], []⟩,
    ⟨9, (some (70, true)), (some 73), (.ix 38), [.t 71, .t 72], []⟩,
    ⟨10, (some (70, true)), (some 74), (.fld 1), [.t 73], []⟩,
    ⟨11, (some (70, true)), (some 75), (.ldh 1 false), [.t 74], []⟩,
    ⟨12, (some (70, true)), (some 76), .not, [.t 75], []⟩,
    ⟨13, none, (some 77), .pick, [.t 70, .t 76, .c (.bool false)], []⟩,
    ⟨14, none, (some 78), .mov, [.t 77], []⟩,
    ⟨15, (some (78, true)), (some 79), .mov, [.t 0], []⟩,
    ⟨16, (some (78, true)), (some 80), .mov, [.t 3], []⟩,
    ⟨17, (some (78, true)), (some 81), (.ix 38), [.t 79, .t 80], []⟩,
    ⟨18, (some (78, true)), (some 82), (.fld 2), [.t 81], []⟩,
    ⟨19, (some (78, true)), (some 83), (.ldh 9 true), [.t 82], []⟩,
    ⟨20, (some (78, true)), (some 84), .mov, [.t 0], []⟩,
    ⟨21, (some (78, true)), (some 85), .mov, [.t 4], []⟩,
    ⟨22, (some (78, true)), (some 86), (.ix 38), [.t 84, .t 85], []⟩,
    ⟨23, (some (78, true)), (some 87), (.fld 2), [.t 86], []⟩,
    ⟨24, (some (78, true)), (some 88), (.ldh 9 true), [.t 87], []⟩,
    ⟨25, (some (78, true)), (some 89), (.eqs false [1, 1, 1, 1, 6, 6, 6, 6, 6]), [.t 83, .t 88], []⟩,
    ⟨26, none, (some 90), .pick, [.t 78, .t 89, .c (.bool false)], []⟩] [0, 3, 4, 90] []
def R61_10 : ACode := .reg none [
    ⟨0, none, (some 2), .mov, [.c (.bool false)], []⟩] [2] []
def R61_8 : ACode := .reg none [
    ⟨0, none, (some 62), .mov, [.t 4], []⟩,
    ⟨1, none, (some 63), (.bin .add), [.t 62, .c (.int .i64 1)], []⟩,
    ⟨2, none, (some 4), .mov, [.t 63], []⟩] [0, 3, 4] []
def R61_3 : ACode := .reg none [
    ⟨0, none, (some 9), .mov, [.t 3], []⟩,
    ⟨1, none, (some 10), (.bin .add), [.t 9, .c (.int .i64 1)], []⟩,
    ⟨2, none, (some 3), .mov, [.t 10], []⟩] [0, 3] []
def R61_11 : ACode := .reg none [
    ⟨0, none, (some 91), .mov, [.t 0], []⟩,
    ⟨1, none, (some 92), .len, [.t 91], []⟩,
    ⟨2, none, (some 93), (.bin .le), [.t 92, .c (.int .i64 200)], []⟩,
    ⟨3, none, (some 2), .mov, [.t 93], []⟩] [2] []
def C61 : ACode := (.seq R61_0 (.seq (.seq R61_1 (.block 0 (.loop (.seq (.seq R61_2 (.cond (.t 8) .skip (.exit 0))) (.seq (.block 1 (.seq (.seq R61_4 (.cond (.t 58) (.seq R61_5 .ret) .skip)) (.seq R61_6 (.block 2 (.loop (.seq (.seq R61_7 (.cond (.t 61) .skip (.exit 2))) (.seq (.block 3 (.seq R61_9 (.cond (.t 90) (.seq R61_10 .ret) .skip))) R61_8))))))) R61_3))))) (.seq R61_11 .ret)))
def F61 : AFn := ⟨1, 94, [.tmp 2], C61⟩
theorem ok61 : fnOk Try.prog Try.f61 F61 = true := by kernel_rfl
theorem at61 : Try.prog.funcs[61]? = some Try.f61 := by kernel_rfl
/-! seismonet/seismonetref34.Valid -/
def R62_0 : ACode := .reg none [
    ⟨0, none, (some 2), .mov, [.c (.bool false)], []⟩] [0] []
def R62_1 : ACode := .reg none [
    ⟨0, none, (some 3), .mov, [.c (.int .i64 0)], []⟩] [0, 3] []
def R62_2 : ACode := .reg none [
    ⟨0, none, (some 6), .mov, [.t 3], []⟩,
    ⟨1, none, (some 7), .mov, [.t 0], []⟩,
    ⟨2, none, (some 8), .len, [.t 7], []⟩,
    ⟨3, none, (some 9), (.bin .lt), [.t 6, .t 8], []⟩] [0, 3, 9] []
def R62_4 : ACode := .reg none [
    ⟨0, none, (some 12), .mov, [.t 0], []⟩,
    ⟨1, none, (some 13), .mov, [.t 3], []⟩,
    ⟨2, none, (some 14), (.ix 25), [.t 12, .t 13], []⟩,
    ⟨3, none, (some 15), (.fld 9), [.t 14], []⟩,
    ⟨4, none, (some 16), (.fld 0), [.t 15], []⟩,
    ⟨5, none, (some 17), (.ldh 1 false), [.t 16], []⟩,
    ⟨6, none, (some 4), .mov, [.t 17], []⟩] [0, 3, 4] []
def R62_5 : ACode := .reg (some [0, 1, 3, 7, 15, 15, 63, 127, 255, 15, 527, 2047, 4095, 8191, 16383, 16383, 49151, 131071, 262143, 524287, 1048575, 2097151, 4194303, 8388607, 16777215, 16777215, 50331647, 134217727, 268435455, 536870911, 16777215, 16777215, 3238002687, 7532969983, 16122904575, 34359738367, 68719476735, 137438953471, 274877906943]) [
    ⟨0, none, (some 18), .mov, [.t 4], []⟩,
    ⟨1, none, (some 19), .len, [.t 18], []⟩,
    ⟨2, none, (some 20), (.bin .eq), [.t 19, .c (.int .i64 0)], []⟩,
    ⟨3, none, (some 21), .mov, [.t 20], []⟩,
    ⟨4, (some (21, false)), (some 22), .mov, [.t 0], []⟩,
    ⟨5, (some (21, false)), (some 23), .mov, [.t 3], []⟩,
    ⟨6, (some (21, false)), (some 24), (.ix 25), [.t 22, .t 23], []⟩,
    ⟨7, (some (21, false)), (some 25), (.fld 0), [.t 24], []⟩,
    ⟨8, (some (21, false)), (some 26), (.ldh 9 true), [.t 25], []⟩,
    ⟨9, (some (21, false)), (some 27), .mov, [.t 4], []⟩,
    ⟨10, (some (21, false)), (some 28), (.callp 78), [.t 27], []⟩,
    ⟨11, (some (21, false)), (some 29), (.eqs true [1, 1, 1, 1, 6, 6, 6, 6, 6]), [.t 26, .t 28], []⟩,
    ⟨12, none, (some 30), .pick, [.t 21, .c (.bool true), .t 29], []⟩,
    ⟨13, none, (some 31), .mov, [.t 30], []⟩,
    ⟨14, (some (31, false)), (some 32), .mov, [.t 4], []⟩,
    ⟨15, (some (31, false)), (some 33), .mov, [.t 4], []⟩,
    ⟨16, (some (31, false)), (some 34), (.call 79), [.t 33], []⟩,
    ⟨17, (some (31, false)), (some 35), (.callp 59), [.t 32, .t 34], []⟩,
    ⟨18, (some (31, false)), (some 36), .not, [.t 35], []⟩,
    ⟨19, none, (some 37), .pick, [.t 31, .c (.bool true), .t 36], []⟩,
    ⟨20, none, (some 38), .mov, [.t 37], []⟩,
    ⟨21, (some (38, false)), (some 39), .mov, [.t 3], []⟩,
    ⟨22, (some (38, false)), (some 40), (.bin .gt), [.t 39, .c (.int .i64 0)], []⟩,
    ⟨23, (some (38, false)), (some 41), .mov, [.t 40], []⟩,
    ⟨24, (some (41, true)), (some 42), .mov, [.t 0], []⟩,
    ⟨25, (some (41, true)), (some 43), .mov, [.t 3], []⟩,
    ⟨26, (some (41, true)), (some 44), (.bin .sub), [.t 43, .c (.int .i64 1)], []⟩,
    ⟨27, (some (41, true)), (some 45), (.ix 25), [.t 42, .t 44], []⟩,
    ⟨28, (some (41, true)), (some 46), (.fld 0), [.t 45], []⟩,
    ⟨29, (some (41, true)), (some 47), (.ldh 9 true), [.t 46], []⟩,
    ⟨30, (some (41, true)), (some 48), .mov, [.t 0], []⟩,
    ⟨31, (some (41, true)), (some 49), .mov, [.t 3], []⟩,
    ⟨32, (some (41, true)), (some 50), (.ix 25), [.t 48, .t 49], []⟩,
    ⟨33, (some (41, true)), (some 51), (.fld 0), [.t 50], []⟩,
    ⟨34, (some (41, true)), (some 52), (.ldh 9 true), [.t 51], []⟩,
    ⟨35, (some (41, true)), (some 53), (.callp 80), [.t 47, .t 52], []⟩,
    ⟨36, (some (41, true)), (some 54), (.bin .ge), [.t 53, .c (.int .i64 0)], []⟩,
    ⟨37, (some (38, false)), (some 55), .pick, [.t 41, .t 54, .c (.bool false)], []⟩,
    ⟨38, none, (some 56), .pick, [.t 38, .c (.bool true), .t 55], []⟩] [0, 3, 4, 56] []
def R62_6 : ACode := .reg none [
    ⟨0, none, (some 2), .mov, [.c (.bool false)], []⟩] [2] []
def R62_7 : ACode := .reg none [
    ⟨0, none, (some 5), .mov, [.c (.int .i64 0)], []⟩] [0, 3, 4, 5] []
def R62_8 : ACode := .reg none [
    ⟨0, none, (some 57), .mov, [.t 5], []⟩,
    ⟨1, none, (some 58), .mov, [.t 3], []⟩,
    ⟨2, none, (some 59), (.bin .lt), [.t 57, .t 58], []⟩] [0, 3, 4, 5, 59] []
def R62_10 : ACode := .reg none [
    ⟨0, none, (some 62), .mov, [.t 4], []⟩,
    ⟨1, none, (some 63), .mov, [.t 0], []⟩,
    ⟨2, none, (some 64), .mov, [.t 5], []⟩,
    ⟨3, none, (some 65), (.ix 25), [.t 63, .t 64], []⟩,
    ⟨4, none, (some 66), (.fld 9), [.t 65], []⟩,
    ⟨5, none, (some 67), (.fld 0), [.t 66], []⟩,
    ⟨6, none, (some 68), (.ldh 1 false), [.t 67], []⟩,
    ⟨7, none, (some 69), (.callp 81), [.t 62, .t 68], []⟩] [0, 3, 4, 5, 69] []
def R62_11 : ACode := .reg none [
    ⟨0, none, (some 2), .mov, [.c (.bool false)], []⟩] [2] []
def R62_9 : ACode := .reg none [
    ⟨0, none, (some 60), .mov, [.t 5], []⟩,
    ⟨1, none, (some 61), (.bin .add), [.t 60, .c (.int .i64 1)], []⟩,
    ⟨2, none, (some 5), .mov, [.t 61], []⟩] [0, 3, 4, 5] []
def R62_3 : ACode := .reg none [
    ⟨0, none, (some 10), .mov, [.t 3], []⟩,
    ⟨1, none, (some 11), (.bin .add), [.t 10, .c (.int .i64 1)], []⟩,
    ⟨2, none, (some 3), .mov, [.t 11], []⟩] [0, 3] []
def R62_12 : ACode := .reg none [
    ⟨0, none, (some 2), .mov, [.c (.bool true)], []⟩] [2] []
def C62 : ACode := (.seq R62_0 (.seq (.seq R62_1 (.block 0 (.loop (.seq (.seq R62_2 (.cond (.t 9) .skip (.exit 0))) (.seq (.block 1 (.seq R62_4 (.seq (.seq R62_5 (.cond (.t 56) (.seq R62_6 .ret) .skip)) (.seq R62_7 (.block 2 (.loop (.seq (.seq R62_8 (.cond (.t 59) .skip (.exit 2))) (.seq (.block 3 (.seq R62_10 (.cond (.t 69) (.seq R62_11 .ret) .skip))) R62_9)))))))) R62_3))))) (.seq R62_12 .ret)))
def F62 : AFn := ⟨1, 70, [.tmp 2], C62⟩
theorem ok62 : fnOk Try.prog Try.f62 F62 = true := by kernel_rfl
theorem at62 : Try.prog.funcs[62]? = some Try.f62 := by kernel_rfl
/-! seismonet/seismonetref34.Index -/
def R63_0 : ACode := .reg none [
    ⟨0, none, (some 3), (.boxl 3), [.t 1], []⟩,
    ⟨1, none, (some 4), .mov, [.c (.int .i64 0)], []⟩] [0, 3] [3]
def R63_1 : ACode := .reg none [
    ⟨0, none, (some 5), .mov, [.c (.int .i64 0)], []⟩] [0, 3, 5] [3]
def R63_2 : ACode := .reg none [
    ⟨0, none, (some 6), .mov, [.t 5], []⟩,
    ⟨1, none, (some 7), .mov, [.t 0], []⟩,
    ⟨2, none, (some 8), .len, [.t 7], []⟩,
    ⟨3, none, (some 9), (.bin .lt), [.t 6, .t 8], []⟩] [0, 3, 5, 9] [3]
def R63_4 : ACode := .reg (some [0, 0, 3, 7, 15, 0, 63]) [
    ⟨0, none, (some 12), .mov, [.t 0], []⟩,
    ⟨1, none, (some 13), .mov, [.t 5], []⟩,
    ⟨2, none, (some 14), (.ix 25), [.t 12, .t 13], []⟩,
    ⟨3, none, (some 15), (.fld 0), [.t 14], []⟩,
    ⟨4, none, (some 16), (.ldh 9 true), [.t 15], []⟩,
    ⟨5, none, (some 17), (.ld 9 true), [.t 3], []⟩,
    ⟨6, none, (some 18), (.eqs false [1, 1, 1, 1, 6, 6, 6, 6, 6]), [.t 16, .t 17], []⟩] [0, 3, 5, 18] [3]
def R63_5 : ACode := .reg none [
    ⟨0, none, (some 19), .mov, [.t 5], []⟩,
    ⟨1, none, (some 4), .mov, [.t 19], []⟩] [4] []
def R63_3 : ACode := .reg none [
    ⟨0, none, (some 10), .mov, [.t 5], []⟩,
    ⟨1, none, (some 11), (.bin .add), [.t 10, .c (.int .i64 1)], []⟩,
    ⟨2, none, (some 5), .mov, [.t 11], []⟩] [0, 3, 5] [3]
def R63_6 : ACode := .reg none [
    ⟨0, none, (some 4), .mov, [.c (.int .i64 (-1))], []⟩] [4] []
def C63 : ACode := (.seq R63_0 (.seq (.seq R63_1 (.block 0 (.loop (.seq (.seq R63_2 (.cond (.t 9) .skip (.exit 0))) (.seq (.block 1 (.seq R63_4 (.cond (.t 18) (.seq R63_5 .ret) .skip))) R63_3))))) (.seq R63_6 .ret)))
def F63 : AFn := ⟨2, 20, [.tmp 4], C63⟩
theorem ok63 : fnOk Try.prog Try.f63 F63 = true := by kernel_rfl
theorem at63 : Try.prog.funcs[63]? = some Try.f63 := by kernel_rfl
/-! seismonet/seismonetref36.common -/
def R64_0 : ACode := .reg none [
    ⟨0, none, (some 4), .mov, [.c (.bool false)], []⟩] [0, 1] []
def R64_1 : ACode := .reg none [
    ⟨0, none, (some 5), .mov, [.c (.int .i64 0)], []⟩] [0, 1, 5] []
def R64_2 : ACode := .reg none [
    ⟨0, none, (some 7), .mov, [.t 5], []⟩,
    ⟨1, none, (some 8), .mov, [.t 0], []⟩,
    ⟨2, none, (some 9), .len, [.t 8], []⟩,
    ⟨3, none, (some 10), (.bin .lt), [.t 7, .t 9], []⟩] [0, 1, 5, 10] []
def R64_4 : ACode := .reg none [
    ⟨0, none, (some 6), .mov, [.c (.int .i64 0)], []⟩] [0, 1, 5, 6] []
def R64_5 : ACode := .reg none [
    ⟨0, none, (some 13), .mov, [.t 6], []⟩,
    ⟨1, none, (some 14), .mov, [.t 1], []⟩,
    ⟨2, none, (some 15), .len, [.t 14], []⟩,
    ⟨3, none, (some 16), (.bin .lt), [.t 13, .t 15], []⟩] [0, 1, 5, 6, 16] []
def R64_7 : ACode := .reg (some [0, 0, 3, 7, 0, 0, 48, 112, 255]) [
    ⟨0, none, (some 19), .mov, [.t 0], []⟩,
    ⟨1, none, (some 20), .mov, [.t 5], []⟩,
    ⟨2, none, (some 21), (.ix 9), [.t 19, .t 20], []⟩,
    ⟨3, none, (some 22), (.ldh 9 true), [.t 21], []⟩,
    ⟨4, none, (some 23), .mov, [.t 1], []⟩,
    ⟨5, none, (some 24), .mov, [.t 6], []⟩,
    ⟨6, none, (some 25), (.ix 9), [.t 23, .t 24], []⟩,
    ⟨7, none, (some 26), (.ldh 9 true), [.t 25], []⟩,
    ⟨8, none, (some 27), (.eqs false [1, 1, 1, 1, 6, 6, 6, 6, 6]), [.t 22, .t 26], []⟩] [0, 1, 5, 6, 27] []
def R64_8 : ACode := .reg none [
    ⟨0, none, (some 4), .mov, [.c (.bool true)], []⟩] [4] []
def R64_6 : ACode := .reg none [
    ⟨0, none, (some 17), .mov, [.t 6], []⟩,
    ⟨1, none, (some 18), (.bin .add), [.t 17, .c (.int .i64 1)], []⟩,
    ⟨2, none, (some 6), .mov, [.t 18], []⟩] [0, 1, 5, 6] []
def R64_3 : ACode := .reg none [
    ⟨0, none, (some 11), .mov, [.t 5], []⟩,
    ⟨1, none, (some 12), (.bin .add), [.t 11, .c (.int .i64 1)], []⟩,
    ⟨2, none, (some 5), .mov, [.t 12], []⟩] [0, 1, 5] []
def R64_9 : ACode := .reg none [
    ⟨0, none, (some 4), .mov, [.c (.bool false)], []⟩] [4] []
def C64 : ACode := (.seq R64_0 (.seq (.seq R64_1 (.block 0 (.loop (.seq (.seq R64_2 (.cond (.t 10) .skip (.exit 0))) (.seq (.block 1 (.seq R64_4 (.block 2 (.loop (.seq (.seq R64_5 (.cond (.t 16) .skip (.exit 2))) (.seq (.block 3 (.seq R64_7 (.cond (.t 27) (.seq R64_8 .ret) .skip))) R64_6)))))) R64_3))))) (.seq R64_9 .ret)))
def F64 : AFn := ⟨2, 28, [.tmp 4], C64⟩
theorem ok64 : fnOk Try.prog Try.f64 F64 = true := by kernel_rfl
theorem at64 : Try.prog.funcs[64]? = some Try.f64 := by kernel_rfl
/-! seismonet/seismonetref35.Meets -/
def R65_0 : ACode := .reg none [
    ⟨0, none, (some 2), (.boxl 2), [.t 0], []⟩,
    ⟨1, none, (some 3), (.boxl 3), [.t 1], []⟩,
    ⟨2, none, (some 4), .mov, [.c (.bool false)], []⟩] [2, 3] [2, 3]
def R65_1 : ACode := .reg none [
    ⟨0, none, (some 6), (.fld 9), [.t 3], []⟩,
    ⟨1, none, (some 7), (.ld 16 true), [.t 6], []⟩,
    ⟨2, none, (some 5), (.newl 5 [.nils, .int .i64 0, .int .i64 0, .int .i64 0, .int .i64 0, .int .i64 0, .int .i64 0, .int .i64 0, .int .i64 0, .int .i64 0, .int .i64 0, .int .i64 0, .int .i64 0, .int .i64 0, .int .i64 0, .int .i64 0]), [], []⟩,
    ⟨3, none, none, (.st 16), [.t 5, .t 7], []⟩] [2, 5] [2, 5]
def R65_2 : ACode := .reg none [
    ⟨0, none, (some 8), (.fld 15), [.t 5], []⟩,
    ⟨1, none, (some 9), (.ld 1 false), [.t 8], []⟩,
    ⟨2, none, (some 10), (.bin .ge), [.t 9, .c (.int .i64 1)], []⟩,
    ⟨3, none, (some 11), .mov, [.t 10], []⟩,
    ⟨4, (some (11, true)), (some 12), (.fld 13), [.t 5], []⟩,
    ⟨5, (some (11, true)), (some 13), (.fld 0), [.t 12], []⟩,
    ⟨6, (some (11, true)), (some 14), (.ld 1 false), [.t 13], []⟩,
    ⟨7, (some (11, true)), (some 15), (.fld 0), [.t 2], []⟩,
    ⟨8, (some (11, true)), (some 16), (.ld 1 false), [.t 15], []⟩,
    ⟨9, (some (11, true)), (some 17), (.bin .ge), [.t 14, .t 16], []⟩,
    ⟨10, none, (some 18), .pick, [.t 11, .t 17, .c (.bool false)], []⟩,
    ⟨11, none, (some 19), .mov, [.t 18], []⟩,
    ⟨12, (some (19, true)), (some 20), (.fld 0), [.t 5], []⟩,
    ⟨13, (some (19, true)), (some 21), (.ld 1 false), [.t 20], []⟩,
    ⟨14, (some (19, true)), (some 22), .len, [.t 21], []⟩,
    ⟨15, (some (19, true)), (some 23), (.fld 1), [.t 2], []⟩,
    ⟨16, (some (19, true)), (some 24), (.ld 1 false), [.t 23], []⟩,
    ⟨17, (some (19, true)), (some 25), (.bin .ge), [.t 22, .t 24], []⟩,
    ⟨18, none, (some 26), .pick, [.t 19, .t 25, .c (.bool false)], []⟩,
    ⟨19, none, (some 27), .mov, [.t 26], []⟩,
    ⟨20, (some (27, true)), (some 28), (.fld 1), [.t 5], []⟩,
    ⟨21, (some (27, true)), (some 29), (.fld 4), [.t 28], []⟩,
    ⟨22, (some (27, true)), (some 30), (.ld 1 false), [.t 29], []⟩,
    ⟨23, (some (27, true)), (some 31), (.fld 2), [.t 2], []⟩,
    ⟨24, (some (27, true)), (some 32), (.ld 1 false), [.t 31], []⟩,
    ⟨25, (some (27, true)), (some 33), (.bin .le), [.t 30, .t 32], []⟩,
    ⟨26, none, (some 34), .pick, [.t 27, .t 33, .c (.bool false)], []⟩,
    ⟨27, none, (some 4), .mov, [.t 34], []⟩] [4] []
def C65 : ACode := (.seq R65_0 (.seq R65_1 (.seq R65_2 .ret)))
def F65 : AFn := ⟨2, 35, [.tmp 4], C65⟩
theorem ok65 : fnOk Try.prog Try.f65 F65 = true := by kernel_rfl
theorem at65 : Try.prog.funcs[65]? = some Try.f65 := by kernel_rfl
/-! seismonet/seismonetref32.Agree -/
def R66_0 : ACode := .reg none [
    ⟨0, none, (some 2), (.boxl 2), [.t 0], []⟩,
    ⟨1, none, (some 3), (.boxl 3), [.t 1], []⟩,
    ⟨2, none, (some 4), .mov, [.c (.bool false)], []⟩] [2, 3] [2, 3]
def R66_1 : ACode := .reg none [
    ⟨0, none, (some 5), (.fld 0), [.t 2], []⟩,
    ⟨1, none, (some 6), (.ld 1 false), [.t 5], []⟩,
    ⟨2, none, (some 7), (.fld 0), [.t 3], []⟩,
    ⟨3, none, (some 8), (.ld 1 false), [.t 7], []⟩,
    ⟨4, none, (some 9), .mx, [.t 6, .t 8], []⟩,
    ⟨5, none, (some 10), (.fld 1), [.t 2], []⟩,
    ⟨6, none, (some 11), (.ld 1 false), [.t 10], []⟩,
    ⟨7, none, (some 12), (.fld 1), [.t 3], []⟩,
    ⟨8, none, (some 13), (.ld 1 false), [.t 12], []⟩,
    ⟨9, none, (some 14), .mn, [.t 11, .t 13], []⟩,
    ⟨10, none, (some 15), (.bin .le), [.t 9, .t 14], []⟩,
    ⟨11, none, (some 4), .mov, [.t 15], []⟩] [4] []
def C66 : ACode := (.seq R66_0 (.seq R66_1 .ret))
def F66 : AFn := ⟨2, 16, [.tmp 4], C66⟩
theorem ok66 : fnOk Try.prog Try.f66 F66 = true := by kernel_rfl
theorem at66 : Try.prog.funcs[66]? = some Try.f66 := by kernel_rfl
/-! seismonet/seismonetref24.Square -/
def R67_0 : ACode := .reg none [
    ⟨0, none, (some 2), (.boxl 2), [.t 0], []⟩,
    ⟨1, none, (some 3), (.boxl 3), [.t 1], []⟩,
    ⟨2, none, (some 4), .mov, [.c (.int .i64 0)], []⟩] [2, 3] [2, 3]
def R67_1 : ACode := .reg none [
    ⟨0, none, (some 5), (.ld 3 true), [.t 2], []⟩,
    ⟨1, none, (some 6), (.callp 82), [.t 5], []⟩,
    ⟨2, none, (some 7), .not, [.t 6], []⟩,
    ⟨3, none, (some 8), .mov, [.t 7], []⟩,
    ⟨4, (some (8, false)), (some 9), (.ld 3 true), [.t 3], []⟩,
    ⟨5, (some (8, false)), (some 10), (.callp 82), [.t 9], []⟩,
    ⟨6, (some (8, false)), (some 11), .not, [.t 10], []⟩,
    ⟨7, none, (some 12), .pick, [.t 8, .c (.bool true), .t 11], []⟩] [2, 3, 12] [2, 3]
def R67_2 : ACode := .reg none [
    ⟨0, none, (some 4), .mov, [.c (.int .i64 0)], []⟩] [4] []
def R67_3 : ACode := .reg (some [0, 1, 0, 4, 15, 31, 0, 64, 0, 256, 960, 2047, 4095, 0, 8192, 0, 32768, 122880, 258047, 524287, 1048575]) [
    ⟨0, none, (some 13), (.fld 0), [.t 2], []⟩,
    ⟨1, none, (some 14), (.ld 1 false), [.t 13], []⟩,
    ⟨2, none, (some 15), (.fld 0), [.t 3], []⟩,
    ⟨3, none, (some 16), (.ld 1 false), [.t 15], []⟩,
    ⟨4, none, (some 17), (.bin .sub), [.t 14, .t 16], []⟩,
    ⟨6, none, (some 19), (.fld 1), [.t 2], []⟩,
    ⟨7, none, (some 20), (.ld 1 false), [.t 19], []⟩,
    ⟨8, none, (some 21), (.fld 1), [.t 3], []⟩,
    ⟨9, none, (some 22), (.ld 1 false), [.t 21], []⟩,
    ⟨10, none, (some 23), (.bin .sub), [.t 20, .t 22], []⟩,
    ⟨13, none, (some 26), (.fld 2), [.t 2], []⟩,
    ⟨14, none, (some 27), (.ld 1 false), [.t 26], []⟩,
    ⟨15, none, (some 28), (.fld 2), [.t 3], []⟩,
    ⟨16, none, (some 29), (.ld 1 false), [.t 28], []⟩,
    ⟨17, none, (some 30), (.bin .sub), [.t 27, .t 29], []⟩,
    ⟨5, none, (some 18), (.callp 83), [.t 17], []⟩,
    ⟨11, none, (some 24), (.callp 83), [.t 23], []⟩,
    ⟨12, none, (some 25), (.bin .add), [.t 18, .t 24], []⟩,
    ⟨18, none, (some 31), (.callp 83), [.t 30], []⟩,
    ⟨19, none, (some 32), (.bin .add), [.t 25, .t 31], []⟩,
    ⟨20, none, (some 4), .mov, [.t 32], []⟩] [4] []
def C67 : ACode := (.seq R67_0 (.seq (.seq R67_1 (.cond (.t 12) (.seq R67_2 .ret) .skip)) (.seq R67_3 .ret)))
def F67 : AFn := ⟨2, 33, [.tmp 4], C67⟩
theorem ok67 : fnOk Try.prog Try.f67 F67 = true := by kernel_rfl
theorem at67 : Try.prog.funcs[67]? = some Try.f67 := by kernel_rfl
/-! seismonet/rule.valid -/
def R68_0 : ACode := .reg none [
    ⟨0, none, (some 1), (.boxl 1), [.t 0], []⟩,
    ⟨1, none, (some 2), .mov, [.c (.bool false)], []⟩] [1] [1]
def R68_1 : ACode := .reg none [
    ⟨0, none, (some 3), (.fld 0), [.t 1], []⟩,
    ⟨1, none, (some 4), (.ld 1 false), [.t 3], []⟩,
    ⟨2, none, (some 5), (.bin .ge), [.t 4, .c (.int .i64 (-1000))], []⟩,
    ⟨3, none, (some 6), .mov, [.t 5], []⟩,
    ⟨4, (some (6, true)), (some 7), (.fld 0), [.t 1], []⟩,
    ⟨5, (some (6, true)), (some 8), (.ld 1 false), [.t 7], []⟩,
    ⟨6, (some (6, true)), (some 9), (.bin .le), [.t 8, .c (.int .i64 2000)], []⟩,
    ⟨7, none, (some 10), .pick, [.t 6, .t 9, .c (.bool false)], []⟩,
    ⟨8, none, (some 11), .mov, [.t 10], []⟩,
    ⟨9, (some (11, true)), (some 12), (.fld 1), [.t 1], []⟩,
    ⟨10, (some (11, true)), (some 13), (.ld 1 false), [.t 12], []⟩,
    ⟨11, (some (11, true)), (some 14), (.bin .ge), [.t 13, .c (.int .i64 1)], []⟩,
    ⟨12, none, (some 15), .pick, [.t 11, .t 14, .c (.bool false)], []⟩,
    ⟨13, none, (some 16), .mov, [.t 15], []⟩,
    ⟨14, (some (16, true)), (some 17), (.fld 1), [.t 1], []⟩,
    ⟨15, (some (16, true)), (some 18), (.ld 1 false), [.t 17], []⟩,
    ⟨16, (some (16, true)), (some 19), (.bin .le), [.t 18, .c (.int .i64 64)], []⟩,
    ⟨17, none, (some 20), .pick, [.t 16, .t 19, .c (.bool false)], []⟩,
    ⟨18, none, (some 21), .mov, [.t 20], []⟩,
    ⟨19, (some (21, true)), (some 22), (.fld 2), [.t 1], []⟩,
    ⟨20, (some (21, true)), (some 23), (.ld 1 false), [.t 22], []⟩,
    ⟨21, (some (21, true)), (some 24), (.fld 3), [.t 1], []⟩,
    ⟨22, (some (21, true)), (some 25), (.ld 1 false), [.t 24], []⟩,
    ⟨23, (some (21, true)), (some 26), .mn, [.t 23, .t 25], []⟩,
    ⟨24, (some (21, true)), (some 27), (.bin .ge), [.t 26, .c (.int .i64 0)], []⟩,
    ⟨25, none, (some 28), .pick, [.t 21, .t 27, .c (.bool false)], []⟩,
    ⟨26, none, (some 29), .mov, [.t 28], []⟩,
    ⟨27, (some (29, true)), (some 30), (.fld 2), [.t 1], []⟩,
    ⟨28, (some (29, true)), (some 31), (.ld 1 false), [.t 30], []⟩,
    ⟨29, (some (29, true)), (some 32), (.fld 3), [.t 1], []⟩,
    ⟨30, (some (29, true)), (some 33), (.ld 1 false), [.t 32], []⟩,
    ⟨31, (some (29, true)), (some 34), .mx, [.t 31, .t 33], []⟩,
    ⟨32, (some (29, true)), (some 35), (.bin .le), [.t 34, .c (.int .i64 9007199254740992)], []⟩,
    ⟨33, none, (some 36), .pick, [.t 29, .t 35, .c (.bool false)], []⟩,
    ⟨34, none, (some 2), .mov, [.t 36], []⟩] [2] []
def C68 : ACode := (.seq R68_0 (.seq R68_1 .ret))
def F68 : AFn := ⟨1, 37, [.tmp 2], C68⟩
theorem ok68 : fnOk Try.prog Try.f68 F68 = true := by kernel_rfl
theorem at68 : Try.prog.funcs[68]? = some Try.f68 := by kernel_rfl
/-! seismonet/event.sorted -/
def R69_0 : ACode := .reg none [
    ⟨0, none, (some 2), .mov, [.c (.bool false)], []⟩] [0] []
def R69_1 : ACode := .reg none [
    ⟨0, none, (some 3), .mov, [.c (.int .i64 1)], []⟩] [0, 3] []
def R69_2 : ACode := .reg none [
    ⟨0, none, (some 4), .mov, [.t 3], []⟩,
    ⟨1, none, (some 5), .mov, [.t 0], []⟩,
    ⟨2, none, (some 6), .len, [.t 5], []⟩,
    ⟨3, none, (some 7), (.bin .lt), [.t 4, .t 6], []⟩] [0, 3, 7] []
def R69_4 : ACode := .reg (some [0, 0, 2, 7, 15, 0, 0, 96, 224, 511, 1023]) [
    ⟨0, none, (some 10), .mov, [.t 0], []⟩,
    ⟨1, none, (some 11), .mov, [.t 3], []⟩,
    ⟨2, none, (some 12), (.bin .sub), [.t 11, .c (.int .i64 1)], []⟩,
    ⟨3, none, (some 13), (.ix 9), [.t 10, .t 12], []⟩,
    ⟨4, none, (some 14), (.ldh 9 true), [.t 13], []⟩,
    ⟨5, none, (some 15), .mov, [.t 0], []⟩,
    ⟨6, none, (some 16), .mov, [.t 3], []⟩,
    ⟨7, none, (some 17), (.ix 9), [.t 15, .t 16], []⟩,
    ⟨8, none, (some 18), (.ldh 9 true), [.t 17], []⟩,
    ⟨9, none, (some 19), (.callp 84), [.t 14, .t 18], []⟩,
    ⟨10, none, (some 20), (.bin .ge), [.t 19, .c (.int .i64 0)], []⟩] [0, 3, 20] []
def R69_5 : ACode := .reg none [
    ⟨0, none, (some 2), .mov, [.c (.bool false)], []⟩] [2] []
def R69_3 : ACode := .reg none [
    ⟨0, none, (some 8), .mov, [.t 3], []⟩,
    ⟨1, none, (some 9), (.bin .add), [.t 8, .c (.int .i64 1)], []⟩,
    ⟨2, none, (some 3), .mov, [.t 9], []⟩] [0, 3] []
def R69_6 : ACode := .reg none [
    ⟨0, none, (some 2), .mov, [.c (.bool true)], []⟩] [2] []
def C69 : ACode := (.seq R69_0 (.seq (.seq R69_1 (.block 0 (.loop (.seq (.seq R69_2 (.cond (.t 7) .skip (.exit 0))) (.seq (.block 1 (.seq R69_4 (.cond (.t 20) (.seq R69_5 .ret) .skip))) R69_3))))) (.seq R69_6 .ret)))
def F69 : AFn := ⟨1, 21, [.tmp 2], C69⟩
theorem ok69 : fnOk Try.prog Try.f69 F69 = true := by kernel_rfl
theorem at69 : Try.prog.funcs[69]? = some Try.f69 := by kernel_rfl
/-! seismonet/event.name -/
def R70_0 : ACode := .reg none [
    ⟨0, none, (some 2), (.newl 2 [.str ⟨#[]⟩, .str ⟨#[]⟩, .str ⟨#[]⟩, .str ⟨#[]⟩, .int .i64 0, .int .i64 0, .int .i64 0, .int .i64 0, .int .i64 0]), [], []⟩] [0, 2] [2]
def R70_1 : ACode := .reg none [
    ⟨0, none, (some 3), .mov, [.t 0], []⟩,
    ⟨1, none, (some 4), .len, [.t 3], []⟩,
    ⟨2, none, (some 5), (.bin .eq), [.t 4, .c (.int .i64 0)], []⟩] [0, 2, 5] [2]
def R70_2 : ACode := .reg none [
    ⟨0, none, (some 6), (.build [.str ⟨#[]⟩, .str ⟨#[]⟩, .str ⟨#[]⟩, .str ⟨#[]⟩, .int .i64 0, .int .i64 0, .int .i64 0, .int .i64 0, .int .i64 0] []), [], []⟩,
    ⟨1, none, none, (.st 9), [.t 2, .t 6], []⟩] [2] [2]
def R70_3 : ACode := .reg none [
    ⟨0, none, (some 7), .mov, [.t 0], []⟩,
    ⟨1, none, (some 8), (.callp 85), [.t 7, .f 71], []⟩,
    ⟨2, none, none, (.st 9), [.t 2, .t 8], []⟩] [2] [2]
def C70 : ACode := (.seq R70_0 (.seq (.seq R70_1 (.cond (.t 5) (.seq R70_2 .ret) .skip)) (.seq R70_3 .ret)))
def F70 : AFn := ⟨1, 9, [.cell 2 9 true false], C70⟩
theorem ok70 : fnOk Try.prog Try.f70 F70 = true := by kernel_rfl
theorem at70 : Try.prog.funcs[70]? = some Try.f70 := by kernel_rfl
/-! seismonet/event.Compare -/
def R71_0 : ACode := .reg none [
    ⟨0, none, (some 2), (.boxl 2), [.t 0], []⟩,
    ⟨1, none, (some 3), (.boxl 3), [.t 1], []⟩,
    ⟨2, none, (some 4), .mov, [.c (.int .i64 0)], []⟩] [2, 3] [2, 3]
def R71_1 : ACode := .reg (some [0, 1, 0, 4, 15, 0, 0, 127, 255, 511, 1023]) [
    ⟨0, none, (some 5), (.fld 4), [.t 2], []⟩,
    ⟨1, none, (some 6), (.ld 1 false), [.t 5], []⟩,
    ⟨2, none, (some 7), (.fld 4), [.t 3], []⟩,
    ⟨3, none, (some 8), (.ld 1 false), [.t 7], []⟩,
    ⟨5, none, (some 10), (.ld 9 true), [.t 2], []⟩,
    ⟨6, none, (some 11), (.ld 9 true), [.t 3], []⟩,
    ⟨4, none, (some 9), (.callp 87), [.t 6, .t 8], []⟩,
    ⟨7, none, (some 12), (.callp 84), [.t 10, .t 11], []⟩,
    ⟨8, none, (some 13), (.bslice 2 1 [.int .i64 0] [0, 1]), [.t 9, .t 12], []⟩,
    ⟨9, none, (some 14), (.callp 86), [.t 13], []⟩,
    ⟨10, none, (some 4), .mov, [.t 14], []⟩] [4] []
def C71 : ACode := (.seq R71_0 (.seq R71_1 .ret))
def F71 : AFn := ⟨2, 15, [.tmp 4], C71⟩
theorem ok71 : fnOk Try.prog Try.f71 F71 = true := by kernel_rfl
theorem at71 : Try.prog.funcs[71]? = some Try.f71 := by kernel_rfl
/-! slices.Backward[[]seismonet/api.Rule,seismonet/api.Rule]$1 -/
def R72_0 : ACode := .reg none [
    ⟨0, none, (some 4), (.ldh 1 false), [.t 1], []⟩,
    ⟨1, none, (some 5), .len, [.t 4], []⟩,
    ⟨2, none, (some 6), (.bin .sub), [.t 5, .c (.int .i64 1)], []⟩,
    ⟨3, none, (some 3), .mov, [.t 6], []⟩] [0, 1, 3] []
def R72_1 : ACode := .reg none [
    ⟨0, none, (some 7), .mov, [.t 3], []⟩,
    ⟨1, none, (some 8), (.bin .ge), [.t 7, .c (.int .i64 0)], []⟩] [0, 1, 3, 8] []
def R72_3 : ACode := .reg none [
    ⟨0, none, (some 11), .mov, [.t 0], []⟩,
    ⟨1, none, (some 12), .mov, [.t 3], []⟩,
    ⟨2, none, (some 13), (.ldh 1 false), [.t 1], []⟩,
    ⟨3, none, (some 14), .mov, [.t 3], []⟩,
    ⟨4, none, (some 15), (.ix 4), [.t 13, .t 14], []⟩,
    ⟨5, none, (some 16), (.ldh 4 true), [.t 15], []⟩,
    ⟨6, none, (some 17), .callv, [.t 11, .t 12, .t 16], []⟩,
    ⟨7, none, (some 18), .not, [.t 17], []⟩] [0, 1, 3, 18] []
def R72_2 : ACode := .reg none [
    ⟨0, none, (some 9), .mov, [.t 3], []⟩,
    ⟨1, none, (some 10), (.bin .sub), [.t 9, .c (.int .i64 1)], []⟩,
    ⟨2, none, (some 3), .mov, [.t 10], []⟩] [0, 1, 3] []
def C72 : ACode := (.seq R72_0 (.block 0 (.loop (.seq (.seq R72_1 (.cond (.t 8) .skip (.exit 0))) (.seq (.block 1 (.seq R72_3 (.cond (.t 18) .ret .skip))) R72_2)))))
def F72 : AFn := ⟨2, 19, [], C72⟩
theorem ok72 : fnOk Try.prog Try.f72 F72 = true := by kernel_rfl
theorem at72 : Try.prog.funcs[72]? = some Try.f72 := by kernel_rfl
/-! seismonet/geometry.Valid -/
def R73_0 : ACode := .reg none [
    ⟨0, none, (some 1), (.boxl 1), [.t 0], []⟩,
    ⟨1, none, (some 2), .mov, [.c (.bool false)], []⟩] [1] [1]
def R73_1 : ACode := .reg none [
    ⟨0, none, (some 6), (.build [.int .i64 0, .int .i64 0, .int .i64 0] [(0, 1), (1, 1), (2, 1)]), [.c (.int .i64 (-1048576)), .c (.int .i64 (-1048576)), .c (.int .i64 (-16384))], []⟩,
    ⟨1, none, (some 3), (.newl 3 [.int .i64 0, .int .i64 0, .int .i64 0]), [], []⟩,
    ⟨2, none, none, (.st 3), [.t 3, .t 6], []⟩] [1, 3] [1, 3]
def R73_2 : ACode := .reg none [
    ⟨0, none, (some 7), (.ld 3 true), [.t 1], []⟩,
    ⟨1, none, (some 8), (.callp 74), [.t 7], []⟩,
    ⟨2, none, (some 9), .mov, [.c (.int .i64 0)], []⟩] [3, 8, 9] [3]
def R73_3 : ACode := .reg none [
    ⟨0, none, (some 10), (.bin .lt), [.t 9, .c (.int .i64 3)], []⟩] [3, 8, 9, 10] [3]
def R73_4 : ACode := .reg none [
    ⟨0, none, (some 11), .mov, [.t 9], []⟩,
    ⟨1, none, (some 12), (.ixv 3 1 false), [.t 8, .t 9], []⟩,
    ⟨2, none, (some 4), .mov, [.t 11], []⟩,
    ⟨3, none, (some 5), .mov, [.t 12], []⟩] [3, 4, 5, 8, 9] [3]
def R73_5 : ACode := .reg none [
    ⟨0, none, (some 13), .mov, [.t 5], []⟩,
    ⟨1, none, (some 14), .mov, [.t 4], []⟩,
    ⟨2, none, (some 15), (.ixa 3 1), [.t 3, .t 14], []⟩,
    ⟨3, none, (some 16), (.ld 1 false), [.t 15], []⟩,
    ⟨4, none, (some 17), (.bin .lt), [.t 13, .t 16], []⟩,
    ⟨5, none, (some 18), .mov, [.t 17], []⟩,
    ⟨6, (some (18, false)), (some 19), .mov, [.t 5], []⟩,
    ⟨7, (some (18, false)), (some 20), (.bin .gt), [.t 19, .c (.int .i64 1048576)], []⟩,
    ⟨8, none, (some 21), .pick, [.t 18, .c (.bool true), .t 20], []⟩] [3, 8, 9, 21] [3]
def R73_6 : ACode := .reg none [
    ⟨0, none, (some 2), .mov, [.c (.bool false)], []⟩] [2] []
def R73_7 : ACode := .reg none [
    ⟨0, none, (some 22), (.bin .add), [.t 9, .c (.int .i64 1)], []⟩,
    ⟨1, none, (some 9), .mov, [.t 22], []⟩] [3, 8, 9] [3]
def R73_8 : ACode := .reg none [
    ⟨0, none, (some 2), .mov, [.c (.bool true)], []⟩] [2] []
def C73 : ACode := (.seq R73_0 (.seq R73_1 (.seq (.seq R73_2 (.block 0 (.loop (.seq R73_3 (.seq (.cond (.t 10) .skip (.exit 0)) (.seq (.block 1 (.seq R73_4 (.seq R73_5 (.cond (.t 21) (.seq R73_6 .ret) .skip)))) R73_7)))))) (.seq R73_8 .ret))))
def F73 : AFn := ⟨1, 23, [.tmp 2], C73⟩
theorem ok73 : fnOk Try.prog Try.f73 F73 = true := by kernel_rfl
theorem at73 : Try.prog.funcs[73]? = some Try.f73 := by kernel_rfl
/-! seismonet/geometry.of -/
def R74_0 : ACode := .reg none [
    ⟨0, none, (some 1), (.boxl 1), [.t 0], []⟩,
    ⟨1, none, (some 2), (.newl 2 [.int .i64 0, .int .i64 0, .int .i64 0]), [], []⟩] [1, 2] [1, 2]
def R74_1 : ACode := .reg none [
    ⟨0, none, (some 3), (.fld 0), [.t 1], []⟩,
    ⟨1, none, (some 4), (.ld 1 false), [.t 3], []⟩,
    ⟨2, none, (some 5), (.fld 1), [.t 1], []⟩,
    ⟨3, none, (some 6), (.ld 1 false), [.t 5], []⟩,
    ⟨4, none, (some 7), (.fld 2), [.t 1], []⟩,
    ⟨5, none, (some 8), (.ld 1 false), [.t 7], []⟩,
    ⟨6, none, (some 9), (.build [.int .i64 0, .int .i64 0, .int .i64 0] [(0, 1), (1, 1), (2, 1)]), [.t 4, .t 6, .t 8], []⟩,
    ⟨7, none, none, (.st 3), [.t 2, .t 9], []⟩] [2] [2]
def C74 : ACode := (.seq R74_0 (.seq R74_1 .ret))
def F74 : AFn := ⟨1, 10, [.cell 2 3 true false], C74⟩
theorem ok74 : fnOk Try.prog Try.f74 F74 = true := by kernel_rfl
theorem at74 : Try.prog.funcs[74]? = some Try.f74 := by kernel_rfl
/-! slices.IndexFunc[[]seismonet/api.Pick,seismonet/api.Pick] -/
def R75_0 : ACode := .reg none [
    ⟨0, none, (some 4), .mov, [.c (.int .i64 0)], []⟩] [0, 1] []
def R75_1 : ACode := .reg none [
    ⟨0, none, (some 6), .mov, [.t 0], []⟩,
    ⟨1, none, (some 7), .len, [.t 6], []⟩,
    ⟨2, none, (some 8), .mov, [.c (.int .i64 0)], []⟩] [0, 1, 7, 8] []
def R75_2 : ACode := .reg none [
    ⟨0, none, (some 9), (.bin .lt), [.t 8, .t 7], []⟩] [0, 1, 7, 8, 9] []
def R75_3 : ACode := .reg none [
    ⟨0, none, (some 10), .mov, [.t 8], []⟩,
    ⟨1, none, (some 5), .mov, [.t 10], []⟩] [0, 1, 5, 7, 8] []
def R75_4 : ACode := .reg none [
    ⟨0, none, (some 11), .mov, [.t 1], []⟩,
    ⟨1, none, (some 12), .mov, [.t 0], []⟩,
    ⟨2, none, (some 13), .mov, [.t 5], []⟩,
    ⟨3, none, (some 14), (.ix 9), [.t 12, .t 13], []⟩,
    ⟨4, none, (some 15), (.ldh 9 true), [.t 14], []⟩,
    ⟨5, none, (some 16), .callv, [.t 11, .t 15], []⟩] [0, 1, 5, 7, 8, 16] []
def R75_5 : ACode := .reg none [
    ⟨0, none, (some 17), .mov, [.t 5], []⟩,
    ⟨1, none, (some 4), .mov, [.t 17], []⟩] [4] []
def R75_6 : ACode := .reg none [
    ⟨0, none, (some 18), (.bin .add), [.t 8, .c (.int .i64 1)], []⟩,
    ⟨1, none, (some 8), .mov, [.t 18], []⟩] [0, 1, 7, 8] []
def R75_7 : ACode := .reg none [
    ⟨0, none, (some 4), .mov, [.c (.int .i64 (-1))], []⟩] [4] []
def C75 : ACode := (.seq R75_0 (.seq (.seq R75_1 (.block 0 (.loop (.seq R75_2 (.seq (.cond (.t 9) .skip (.exit 0)) (.seq (.block 1 (.seq R75_3 (.seq R75_4 (.cond (.t 16) (.seq R75_5 .ret) .skip)))) R75_6)))))) (.seq R75_7 .ret)))
def F75 : AFn := ⟨2, 19, [.tmp 4], C75⟩
theorem ok75 : fnOk Try.prog Try.f75 F75 = true := by kernel_rfl
theorem at75 : Try.prog.funcs[75]? = some Try.f75 := by kernel_rfl
/-! slices.Index[[]seismonet/api.Pick,seismonet/api.Pick] -/
def R76_0 : ACode := .reg none [
    ⟨0, none, (some 3), (.boxl 3), [.t 1], []⟩,
    ⟨1, none, (some 4), .mov, [.c (.int .i64 0)], []⟩] [0, 3] [3]
def R76_1 : ACode := .reg none [
    ⟨0, none, (some 6), .mov, [.t 0], []⟩,
    ⟨1, none, (some 7), .len, [.t 6], []⟩,
    ⟨2, none, (some 8), .mov, [.c (.int .i64 0)], []⟩] [0, 3, 7, 8] [3]
def R76_2 : ACode := .reg none [
    ⟨0, none, (some 9), (.bin .lt), [.t 8, .t 7], []⟩] [0, 3, 7, 8, 9] [3]
def R76_3 : ACode := .reg none [
    ⟨0, none, (some 10), .mov, [.t 8], []⟩,
    ⟨1, none, (some 5), .mov, [.t 10], []⟩] [0, 3, 5, 7, 8] [3]
def R76_4 : ACode := .reg (some [0, 0, 0, 6, 14, 31]) [
    ⟨0, none, (some 11), (.ld 9 true), [.t 3], []⟩,
    ⟨1, none, (some 12), .mov, [.t 0], []⟩,
    ⟨2, none, (some 13), .mov, [.t 5], []⟩,
    ⟨3, none, (some 14), (.ix 9), [.t 12, .t 13], []⟩,
    ⟨4, none, (some 15), (.ldh 9 true), [.t 14], []⟩,
    ⟨5, none, (some 16), (.eqs false [1, 1, 1, 1, 6, 6, 6, 6, 6]), [.t 11, .t 15], []⟩] [0, 3, 5, 7, 8, 16] [3]
def R76_5 : ACode := .reg none [
    ⟨0, none, (some 17), .mov, [.t 5], []⟩,
    ⟨1, none, (some 4), .mov, [.t 17], []⟩] [4] []
def R76_6 : ACode := .reg none [
    ⟨0, none, (some 18), (.bin .add), [.t 8, .c (.int .i64 1)], []⟩,
    ⟨1, none, (some 8), .mov, [.t 18], []⟩] [0, 3, 7, 8] [3]
def R76_7 : ACode := .reg none [
    ⟨0, none, (some 4), .mov, [.c (.int .i64 (-1))], []⟩] [4] []
def C76 : ACode := (.seq R76_0 (.seq (.seq R76_1 (.block 0 (.loop (.seq R76_2 (.seq (.cond (.t 9) .skip (.exit 0)) (.seq (.block 1 (.seq R76_3 (.seq R76_4 (.cond (.t 16) (.seq R76_5 .ret) .skip)))) R76_6)))))) (.seq R76_7 .ret)))
def F76 : AFn := ⟨2, 19, [.tmp 4], C76⟩
theorem ok76 : fnOk Try.prog Try.f76 F76 = true := by kernel_rfl
theorem at76 : Try.prog.funcs[76]? = some Try.f76 := by kernel_rfl
/-! seismonet/seismonetref35.within -/
def R77_0 : ACode := .reg none [
    ⟨0, none, (some 2), .mov, [.c (.bool false)], []⟩] [0] []
def R77_1 : ACode := .reg none [
    ⟨0, none, (some 3), .mov, [.t 0], []⟩,
    ⟨1, none, (some 4), (.bin .ge), [.t 3, .c (.int .i64 0)], []⟩,
    ⟨2, none, (some 5), .mov, [.t 4], []⟩,
    ⟨3, (some (5, true)), (some 6), .mov, [.t 0], []⟩,
    ⟨4, (some (5, true)), (some 7), (.bin .le), [.t 6, .c (.int .i64 9007199254740992)], []⟩,
    ⟨5, none, (some 8), .pick, [.t 5, .t 7, .c (.bool false)], []⟩,
    ⟨6, none, (some 2), .mov, [.t 8], []⟩] [2] []
def C77 : ACode := (.seq R77_0 (.seq R77_1 .ret))
def F77 : AFn := ⟨1, 9, [.tmp 2], C77⟩
theorem ok77 : fnOk Try.prog Try.f77 F77 = true := by kernel_rfl
theorem at77 : Try.prog.funcs[77]? = some Try.f77 := by kernel_rfl
/-! seismonet/seismonetref34.Name -/
def R78_0 : ACode := .reg none [
    ⟨0, none, (some 2), (.newl 2 [.str ⟨#[]⟩, .str ⟨#[]⟩, .str ⟨#[]⟩, .str ⟨#[]⟩, .int .i64 0, .int .i64 0, .int .i64 0, .int .i64 0, .int .i64 0]), [], []⟩] [0, 2] [2]
def R78_1 : ACode := .reg none [
    ⟨0, none, (some 5), .mov, [.t 0], []⟩,
    ⟨1, none, (some 6), (.ix 9), [.t 5, .c (.int .i64 0)], []⟩,
    ⟨2, none, (some 7), (.ldh 9 true), [.t 6], []⟩,
    ⟨3, none, (some 3), (.newl 3 [.str ⟨#[]⟩, .str ⟨#[]⟩, .str ⟨#[]⟩, .str ⟨#[]⟩, .int .i64 0, .int .i64 0, .int .i64 0, .int .i64 0, .int .i64 0]), [], []⟩,
    ⟨4, none, none, (.st 9), [.t 3, .t 7], []⟩] [0, 2, 3] [2, 3]
def R78_2 : ACode := .reg none [
    ⟨0, none, (some 4), .mov, [.c (.int .i64 1)], []⟩] [0, 2, 3, 4] [2, 3]
def R78_3 : ACode := .reg none [
    ⟨0, none, (some 8), .mov, [.t 4], []⟩,
    ⟨1, none, (some 9), .mov, [.t 0], []⟩,
    ⟨2, none, (some 10), .len, [.t 9], []⟩,
    ⟨3, none, (some 11), (.bin .lt), [.t 8, .t 10], []⟩] [0, 2, 3, 4, 11] [2, 3]
def R78_5 : ACode := .reg (some [0, 0, 3, 7, 0, 31, 63]) [
    ⟨0, none, (some 14), .mov, [.t 0], []⟩,
    ⟨1, none, (some 15), .mov, [.t 4], []⟩,
    ⟨2, none, (some 16), (.ix 9), [.t 14, .t 15], []⟩,
    ⟨3, none, (some 17), (.ldh 9 true), [.t 16], []⟩,
    ⟨4, none, (some 18), (.ld 9 true), [.t 3], []⟩,
    ⟨5, none, (some 19), (.callp 80), [.t 17, .t 18], []⟩,
    ⟨6, none, (some 20), (.bin .lt), [.t 19, .c (.int .i64 0)], []⟩] [0, 2, 3, 4, 20] [2, 3]
def R78_6 : ACode := .reg none [
    ⟨0, none, (some 21), .mov, [.t 0], []⟩,
    ⟨1, none, (some 22), .mov, [.t 4], []⟩,
    ⟨2, none, (some 23), (.ix 9), [.t 21, .t 22], []⟩,
    ⟨3, none, (some 24), (.ldh 9 true), [.t 23], []⟩,
    ⟨4, none, none, (.st 9), [.t 3, .t 24], []⟩] [0, 2, 3, 4] [2, 3]
def R78_4 : ACode := .reg none [
    ⟨0, none, (some 12), .mov, [.t 4], []⟩,
    ⟨1, none, (some 13), (.bin .add), [.t 12, .c (.int .i64 1)], []⟩,
    ⟨2, none, (some 4), .mov, [.t 13], []⟩] [0, 2, 3, 4] [2, 3]
def R78_7 : ACode := .reg none [
    ⟨0, none, (some 25), (.ld 9 true), [.t 3], []⟩,
    ⟨1, none, none, (.st 9), [.t 2, .t 25], []⟩] [2] [2]
def C78 : ACode := (.seq R78_0 (.seq R78_1 (.seq (.seq R78_2 (.block 0 (.loop (.seq (.seq R78_3 (.cond (.t 11) .skip (.exit 0))) (.seq (.block 1 (.seq R78_5 (.cond (.t 20) R78_6 .skip))) R78_4))))) (.seq R78_7 .ret))))
def F78 : AFn := ⟨1, 26, [.cell 2 9 true false], C78⟩
theorem ok78 : fnOk Try.prog Try.f78 F78 = true := by kernel_rfl
theorem at78 : Try.prog.funcs[78]? = some Try.f78 := by kernel_rfl
/-! seismonet/seismonetref23.Sort -/
def R79_0 : ACode := .reg none [
    ⟨0, none, (some 2), .mov, [.c (.nils)], []⟩] [0] []
def R79_1 : ACode := .reg none [
    ⟨0, none, (some 3), .mov, [.c (.nils)], []⟩] [0, 3] []
def R79_2 : ACode := .reg none [
    ⟨0, none, (some 4), .mov, [.c (.int .i64 0)], []⟩] [0, 3, 4] []
def R79_3 : ACode := .reg none [
    ⟨0, none, (some 6), .mov, [.t 4], []⟩,
    ⟨1, none, (some 7), .mov, [.t 0], []⟩,
    ⟨2, none, (some 8), .len, [.t 7], []⟩,
    ⟨3, none, (some 9), (.bin .lt), [.t 6, .t 8], []⟩] [0, 3, 4, 9] []
def R79_5 : ACode := .reg none [
    ⟨0, none, (some 12), .mov, [.t 3], []⟩,
    ⟨1, none, (some 13), .len, [.t 12], []⟩,
    ⟨2, none, (some 5), .mov, [.t 13], []⟩] [0, 3, 4, 5] []
def R79_6 : ACode := .reg (some [0, 1, 3, 7, 7, 23, 63, 127, 7, 7, 775, 1799, 4095, 8191, 16383]) [
    ⟨0, none, (some 14), .mov, [.t 5], []⟩,
    ⟨1, none, (some 15), (.bin .gt), [.t 14, .c (.int .i64 0)], []⟩,
    ⟨2, none, (some 16), .mov, [.t 15], []⟩,
    ⟨3, (some (16, true)), (some 17), .mov, [.t 3], []⟩,
    ⟨4, (some (16, true)), (some 18), .mov, [.t 5], []⟩,
    ⟨5, (some (16, true)), (some 19), (.bin .sub), [.t 18, .c (.int .i64 1)], []⟩,
    ⟨6, (some (16, true)), (some 20), (.ix 9), [.t 17, .t 19], []⟩,
    ⟨7, (some (16, true)), (some 21), (.ldh 9 true), [.t 20], []⟩,
    ⟨8, (some (16, true)), (some 22), .mov, [.t 0], []⟩,
    ⟨9, (some (16, true)), (some 23), .mov, [.t 4], []⟩,
    ⟨10, (some (16, true)), (some 24), (.ix 9), [.t 22, .t 23], []⟩,
    ⟨11, (some (16, true)), (some 25), (.ldh 9 true), [.t 24], []⟩,
    ⟨12, (some (16, true)), (some 26), (.callp 88), [.t 21, .t 25], []⟩,
    ⟨13, (some (16, true)), (some 27), (.bin .gt), [.t 26, .c (.int .i64 0)], []⟩,
    ⟨14, none, (some 28), .pick, [.t 16, .t 27, .c (.bool false)], []⟩] [0, 3, 4, 5, 28] []
def R79_7 : ACode := .reg none [
    ⟨0, none, (some 29), .mov, [.t 5], []⟩,
    ⟨1, none, (some 30), (.bin .sub), [.t 29, .c (.int .i64 1)], []⟩,
    ⟨2, none, (some 5), .mov, [.t 30], []⟩] [0, 3, 4, 5] []
def R79_8 : ACode := .reg (some [0, 1, 3, 7, 7, 23, 63, 127, 7, 7, 775, 1799, 4095, 8191]) [
    ⟨0, none, (some 31), .mov, [.t 5], []⟩,
    ⟨1, none, (some 32), (.bin .gt), [.t 31, .c (.int .i64 0)], []⟩,
    ⟨2, none, (some 33), .mov, [.t 32], []⟩,
    ⟨3, (some (33, true)), (some 34), .mov, [.t 3], []⟩,
    ⟨4, (some (33, true)), (some 35), .mov, [.t 5], []⟩,
    ⟨5, (some (33, true)), (some 36), (.bin .sub), [.t 35, .c (.int .i64 1)], []⟩,
    ⟨6, (some (33, true)), (some 37), (.ix 9), [.t 34, .t 36], []⟩,
    ⟨7, (some (33, true)), (some 38), (.ldh 9 true), [.t 37], []⟩,
    ⟨8, (some (33, true)), (some 39), .mov, [.t 0], []⟩,
    ⟨9, (some (33, true)), (some 40), .mov, [.t 4], []⟩,
    ⟨10, (some (33, true)), (some 41), (.ix 9), [.t 39, .t 40], []⟩,
    ⟨11, (some (33, true)), (some 42), (.ldh 9 true), [.t 41], []⟩,
    ⟨12, (some (33, true)), (some 43), (.eqs false [1, 1, 1, 1, 6, 6, 6, 6, 6]), [.t 38, .t 42], []⟩,
    ⟨13, none, (some 44), .pick, [.t 33, .t 43, .c (.bool false)], []⟩] [0, 3, 4, 5, 44] []
def R79_9 : ACode := .reg none [
    ⟨0, none, (some 45), .mov, [.t 3], []⟩,
    ⟨1, none, (some 46), .mov, [.t 0], []⟩,
    ⟨2, none, (some 47), .mov, [.t 4], []⟩,
    ⟨3, none, (some 48), (.ix 9), [.t 46, .t 47], []⟩,
    ⟨4, none, (some 49), (.ldh 9 true), [.t 48], []⟩,
    ⟨5, none, (some 50), (.bslice 1 9 [.str ⟨#[]⟩, .str ⟨#[]⟩, .str ⟨#[]⟩, .str ⟨#[]⟩, .int .i64 0, .int .i64 0, .int .i64 0, .int .i64 0, .int .i64 0] [0]), [.t 49], []⟩,
    ⟨6, none, (some 51), (.appm [.str ⟨#[]⟩, .str ⟨#[]⟩, .str ⟨#[]⟩, .str ⟨#[]⟩, .int .i64 0, .int .i64 0, .int .i64 0, .int .i64 0, .int .i64 0] 1353245080339), [.t 45, .t 50], []⟩,
    ⟨7, none, (some 3), .mov, [.t 51], []⟩] [0, 3, 4, 5] []
def R79_10 : ACode := .reg (some [0, 0, 2, 7, 0, 0, 48, 127]) [
    ⟨0, none, (some 52), .mov, [.t 3], []⟩,
    ⟨1, none, (some 53), .mov, [.t 5], []⟩,
    ⟨2, none, (some 54), (.bin .add), [.t 53, .c (.int .i64 1)], []⟩,
    ⟨3, none, (some 55), (.slc 9 true false false), [.t 52, .t 54], []⟩,
    ⟨4, none, (some 56), .mov, [.t 3], []⟩,
    ⟨5, none, (some 57), .mov, [.t 5], []⟩,
    ⟨6, none, (some 58), (.slc 9 true false false), [.t 56, .t 57], []⟩,
    ⟨7, none, (some 59), (.cpy 9), [.t 55, .t 58], []⟩] [0, 3, 4, 5] []
def R79_11 : ACode := .reg none [
    ⟨0, none, (some 60), .mov, [.t 3], []⟩,
    ⟨1, none, (some 61), .mov, [.t 5], []⟩,
    ⟨2, none, (some 62), .mov, [.t 0], []⟩,
    ⟨3, none, (some 63), .mov, [.t 4], []⟩,
    ⟨4, none, (some 64), (.ix 9), [.t 62, .t 63], []⟩,
    ⟨5, none, (some 65), (.ldh 9 true), [.t 64], []⟩,
    ⟨6, none, (some 66), (.ix 9), [.t 60, .t 61], []⟩,
    ⟨7, none, none, (.sth 9), [.t 66, .t 65], []⟩] [0, 3, 4] []
def R79_4 : ACode := .reg none [
    ⟨0, none, (some 10), .mov, [.t 4], []⟩,
    ⟨1, none, (some 11), (.bin .add), [.t 10, .c (.int .i64 1)], []⟩,
    ⟨2, none, (some 4), .mov, [.t 11], []⟩] [0, 3, 4] []
def R79_12 : ACode := .reg none [
    ⟨0, none, (some 67), .mov, [.t 3], []⟩,
    ⟨1, none, (some 2), .mov, [.t 67], []⟩] [2] []
def C79 : ACode := (.seq R79_0 (.seq R79_1 (.seq (.seq R79_2 (.block 0 (.loop (.seq (.seq R79_3 (.cond (.t 9) .skip (.exit 0))) (.seq (.block 1 (.seq R79_5 (.seq (.block 2 (.loop (.seq (.seq R79_6 (.cond (.t 28) .skip (.exit 2))) (.block 3 R79_7)))) (.seq (.seq R79_8 (.cond (.t 44) (.exit 1) .skip)) (.seq R79_9 (.seq R79_10 R79_11)))))) R79_4))))) (.seq R79_12 (.seq (.frz 2) .ret)))))
def F79 : AFn := ⟨1, 68, [.tmp 2], C79⟩
theorem ok79 : fnOk Try.prog Try.f79 F79 = true := by kernel_rfl
theorem at79 : Try.prog.funcs[79]? = some Try.f79 := by kernel_rfl
/-! seismonet/seismonetref34.Compare -/
def R80_0 : ACode := .reg none [
    ⟨0, none, (some 2), (.boxl 2), [.t 0], []⟩,
    ⟨1, none, (some 3), (.boxl 3), [.t 1], []⟩,
    ⟨2, none, (some 4), .mov, [.c (.int .i64 0)], []⟩] [2, 3] [2, 3]
def R80_1 : ACode := .reg none [
    ⟨0, none, (some 5), (.fld 4), [.t 2], []⟩,
    ⟨1, none, (some 6), (.ld 1 false), [.t 5], []⟩,
    ⟨2, none, (some 7), (.fld 4), [.t 3], []⟩,
    ⟨3, none, (some 8), (.ld 1 false), [.t 7], []⟩,
    ⟨4, none, (some 9), (.bin .lt), [.t 6, .t 8], []⟩] [2, 3, 9] [2, 3]
def R80_2 : ACode := .reg none [
    ⟨0, none, (some 4), .mov, [.c (.int .i64 (-1))], []⟩] [4] []
def R80_3 : ACode := .reg none [
    ⟨0, none, (some 10), (.fld 4), [.t 2], []⟩,
    ⟨1, none, (some 11), (.ld 1 false), [.t 10], []⟩,
    ⟨2, none, (some 12), (.fld 4), [.t 3], []⟩,
    ⟨3, none, (some 13), (.ld 1 false), [.t 12], []⟩,
    ⟨4, none, (some 14), (.bin .gt), [.t 11, .t 13], []⟩] [2, 3, 14] [2, 3]
def R80_4 : ACode := .reg none [
    ⟨0, none, (some 4), .mov, [.c (.int .i64 1)], []⟩] [4] []
def R80_5 : ACode := .reg none [
    ⟨0, none, (some 15), (.ld 9 true), [.t 2], []⟩,
    ⟨1, none, (some 16), (.ld 9 true), [.t 3], []⟩,
    ⟨2, none, (some 17), (.callp 88), [.t 15, .t 16], []⟩,
    ⟨3, none, (some 4), .mov, [.t 17], []⟩] [4] []
def C80 : ACode := (.seq R80_0 (.seq (.seq R80_1 (.cond (.t 9) (.seq R80_2 .ret) .skip)) (.seq (.seq R80_3 (.cond (.t 14) (.seq R80_4 .ret) .skip)) (.seq R80_5 .ret))))
def F80 : AFn := ⟨2, 18, [.tmp 4], C80⟩
theorem ok80 : fnOk Try.prog Try.f80 F80 = true := by kernel_rfl
theorem at80 : Try.prog.funcs[80]? = some Try.f80 := by kernel_rfl
/-! seismonet/seismonetref34.common -/
def R81_0 : ACode := .reg none [
    ⟨0, none, (some 4), .mov, [.c (.bool false)], []⟩] [0, 1] []
def R81_1 : ACode := .reg none [
    ⟨0, none, (some 5), .mov, [.c (.int .i64 0)], []⟩] [0, 1, 5] []
def R81_2 : ACode := .reg none [
    ⟨0, none, (some 7), .mov, [.t 5], []⟩,
    ⟨1, none, (some 8), .mov, [.t 0], []⟩,
    ⟨2, none, (some 9), .len, [.t 8], []⟩,
    ⟨3, none, (some 10), (.bin .lt), [.t 7, .t 9], []⟩] [0, 1, 5, 10] []
def R81_4 : ACode := .reg none [
    ⟨0, none, (some 6), .mov, [.c (.int .i64 0)], []⟩] [0, 1, 5, 6] []
def R81_5 : ACode := .reg none [
    ⟨0, none, (some 13), .mov, [.t 6], []⟩,
    ⟨1, none, (some 14), .mov, [.t 1], []⟩,
    ⟨2, none, (some 15), .len, [.t 14], []⟩,
    ⟨3, none, (some 16), (.bin .lt), [.t 13, .t 15], []⟩] [0, 1, 5, 6, 16] []
def R81_7 : ACode := .reg (some [0, 0, 3, 7, 0, 0, 48, 112, 255]) [
    ⟨0, none, (some 19), .mov, [.t 0], []⟩,
    ⟨1, none, (some 20), .mov, [.t 5], []⟩,
    ⟨2, none, (some 21), (.ix 9), [.t 19, .t 20], []⟩,
    ⟨3, none, (some 22), (.ldh 9 true), [.t 21], []⟩,
    ⟨4, none, (some 23), .mov, [.t 1], []⟩,
    ⟨5, none, (some 24), .mov, [.t 6], []⟩,
    ⟨6, none, (some 25), (.ix 9), [.t 23, .t 24], []⟩,
    ⟨7, none, (some 26), (.ldh 9 true), [.t 25], []⟩,
    ⟨8, none, (some 27), (.eqs false [1, 1, 1, 1, 6, 6, 6, 6, 6]), [.t 22, .t 26], []⟩] [0, 1, 5, 6, 27] []
def R81_8 : ACode := .reg none [
    ⟨0, none, (some 4), .mov, [.c (.bool true)], []⟩] [4] []
def R81_6 : ACode := .reg none [
    ⟨0, none, (some 17), .mov, [.t 6], []⟩,
    ⟨1, none, (some 18), (.bin .add), [.t 17, .c (.int .i64 1)], []⟩,
    ⟨2, none, (some 6), .mov, [.t 18], []⟩] [0, 1, 5, 6] []
def R81_3 : ACode := .reg none [
    ⟨0, none, (some 11), .mov, [.t 5], []⟩,
    ⟨1, none, (some 12), (.bin .add), [.t 11, .c (.int .i64 1)], []⟩,
    ⟨2, none, (some 5), .mov, [.t 12], []⟩] [0, 1, 5] []
def R81_9 : ACode := .reg none [
    ⟨0, none, (some 4), .mov, [.c (.bool false)], []⟩] [4] []
def C81 : ACode := (.seq R81_0 (.seq (.seq R81_1 (.block 0 (.loop (.seq (.seq R81_2 (.cond (.t 10) .skip (.exit 0))) (.seq (.block 1 (.seq R81_4 (.block 2 (.loop (.seq (.seq R81_5 (.cond (.t 16) .skip (.exit 2))) (.seq (.block 3 (.seq R81_7 (.cond (.t 27) (.seq R81_8 .ret) .skip))) R81_6)))))) R81_3))))) (.seq R81_9 .ret)))
def F81 : AFn := ⟨2, 28, [.tmp 4], C81⟩
theorem ok81 : fnOk Try.prog Try.f81 F81 = true := by kernel_rfl
theorem at81 : Try.prog.funcs[81]? = some Try.f81 := by kernel_rfl
/-! seismonet/seismonetref24.Valid -/
def R82_0 : ACode := .reg none [
    ⟨0, none, (some 1), (.boxl 1), [.t 0], []⟩,
    ⟨1, none, (some 2), .mov, [.c (.bool false)], []⟩] [1] [1]
def R82_1 : ACode := .reg none [
    ⟨0, none, (some 3), (.fld 0), [.t 1], []⟩,
    ⟨1, none, (some 4), (.ld 1 false), [.t 3], []⟩,
    ⟨2, none, (some 5), (.bin .ge), [.t 4, .c (.int .i64 (-1048576))], []⟩,
    ⟨3, none, (some 6), .mov, [.t 5], []⟩,
    ⟨4, (some (6, true)), (some 7), (.fld 0), [.t 1], []⟩,
    ⟨5, (some (6, true)), (some 8), (.ld 1 false), [.t 7], []⟩,
    ⟨6, (some (6, true)), (some 9), (.bin .le), [.t 8, .c (.int .i64 1048576)], []⟩,
    ⟨7, none, (some 10), .pick, [.t 6, .t 9, .c (.bool false)], []⟩,
    ⟨8, none, (some 11), .mov, [.t 10], []⟩,
    ⟨9, (some (11, true)), (some 12), (.fld 1), [.t 1], []⟩,
    ⟨10, (some (11, true)), (some 13), (.ld 1 false), [.t 12], []⟩,
    ⟨11, (some (11, true)), (some 14), (.bin .ge), [.t 13, .c (.int .i64 (-1048576))], []⟩,
    ⟨12, none, (some 15), .pick, [.t 11, .t 14, .c (.bool false)], []⟩,
    ⟨13, none, (some 16), .mov, [.t 15], []⟩,
    ⟨14, (some (16, true)), (some 17), (.fld 1), [.t 1], []⟩,
    ⟨15, (some (16, true)), (some 18), (.ld 1 false), [.t 17], []⟩,
    ⟨16, (some (16, true)), (some 19), (.bin .le), [.t 18, .c (.int .i64 1048576)], []⟩,
    ⟨17, none, (some 20), .pick, [.t 16, .t 19, .c (.bool false)], []⟩,
    ⟨18, none, (some 21), .mov, [.t 20], []⟩,
    ⟨19, (some (21, true)), (some 22), (.fld 2), [.t 1], []⟩,
    ⟨20, (some (21, true)), (some 23), (.ld 1 false), [.t 22], []⟩,
    ⟨21, (some (21, true)), (some 24), (.bin .ge), [.t 23, .c (.int .i64 (-16384))], []⟩,
    ⟨22, none, (some 25), .pick, [.t 21, .t 24, .c (.bool false)], []⟩,
    ⟨23, none, (some 26), .mov, [.t 25], []⟩,
    ⟨24, (some (26, true)), (some 27), (.fld 2), [.t 1], []⟩,
    ⟨25, (some (26, true)), (some 28), (.ld 1 false), [.t 27], []⟩,
    ⟨26, (some (26, true)), (some 29), (.bin .le), [.t 28, .c (.int .i64 1048576)], []⟩,
    ⟨27, none, (some 30), .pick, [.t 26, .t 29, .c (.bool false)], []⟩,
    ⟨28, none, (some 2), .mov, [.t 30], []⟩] [2] []
def C82 : ACode := (.seq R82_0 (.seq R82_1 .ret))
def F82 : AFn := ⟨1, 31, [.tmp 2], C82⟩
theorem ok82 : fnOk Try.prog Try.f82 F82 = true := by kernel_rfl
theorem at82 : Try.prog.funcs[82]? = some Try.f82 := by kernel_rfl
/-! seismonet/seismonetref24.square -/
def R83_0 : ACode := .reg none [
    ⟨0, none, (some 2), .mov, [.c (.int .i64 0)], []⟩] [0] []
def R83_1 : ACode := .reg none [
    ⟨0, none, (some 3), .mov, [.t 0], []⟩,
    ⟨1, none, (some 4), .mov, [.t 0], []⟩,
    ⟨2, none, (some 5), (.bin .mul), [.t 3, .t 4], []⟩,
    ⟨3, none, (some 2), .mov, [.t 5], []⟩] [2] []
def C83 : ACode := (.seq R83_0 (.seq R83_1 .ret))
def F83 : AFn := ⟨1, 6, [.tmp 2], C83⟩
theorem ok83 : fnOk Try.prog Try.f83 F83 = true := by kernel_rfl
theorem at83 : Try.prog.funcs[83]? = some Try.f83 := by kernel_rfl
/-! seismonet/picker.Compare -/
def R84_0 : ACode := .reg none [
    ⟨0, none, (some 2), (.boxl 2), [.t 0], []⟩,
    ⟨1, none, (some 3), (.boxl 3), [.t 1], []⟩,
    ⟨2, none, (some 4), .mov, [.c (.int .i64 0)], []⟩] [2, 3] [2, 3]
def R84_1 : ACode := .reg (some [0, 1, 0, 4, 15, 0, 32, 0, 128, 511, 0, 1024, 0, 4096, 16383, 0, 32768, 0, 131072, 524287, 0, 1048576, 0, 4194304, 16777215, 0, 33554432, 0, 134217728, 536870911, 1073741823, 2147483647, 4294967295]) [
    ⟨0, none, (some 5), (.fld 0), [.t 2], []⟩,
    ⟨1, none, (some 6), (.ld 4 true), [.t 5], []⟩,
    ⟨2, none, (some 7), (.fld 0), [.t 3], []⟩,
    ⟨3, none, (some 8), (.ld 4 true), [.t 7], []⟩,
    ⟨5, none, (some 10), (.fld 4), [.t 2], []⟩,
    ⟨6, none, (some 11), (.ld 1 false), [.t 10], []⟩,
    ⟨7, none, (some 12), (.fld 4), [.t 3], []⟩,
    ⟨8, none, (some 13), (.ld 1 false), [.t 12], []⟩,
    ⟨10, none, (some 15), (.fld 5), [.t 2], []⟩,
    ⟨11, none, (some 16), (.ld 1 false), [.t 15], []⟩,
    ⟨12, none, (some 17), (.fld 5), [.t 3], []⟩,
    ⟨13, none, (some 18), (.ld 1 false), [.t 17], []⟩,
    ⟨15, none, (some 20), (.fld 6), [.t 2], []⟩,
    ⟨16, none, (some 21), (.ld 1 false), [.t 20], []⟩,
    ⟨17, none, (some 22), (.fld 6), [.t 3], []⟩,
    ⟨18, none, (some 23), (.ld 1 false), [.t 22], []⟩,
    ⟨20, none, (some 25), (.fld 7), [.t 2], []⟩,
    ⟨21, none, (some 26), (.ld 1 false), [.t 25], []⟩,
    ⟨22, none, (some 27), (.fld 7), [.t 3], []⟩,
    ⟨23, none, (some 28), (.ld 1 false), [.t 27], []⟩,
    ⟨25, none, (some 30), (.fld 8), [.t 2], []⟩,
    ⟨26, none, (some 31), (.ld 1 false), [.t 30], []⟩,
    ⟨27, none, (some 32), (.fld 8), [.t 3], []⟩,
    ⟨28, none, (some 33), (.ld 1 false), [.t 32], []⟩,
    ⟨4, none, (some 9), (.callp 89), [.t 6, .t 8], []⟩,
    ⟨9, none, (some 14), (.callp 87), [.t 11, .t 13], []⟩,
    ⟨14, none, (some 19), (.callp 87), [.t 16, .t 18], []⟩,
    ⟨19, none, (some 24), (.callp 87), [.t 21, .t 23], []⟩,
    ⟨24, none, (some 29), (.callp 87), [.t 26, .t 28], []⟩,
    ⟨29, none, (some 34), (.callp 87), [.t 31, .t 33], []⟩,
    ⟨30, none, (some 35), (.bslice 6 1 [.int .i64 0] [0, 1, 2, 3, 4, 5]), [.t 9, .t 14, .t 19, .t 24, .t 29, .t 34], []⟩,
    ⟨31, none, (some 36), (.callp 86), [.t 35], []⟩,
    ⟨32, none, (some 4), .mov, [.t 36], []⟩] [4] []
def C84 : ACode := (.seq R84_0 (.seq R84_1 .ret))
def F84 : AFn := ⟨2, 37, [.tmp 4], C84⟩
theorem ok84 : fnOk Try.prog Try.f84 F84 = true := by kernel_rfl
theorem at84 : Try.prog.funcs[84]? = some Try.f84 := by kernel_rfl
/-! slices.MinFunc[[]seismonet/api.Pick,seismonet/api.Pick] -/
def R85_0 : ACode := .reg none [
    ⟨0, none, (some 4), (.newl 4 [.str ⟨#[]⟩, .str ⟨#[]⟩, .str ⟨#[]⟩, .str ⟨#[]⟩, .int .i64 0, .int .i64 0, .int .i64 0, .int .i64 0, .int .i64 0]), [], []⟩] [0, 1, 4] [4]
def R85_1 : ACode := .reg none [
    ⟨0, none, (some 7), .mov, [.t 0], []⟩,
    ⟨1, none, (some 8), .len, [.t 7], []⟩,
    ⟨2, none, (some 9), (.bin .lt), [.t 8, .c (.int .i64 1)], []⟩] [0, 1, 4, 9] [4]
def R85_2 : ACode := .reg none [
    ⟨0, none, (some 10), (.mki 9), [.c (.str ⟨#[115, 108, 105, 99, 101, 115, 46, 77, 105, 110, 70, 117, 110, 99, 58, 32, 101, 109, 112, 116, 121, 32, 108, 105, 115, 116]⟩)], []⟩,
    ⟨1, none, none, .dead, [], []⟩] [0, 1, 4] [4]
def R85_3 : ACode := .reg none [
    ⟨0, none, (some 11), .mov, [.t 0], []⟩,
    ⟨1, none, (some 12), (.ix 9), [.t 11, .c (.int .i64 0)], []⟩,
    ⟨2, none, (some 13), (.ldh 9 true), [.t 12], []⟩,
    ⟨3, none, (some 5), (.newl 5 [.str ⟨#[]⟩, .str ⟨#[]⟩, .str ⟨#[]⟩, .str ⟨#[]⟩, .int .i64 0, .int .i64 0, .int .i64 0, .int .i64 0, .int .i64 0]), [], []⟩,
    ⟨4, none, none, (.st 9), [.t 5, .t 13], []⟩] [0, 1, 4, 5] [4, 5]
def R85_4 : ACode := .reg none [
    ⟨0, none, (some 6), .mov, [.c (.int .i64 1)], []⟩] [0, 1, 4, 5, 6] [4, 5]
def R85_5 : ACode := .reg none [
    ⟨0, none, (some 14), .mov, [.t 6], []⟩,
    ⟨1, none, (some 15), .mov, [.t 0], []⟩,
    ⟨2, none, (some 16), .len, [.t 15], []⟩,
    ⟨3, none, (some 17), (.bin .lt), [.t 14, .t 16], []⟩] [0, 1, 4, 5, 6, 17] [4, 5]
def R85_7 : ACode := .reg (some [0, 0, 0, 6, 14, 0, 63, 127]) [
    ⟨0, none, (some 20), .mov, [.t 1], []⟩,
    ⟨1, none, (some 21), .mov, [.t 0], []⟩,
    ⟨2, none, (some 22), .mov, [.t 6], []⟩,
    ⟨3, none, (some 23), (.ix 9), [.t 21, .t 22], []⟩,
    ⟨4, none, (some 24), (.ldh 9 true), [.t 23], []⟩,
    ⟨5, none, (some 25), (.ld 9 true), [.t 5], []⟩,
    ⟨6, none, (some 26), .callv, [.t 20, .t 24, .t 25], []⟩,
    ⟨7, none, (some 27), (.bin .lt), [.t 26, .c (.int .i64 0)], []⟩] [0, 1, 4, 5, 6, 27] [4, 5]
def R85_8 : ACode := .reg none [
    ⟨0, none, (some 28), .mov, [.t 0], []⟩,
    ⟨1, none, (some 29), .mov, [.t 6], []⟩,
    ⟨2, none, (some 30), (.ix 9), [.t 28, .t 29], []⟩,
    ⟨3, none, (some 31), (.ldh 9 true), [.t 30], []⟩,
    ⟨4, none, none, (.st 9), [.t 5, .t 31], []⟩] [0, 1, 4, 5, 6] [4, 5]
def R85_6 : ACode := .reg none [
    ⟨0, none, (some 18), .mov, [.t 6], []⟩,
    ⟨1, none, (some 19), (.bin .add), [.t 18, .c (.int .i64 1)], []⟩,
    ⟨2, none, (some 6), .mov, [.t 19], []⟩] [0, 1, 4, 5, 6] [4, 5]
def R85_9 : ACode := .reg none [
    ⟨0, none, (some 32), (.ld 9 true), [.t 5], []⟩,
    ⟨1, none, none, (.st 9), [.t 4, .t 32], []⟩] [4] [4]
def C85 : ACode := (.seq R85_0 (.seq (.seq R85_1 (.cond (.t 9) R85_2 .skip)) (.seq R85_3 (.seq (.seq R85_4 (.block 0 (.loop (.seq (.seq R85_5 (.cond (.t 17) .skip (.exit 0))) (.seq (.block 1 (.seq R85_7 (.cond (.t 27) R85_8 .skip))) R85_6))))) (.seq R85_9 .ret)))))
def F85 : AFn := ⟨2, 33, [.cell 4 9 true false], C85⟩
theorem ok85 : fnOk Try.prog Try.f85 F85 = true := by kernel_rfl
theorem at85 : Try.prog.funcs[85]? = some Try.f85 := by kernel_rfl
/-! cmp.Or[int] -/
def R86_0 : ACode := .reg none [
    ⟨0, none, (some 2), .mov, [.c (.int .i64 0)], []⟩] [0] []
def R86_1 : ACode := .reg none [
    ⟨0, none, (some 3), .mov, [.c (.int .i64 0)], []⟩] [0, 3] []
def R86_2 : ACode := .reg none [
    ⟨0, none, (some 6), .mov, [.t 0], []⟩,
    ⟨1, none, (some 7), .len, [.t 6], []⟩,
    ⟨2, none, (some 8), .mov, [.c (.int .i64 0)], []⟩] [3, 6, 7, 8] []
def R86_3 : ACode := .reg none [
    ⟨0, none, (some 9), (.bin .lt), [.t 8, .t 7], []⟩] [3, 6, 7, 8, 9] []
def R86_4 : ACode := .reg none [
    ⟨0, none, (some 10), (.ix 1), [.t 6, .t 8], []⟩,
    ⟨1, none, (some 11), (.ldh 1 false), [.t 10], []⟩,
    ⟨2, none, (some 5), .mov, [.t 11], []⟩] [3, 5, 6, 7, 8] []
def R86_5 : ACode := .reg none [
    ⟨0, none, (some 12), .mov, [.t 5], []⟩,
    ⟨1, none, (some 13), .mov, [.t 3], []⟩,
    ⟨2, none, (some 14), (.bin .ne), [.t 12, .t 13], []⟩] [3, 5, 6, 7, 8, 14] []
def R86_6 : ACode := .reg none [
    ⟨0, none, (some 15), .mov, [.t 5], []⟩,
    ⟨1, none, (some 2), .mov, [.t 15], []⟩] [2] []
def R86_7 : ACode := .reg none [
    ⟨0, none, (some 16), (.bin .add), [.t 8, .c (.int .i64 1)], []⟩,
    ⟨1, none, (some 8), .mov, [.t 16], []⟩] [3, 6, 7, 8] []
def R86_8 : ACode := .reg none [
    ⟨0, none, (some 17), .mov, [.t 3], []⟩,
    ⟨1, none, (some 2), .mov, [.t 17], []⟩] [2] []
def C86 : ACode := (.seq R86_0 (.seq R86_1 (.seq (.seq R86_2 (.block 0 (.loop (.seq R86_3 (.seq (.cond (.t 9) .skip (.exit 0)) (.seq (.block 1 (.seq R86_4 (.seq R86_5 (.cond (.t 14) (.seq R86_6 .ret) .skip)))) R86_7)))))) (.seq R86_8 .ret))))
def F86 : AFn := ⟨1, 18, [.tmp 2], C86⟩
theorem ok86 : fnOk Try.prog Try.f86 F86 = true := by kernel_rfl
theorem at86 : Try.prog.funcs[86]? = some Try.f86 := by kernel_rfl
/-! cmp.Compare[int] -/
def R87_0 : ACode := .reg none [
    ⟨0, none, (some 4), .mov, [.c (.int .i64 0)], []⟩] [0, 1] []
def R87_1 : ACode := .reg none [
    ⟨0, none, (some 7), .mov, [.t 0], []⟩,
    ⟨1, none, (some 8), (.callp 90), [.t 7], []⟩,
    ⟨2, none, (some 5), .mov, [.t 8], []⟩] [0, 1, 5] []
def R87_2 : ACode := .reg none [
    ⟨0, none, (some 9), .mov, [.t 1], []⟩,
    ⟨1, none, (some 10), (.callp 90), [.t 9], []⟩,
    ⟨2, none, (some 6), .mov, [.t 10], []⟩] [0, 1, 5, 6] []
def R87_3 : ACode := .reg none [
    ⟨0, none, (some 11), .mov, [.t 5], []⟩] [0, 1, 6, 11] []
def R87_4 : ACode := .reg none [
    ⟨0, none, (some 12), .mov, [.t 6], []⟩] [12] []
def R87_5 : ACode := .reg none [
    ⟨0, none, (some 4), .mov, [.c (.int .i64 0)], []⟩] [4] []
def R87_6 : ACode := .reg none [
    ⟨0, none, (some 4), .mov, [.c (.int .i64 (-1))], []⟩] [4] []
def R87_7 : ACode := .reg none [
    ⟨0, none, (some 13), .mov, [.t 6], []⟩] [0, 1, 13] []
def R87_8 : ACode := .reg none [
    ⟨0, none, (some 4), .mov, [.c (.int .i64 1)], []⟩] [4] []
def R87_9 : ACode := .reg none [
    ⟨0, none, (some 14), .mov, [.t 0], []⟩,
    ⟨1, none, (some 15), .mov, [.t 1], []⟩,
    ⟨2, none, (some 16), (.bin .lt), [.t 14, .t 15], []⟩] [0, 1, 16] []
def R87_10 : ACode := .reg none [
    ⟨0, none, (some 4), .mov, [.c (.int .i64 (-1))], []⟩] [4] []
def R87_11 : ACode := .reg none [
    ⟨0, none, (some 17), .mov, [.t 0], []⟩,
    ⟨1, none, (some 18), .mov, [.t 1], []⟩,
    ⟨2, none, (some 19), (.bin .gt), [.t 17, .t 18], []⟩] [19] []
def R87_12 : ACode := .reg none [
    ⟨0, none, (some 4), .mov, [.c (.int .i64 1)], []⟩] [4] []
def R87_13 : ACode := .reg none [
    ⟨0, none, (some 4), .mov, [.c (.int .i64 0)], []⟩] [4] []
def C87 : ACode := (.seq R87_0 (.seq R87_1 (.seq R87_2 (.seq (.seq R87_3 (.cond (.t 11) (.seq (.seq R87_4 (.cond (.t 12) (.seq R87_5 .ret) .skip)) (.seq R87_6 .ret)) .skip)) (.seq (.seq R87_7 (.cond (.t 13) (.seq R87_8 .ret) .skip)) (.seq (.seq R87_9 (.cond (.t 16) (.seq R87_10 .ret) .skip)) (.seq (.seq R87_11 (.cond (.t 19) (.seq R87_12 .ret) .skip)) (.seq R87_13 .ret))))))))
def F87 : AFn := ⟨2, 20, [.tmp 4], C87⟩
theorem ok87 : fnOk Try.prog Try.f87 F87 = true := by kernel_rfl
theorem at87 : Try.prog.funcs[87]? = some Try.f87 := by kernel_rfl
/-! seismonet/seismonetref23.Compare -/
def R88_0 : ACode := .reg none [
    ⟨0, none, (some 2), (.boxl 2), [.t 0], []⟩,
    ⟨1, none, (some 3), (.boxl 3), [.t 1], []⟩,
    ⟨2, none, (some 4), .mov, [.c (.int .i64 0)], []⟩] [2, 3] [2, 3]
def R88_1 : ACode := .reg none [
    ⟨0, none, (some 8), (.fld 0), [.t 2], []⟩,
    ⟨1, none, (some 9), (.ld 4 true), [.t 8], []⟩,
    ⟨2, none, (some 10), (.fld 0), [.t 3], []⟩,
    ⟨3, none, (some 11), (.ld 4 true), [.t 10], []⟩,
    ⟨4, none, (some 12), (.callp 91), [.t 9, .t 11], []⟩,
    ⟨5, none, (some 5), .mov, [.t 12], []⟩] [2, 3, 5] [2, 3]
def R88_2 : ACode := .reg none [
    ⟨0, none, (some 13), .mov, [.t 5], []⟩,
    ⟨1, none, (some 14), (.bin .ne), [.t 13, .c (.int .i64 0)], []⟩] [2, 3, 5, 14] [2, 3]
def R88_3 : ACode := .reg none [
    ⟨0, none, (some 15), .mov, [.t 5], []⟩,
    ⟨1, none, (some 4), .mov, [.t 15], []⟩] [4] []
def R88_4 : ACode := .reg none [
    ⟨0, none, (some 16), (.fld 4), [.t 2], []⟩,
    ⟨1, none, (some 17), (.ld 1 false), [.t 16], []⟩,
    ⟨2, none, (some 18), (.fld 4), [.t 3], []⟩,
    ⟨3, none, (some 19), (.ld 1 false), [.t 18], []⟩,
    ⟨4, none, (some 20), (.build [.int .i64 0, .int .i64 0] [(0, 1), (1, 1)]), [.t 17, .t 19], []⟩,
    ⟨5, none, (some 21), (.fld 5), [.t 2], []⟩,
    ⟨6, none, (some 22), (.ld 1 false), [.t 21], []⟩,
    ⟨7, none, (some 23), (.fld 5), [.t 3], []⟩,
    ⟨8, none, (some 24), (.ld 1 false), [.t 23], []⟩,
    ⟨9, none, (some 25), (.build [.int .i64 0, .int .i64 0] [(0, 1), (1, 1)]), [.t 22, .t 24], []⟩,
    ⟨10, none, (some 26), (.fld 6), [.t 2], []⟩,
    ⟨11, none, (some 27), (.ld 1 false), [.t 26], []⟩,
    ⟨12, none, (some 28), (.fld 6), [.t 3], []⟩,
    ⟨13, none, (some 29), (.ld 1 false), [.t 28], []⟩,
    ⟨14, none, (some 30), (.build [.int .i64 0, .int .i64 0] [(0, 1), (1, 1)]), [.t 27, .t 29], []⟩,
    ⟨15, none, (some 31), (.fld 7), [.t 2], []⟩,
    ⟨16, none, (some 32), (.ld 1 false), [.t 31], []⟩,
    ⟨17, none, (some 33), (.fld 7), [.t 3], []⟩,
    ⟨18, none, (some 34), (.ld 1 false), [.t 33], []⟩,
    ⟨19, none, (some 35), (.build [.int .i64 0, .int .i64 0] [(0, 1), (1, 1)]), [.t 32, .t 34], []⟩,
    ⟨20, none, (some 36), (.fld 8), [.t 2], []⟩,
    ⟨21, none, (some 37), (.ld 1 false), [.t 36], []⟩,
    ⟨22, none, (some 38), (.fld 8), [.t 3], []⟩,
    ⟨23, none, (some 39), (.ld 1 false), [.t 38], []⟩,
    ⟨24, none, (some 40), (.build [.int .i64 0, .int .i64 0] [(0, 1), (1, 1)]), [.t 37, .t 39], []⟩,
    ⟨25, none, (some 41), (.build [.int .i64 0, .int .i64 0, .int .i64 0, .int .i64 0, .int .i64 0, .int .i64 0, .int .i64 0, .int .i64 0, .int .i64 0, .int .i64 0] [(0, 2), (2, 2), (4, 2), (6, 2), (8, 2)]), [.t 20, .t 25, .t 30, .t 35, .t 40], []⟩,
    ⟨26, none, (some 42), .mov, [.c (.int .i64 0)], []⟩] [41, 42] []
def R88_5 : ACode := .reg none [
    ⟨0, none, (some 43), (.bin .lt), [.t 42, .c (.int .i64 5)], []⟩] [41, 42, 43] []
def R88_6 : ACode := .reg none [
    ⟨0, none, (some 44), (.ixv 5 2 true), [.t 41, .t 42], []⟩,
    ⟨1, none, (some 7), (.newl 7 [.int .i64 0, .int .i64 0]), [], []⟩,
    ⟨2, none, none, (.st 2), [.t 7, .t 44], []⟩] [7, 41, 42] [7]
def R88_7 : ACode := .reg none [
    ⟨0, none, (some 45), (.ixa 2 1), [.t 7, .c (.int .i64 0)], []⟩,
    ⟨1, none, (some 46), (.ld 1 false), [.t 45], []⟩,
    ⟨2, none, (some 47), (.ixa 2 1), [.t 7, .c (.int .i64 1)], []⟩,
    ⟨3, none, (some 48), (.ld 1 false), [.t 47], []⟩,
    ⟨4, none, (some 49), (.bin .lt), [.t 46, .t 48], []⟩] [7, 41, 42, 49] [7]
def R88_8 : ACode := .reg none [
    ⟨0, none, (some 4), .mov, [.c (.int .i64 (-1))], []⟩] [4] []
def R88_9 : ACode := .reg none [
    ⟨0, none, (some 50), (.ixa 2 1), [.t 7, .c (.int .i64 0)], []⟩,
    ⟨1, none, (some 51), (.ld 1 false), [.t 50], []⟩,
    ⟨2, none, (some 52), (.ixa 2 1), [.t 7, .c (.int .i64 1)], []⟩,
    ⟨3, none, (some 53), (.ld 1 false), [.t 52], []⟩,
    ⟨4, none, (some 54), (.bin .gt), [.t 51, .t 53], []⟩] [41, 42, 54] []
def R88_10 : ACode := .reg none [
    ⟨0, none, (some 4), .mov, [.c (.int .i64 1)], []⟩] [4] []
def R88_11 : ACode := .reg none [
    ⟨0, none, (some 55), (.bin .add), [.t 42, .c (.int .i64 1)], []⟩,
    ⟨1, none, (some 42), .mov, [.t 55], []⟩] [41, 42] []
def R88_12 : ACode := .reg none [
    ⟨0, none, (some 4), .mov, [.c (.int .i64 0)], []⟩] [4] []
def C88 : ACode := (.seq R88_0 (.seq (.seq R88_1 (.seq R88_2 (.cond (.t 14) (.seq R88_3 .ret) .skip))) (.seq (.seq R88_4 (.block 0 (.loop (.seq R88_5 (.seq (.cond (.t 43) .skip (.exit 0)) (.seq (.block 1 (.seq R88_6 (.seq (.seq R88_7 (.cond (.t 49) (.seq R88_8 .ret) .skip)) (.seq R88_9 (.cond (.t 54) (.seq R88_10 .ret) .skip))))) R88_11)))))) (.seq R88_12 .ret))))
def F88 : AFn := ⟨2, 56, [.tmp 4], C88⟩
theorem ok88 : fnOk Try.prog Try.f88 F88 = true := by kernel_rfl
theorem at88 : Try.prog.funcs[88]? = some Try.f88 := by kernel_rfl
/-! seismonet/source.Compare -/
def R89_0 : ACode := .reg none [
    ⟨0, none, (some 2), (.boxl 2), [.t 0], []⟩,
    ⟨1, none, (some 3), (.boxl 3), [.t 1], []⟩,
    ⟨2, none, (some 4), .mov, [.c (.int .i64 0)], []⟩] [2, 3] [2, 3]
def R89_1 : ACode := .reg (some [0, 1, 0, 4, 15, 0, 32, 0, 128, 511, 0, 1024, 0, 4096, 16383, 0, 32768, 0, 131072, 524287, 1048575, 2097151, 4194303]) [
    ⟨0, none, (some 5), (.fld 0), [.t 2], []⟩,
    ⟨1, none, (some 6), (.ld 1 false), [.t 5], []⟩,
    ⟨2, none, (some 7), (.fld 0), [.t 3], []⟩,
    ⟨3, none, (some 8), (.ld 1 false), [.t 7], []⟩,
    ⟨5, none, (some 10), (.fld 1), [.t 2], []⟩,
    ⟨6, none, (some 11), (.ld 1 false), [.t 10], []⟩,
    ⟨7, none, (some 12), (.fld 1), [.t 3], []⟩,
    ⟨8, none, (some 13), (.ld 1 false), [.t 12], []⟩,
    ⟨10, none, (some 15), (.fld 2), [.t 2], []⟩,
    ⟨11, none, (some 16), (.ld 1 false), [.t 15], []⟩,
    ⟨12, none, (some 17), (.fld 2), [.t 3], []⟩,
    ⟨13, none, (some 18), (.ld 1 false), [.t 17], []⟩,
    ⟨15, none, (some 20), (.fld 3), [.t 2], []⟩,
    ⟨16, none, (some 21), (.ld 1 false), [.t 20], []⟩,
    ⟨17, none, (some 22), (.fld 3), [.t 3], []⟩,
    ⟨18, none, (some 23), (.ld 1 false), [.t 22], []⟩,
    ⟨4, none, (some 9), (.callp 92), [.t 6, .t 8], []⟩,
    ⟨9, none, (some 14), (.callp 92), [.t 11, .t 13], []⟩,
    ⟨14, none, (some 19), (.callp 92), [.t 16, .t 18], []⟩,
    ⟨19, none, (some 24), (.callp 92), [.t 21, .t 23], []⟩,
    ⟨20, none, (some 25), (.bslice 4 1 [.int .i64 0] [0, 1, 2, 3]), [.t 9, .t 14, .t 19, .t 24], []⟩,
    ⟨21, none, (some 26), (.callp 86), [.t 25], []⟩,
    ⟨22, none, (some 4), .mov, [.t 26], []⟩] [4] []
def C89 : ACode := (.seq R89_0 (.seq R89_1 .ret))
def F89 : AFn := ⟨2, 27, [.tmp 4], C89⟩
theorem ok89 : fnOk Try.prog Try.f89 F89 = true := by kernel_rfl
theorem at89 : Try.prog.funcs[89]? = some Try.f89 := by kernel_rfl
/-! cmp.isNaN[int] -/
def R90_0 : ACode := .reg none [
    ⟨0, none, (some 2), .mov, [.c (.bool false)], []⟩] [0] []
def R90_1 : ACode := .reg none [
    ⟨0, none, (some 3), .mov, [.t 0], []⟩,
    ⟨1, none, (some 4), .mov, [.t 0], []⟩,
    ⟨2, none, (some 5), (.bin .ne), [.t 3, .t 4], []⟩,
    ⟨3, none, (some 2), .mov, [.t 5], []⟩] [2] []
def C90 : ACode := (.seq R90_0 (.seq R90_1 .ret))
def F90 : AFn := ⟨1, 6, [.tmp 2], C90⟩
theorem ok90 : fnOk Try.prog Try.f90 F90 = true := by kernel_rfl
theorem at90 : Try.prog.funcs[90]? = some Try.f90 := by kernel_rfl
/-! seismonet/seismonetref03.Compare -/
def R91_0 : ACode := .reg none [
    ⟨0, none, (some 2), (.boxl 2), [.t 0], []⟩,
    ⟨1, none, (some 3), (.boxl 3), [.t 1], []⟩,
    ⟨2, none, (some 4), .mov, [.c (.int .i64 0)], []⟩] [2, 3] [2, 3]
def R91_1 : ACode := .reg (some [0, 1, 0, 4, 15, 0, 32, 0, 128, 511, 0, 1024, 0, 4096, 16383, 0, 32768, 0, 131072, 524287, 1048575, 0]) [
    ⟨0, none, (some 7), (.fld 0), [.t 2], []⟩,
    ⟨1, none, (some 8), (.ld 1 false), [.t 7], []⟩,
    ⟨2, none, (some 9), (.fld 0), [.t 3], []⟩,
    ⟨3, none, (some 10), (.ld 1 false), [.t 9], []⟩,
    ⟨5, none, (some 12), (.fld 1), [.t 2], []⟩,
    ⟨6, none, (some 13), (.ld 1 false), [.t 12], []⟩,
    ⟨7, none, (some 14), (.fld 1), [.t 3], []⟩,
    ⟨8, none, (some 15), (.ld 1 false), [.t 14], []⟩,
    ⟨10, none, (some 17), (.fld 2), [.t 2], []⟩,
    ⟨11, none, (some 18), (.ld 1 false), [.t 17], []⟩,
    ⟨12, none, (some 19), (.fld 2), [.t 3], []⟩,
    ⟨13, none, (some 20), (.ld 1 false), [.t 19], []⟩,
    ⟨15, none, (some 22), (.fld 3), [.t 2], []⟩,
    ⟨16, none, (some 23), (.ld 1 false), [.t 22], []⟩,
    ⟨17, none, (some 24), (.fld 3), [.t 3], []⟩,
    ⟨18, none, (some 25), (.ld 1 false), [.t 24], []⟩,
    ⟨21, none, (some 28), .mov, [.c (.int .i64 0)], []⟩,
    ⟨4, none, (some 11), (.callp 93), [.t 8, .t 10], []⟩,
    ⟨9, none, (some 16), (.callp 93), [.t 13, .t 15], []⟩,
    ⟨14, none, (some 21), (.callp 93), [.t 18, .t 20], []⟩,
    ⟨19, none, (some 26), (.callp 93), [.t 23, .t 25], []⟩,
    ⟨20, none, (some 27), (.build [.int .i64 0, .int .i64 0, .int .i64 0, .int .i64 0] [(0, 1), (1, 1), (2, 1), (3, 1)]), [.t 11, .t 16, .t 21, .t 26], []⟩] [27, 28] []
def R91_2 : ACode := .reg none [
    ⟨0, none, (some 29), (.bin .lt), [.t 28, .c (.int .i64 4)], []⟩] [27, 28, 29] []
def R91_3 : ACode := .reg none [
    ⟨0, none, (some 30), (.ixv 4 1 false), [.t 27, .t 28], []⟩,
    ⟨1, none, (some 6), .mov, [.t 30], []⟩] [6, 27, 28] []
def R91_4 : ACode := .reg none [
    ⟨0, none, (some 31), .mov, [.t 6], []⟩,
    ⟨1, none, (some 32), (.bin .ne), [.t 31, .c (.int .i64 0)], []⟩] [6, 27, 28, 32] []
def R91_5 : ACode := .reg none [
    ⟨0, none, (some 33), .mov, [.t 6], []⟩,
    ⟨1, none, (some 4), .mov, [.t 33], []⟩] [4] []
def R91_6 : ACode := .reg none [
    ⟨0, none, (some 34), (.bin .add), [.t 28, .c (.int .i64 1)], []⟩,
    ⟨1, none, (some 28), .mov, [.t 34], []⟩] [27, 28] []
def R91_7 : ACode := .reg none [
    ⟨0, none, (some 4), .mov, [.c (.int .i64 0)], []⟩] [4] []
def C91 : ACode := (.seq R91_0 (.seq (.seq R91_1 (.block 0 (.loop (.seq R91_2 (.seq (.cond (.t 29) .skip (.exit 0)) (.seq (.block 1 (.seq R91_3 (.seq R91_4 (.cond (.t 32) (.seq R91_5 .ret) .skip)))) R91_6)))))) (.seq R91_7 .ret)))
def F91 : AFn := ⟨2, 35, [.tmp 4], C91⟩
theorem ok91 : fnOk Try.prog Try.f91 F91 = true := by kernel_rfl
theorem at91 : Try.prog.funcs[91]? = some Try.f91 := by kernel_rfl
/-! cmp.Compare[string] -/
def R92_0 : ACode := .reg none [
    ⟨0, none, (some 4), .mov, [.c (.int .i64 0)], []⟩] [0, 1] []
def R92_1 : ACode := .reg none [
    ⟨0, none, (some 7), .mov, [.t 0], []⟩,
    ⟨1, none, (some 8), (.callp 94), [.t 7], []⟩,
    ⟨2, none, (some 5), .mov, [.t 8], []⟩] [0, 1, 5] []
def R92_2 : ACode := .reg none [
    ⟨0, none, (some 9), .mov, [.t 1], []⟩,
    ⟨1, none, (some 10), (.callp 94), [.t 9], []⟩,
    ⟨2, none, (some 6), .mov, [.t 10], []⟩] [0, 1, 5, 6] []
def R92_3 : ACode := .reg none [
    ⟨0, none, (some 11), .mov, [.t 5], []⟩] [0, 1, 6, 11] []
def R92_4 : ACode := .reg none [
    ⟨0, none, (some 12), .mov, [.t 6], []⟩] [12] []
def R92_5 : ACode := .reg none [
    ⟨0, none, (some 4), .mov, [.c (.int .i64 0)], []⟩] [4] []
def R92_6 : ACode := .reg none [
    ⟨0, none, (some 4), .mov, [.c (.int .i64 (-1))], []⟩] [4] []
def R92_7 : ACode := .reg none [
    ⟨0, none, (some 13), .mov, [.t 6], []⟩] [0, 1, 13] []
def R92_8 : ACode := .reg none [
    ⟨0, none, (some 4), .mov, [.c (.int .i64 1)], []⟩] [4] []
def R92_9 : ACode := .reg none [
    ⟨0, none, (some 14), .mov, [.t 0], []⟩,
    ⟨1, none, (some 15), .mov, [.t 1], []⟩,
    ⟨2, none, (some 16), (.bin .lt), [.t 14, .t 15], []⟩] [0, 1, 16] []
def R92_10 : ACode := .reg none [
    ⟨0, none, (some 4), .mov, [.c (.int .i64 (-1))], []⟩] [4] []
def R92_11 : ACode := .reg none [
    ⟨0, none, (some 17), .mov, [.t 0], []⟩,
    ⟨1, none, (some 18), .mov, [.t 1], []⟩,
    ⟨2, none, (some 19), (.bin .gt), [.t 17, .t 18], []⟩] [19] []
def R92_12 : ACode := .reg none [
    ⟨0, none, (some 4), .mov, [.c (.int .i64 1)], []⟩] [4] []
def R92_13 : ACode := .reg none [
    ⟨0, none, (some 4), .mov, [.c (.int .i64 0)], []⟩] [4] []
def C92 : ACode := (.seq R92_0 (.seq R92_1 (.seq R92_2 (.seq (.seq R92_3 (.cond (.t 11) (.seq (.seq R92_4 (.cond (.t 12) (.seq R92_5 .ret) .skip)) (.seq R92_6 .ret)) .skip)) (.seq (.seq R92_7 (.cond (.t 13) (.seq R92_8 .ret) .skip)) (.seq (.seq R92_9 (.cond (.t 16) (.seq R92_10 .ret) .skip)) (.seq (.seq R92_11 (.cond (.t 19) (.seq R92_12 .ret) .skip)) (.seq R92_13 .ret))))))))
def F92 : AFn := ⟨2, 20, [.tmp 4], C92⟩
theorem ok92 : fnOk Try.prog Try.f92 F92 = true := by kernel_rfl
theorem at92 : Try.prog.funcs[92]? = some Try.f92 := by kernel_rfl
/-! seismonet/seismonetref03.compare -/
def R93_0 : ACode := .reg none [
    ⟨0, none, (some 4), .mov, [.c (.int .i64 0)], []⟩] [0, 1] []
def R93_1 : ACode := .reg none [
    ⟨0, none, (some 6), .mov, [.t 0], []⟩,
    ⟨1, none, (some 7), .mov, [.t 1], []⟩,
    ⟨2, none, (some 8), (.bin .lt), [.t 6, .t 7], []⟩,
    ⟨3, none, (some 5), .mov, [.t 8], []⟩] [0, 1, 5] []
def R93_2 : ACode := .reg none [
    ⟨0, none, (some 4), .mov, [.c (.int .i64 (-1))], []⟩] [4] []
def R93_3 : ACode := .reg none [
    ⟨0, none, (some 10), .mov, [.t 0], []⟩,
    ⟨1, none, (some 11), .mov, [.t 1], []⟩,
    ⟨2, none, (some 12), (.bin .gt), [.t 10, .t 11], []⟩,
    ⟨3, none, (some 9), .mov, [.t 12], []⟩] [9] []
def R93_4 : ACode := .reg none [
    ⟨0, none, (some 4), .mov, [.c (.int .i64 1)], []⟩] [4] []
def R93_5 : ACode := .reg none [
    ⟨0, none, (some 4), .mov, [.c (.int .i64 0)], []⟩] [4] []
def C93 : ACode := (.seq R93_0 (.seq (.block 0 (.seq R93_1 (.cond (.t 5) (.seq R93_2 .ret) (.seq R93_3 (.cond (.t 9) (.seq R93_4 .ret) .skip))))) (.seq R93_5 .ret)))
def F93 : AFn := ⟨2, 13, [.tmp 4], C93⟩
theorem ok93 : fnOk Try.prog Try.f93 F93 = true := by kernel_rfl
theorem at93 : Try.prog.funcs[93]? = some Try.f93 := by kernel_rfl
/-! cmp.isNaN[string] -/
def R94_0 : ACode := .reg none [
    ⟨0, none, (some 2), .mov, [.c (.bool false)], []⟩] [0] []
def R94_1 : ACode := .reg none [
    ⟨0, none, (some 3), .mov, [.t 0], []⟩,
    ⟨1, none, (some 4), .mov, [.t 0], []⟩,
    ⟨2, none, (some 5), (.bin .ne), [.t 3, .t 4], []⟩,
    ⟨3, none, (some 2), .mov, [.t 5], []⟩] [2] []
def C94 : ACode := (.seq R94_0 (.seq R94_1 .ret))
def F94 : AFn := ⟨1, 6, [.tmp 2], C94⟩
theorem ok94 : fnOk Try.prog Try.f94 F94 = true := by kernel_rfl
theorem at94 : Try.prog.funcs[94]? = some Try.f94 := by kernel_rfl
end Go.Proofs.Ytkdphdcpofcnjaa
