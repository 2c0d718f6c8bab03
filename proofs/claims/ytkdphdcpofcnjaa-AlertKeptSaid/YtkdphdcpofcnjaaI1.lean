/- Part of the proofs of the statements on alerts: texts that the last text is built on. -/
import Derived.Test.YtkdphdcpofcnjaaA2
import Derived.Test.YtkdphdcpofcnjaaProg
import Derived.KernelRfl
namespace Go.Proofs.Ytkdphdcpofcnjaa
open Go Abs
/-! seismonet/seismonetlaw36.AlertAgain -/
def R3_0 : ACode := .reg none [
    ⟨0, none, (some 2), .mov, [.c (.bool false)], []⟩] [0] []
def R3_1 : ACode := .reg none [
    ⟨0, none, (some 15), .mov, [.t 0], []⟩,
    ⟨1, none, (some 16), (.call 6), [.t 15], []⟩,
    ⟨2, none, (some 3), .mov, [.t 16], []⟩] [3] []
def R3_2 : ACode := .reg none [
    ⟨0, none, (some 17), .mov, [.t 3], []⟩,
    ⟨1, none, (some 18), (.call 7), [.t 17], []⟩,
    ⟨2, none, (some 4), (.newl 4 [.nils, .int .i64 0, .int .i64 0]), [], []⟩,
    ⟨3, none, none, (.st 3), [.t 4, .t 18], []⟩] [3, 4] [4]
def R3_3 : ACode := .reg (some [0, 0, 0, 4, 15, 31, 63, 63, 63, 127, 767, 2047]) [
    ⟨0, none, (some 20), .mov, [.t 3], []⟩,
    ⟨1, none, (some 21), (.ld 3 true), [.t 4], []⟩,
    ⟨2, none, (some 22), .mov, [.t 3], []⟩,
    ⟨3, none, (some 23), (.call 9), [.t 22, .c (.int .i64 4)], []⟩,
    ⟨4, none, (some 24), (.call 8), [.t 20, .t 21, .t 23], []⟩,
    ⟨5, none, (some 19), .mov, [.t 24], []⟩,
    ⟨6, none, (some 25), (.ext 0), [.t 19], []⟩,
    ⟨7, none, (some 26), (.ext 1), [.t 19], []⟩,
    ⟨8, none, (some 27), (.ext 2), [.t 19], []⟩,
    ⟨9, none, (some 5), .mov, [.t 25], []⟩,
    ⟨10, none, (some 6), .mov, [.t 26], []⟩,
    ⟨11, none, (some 7), .mov, [.t 27], []⟩] [3, 4, 5, 6, 7] [4]
def R3_4 : ACode := .reg none [
    ⟨0, none, (some 28), .mov, [.t 3], []⟩,
    ⟨1, none, (some 29), (.call 10), [.t 28, .c (.int .i64 4)], []⟩,
    ⟨2, none, (some 8), .mov, [.t 29], []⟩] [4, 5, 6, 7, 8] [4]
def R3_5 : ACode := .reg none [
    ⟨0, none, (some 31), (.ld 3 true), [.t 4], []⟩,
    ⟨1, none, (some 32), .mov, [.t 5], []⟩,
    ⟨2, none, (some 33), .mov, [.t 6], []⟩,
    ⟨3, none, (some 34), .mov, [.t 8], []⟩,
    ⟨4, none, (some 35), .mov, [.t 7], []⟩,
    ⟨5, none, (some 36), (.bin .add), [.t 35, .c (.int .i64 100)], []⟩,
    ⟨6, none, (some 37), (.callp 11), [.t 31, .t 32, .t 33, .t 34, .t 36], []⟩,
    ⟨7, none, (some 30), .mov, [.t 37], []⟩,
    ⟨8, none, (some 38), (.ext 0), [.t 30], []⟩,
    ⟨9, none, (some 39), (.ext 1), [.t 30], []⟩,
    ⟨10, none, (some 40), (.ext 2), [.t 30], []⟩,
    ⟨11, none, (some 9), .mov, [.t 38], []⟩,
    ⟨12, none, (some 10), .mov, [.t 39], []⟩,
    ⟨13, none, (some 11), .mov, [.t 40], []⟩] [4, 6, 7, 8, 9, 10, 11] [4]
def R3_6 : ACode := .reg none [
    ⟨0, none, (some 42), (.ld 3 true), [.t 4], []⟩,
    ⟨1, none, (some 43), .mov, [.t 9], []⟩,
    ⟨2, none, (some 44), .mov, [.t 6], []⟩,
    ⟨3, none, (some 45), .mov, [.t 10], []⟩,
    ⟨4, none, (some 46), .len, [.t 45], []⟩,
    ⟨5, none, (some 47), (.bin .add), [.t 44, .t 46], []⟩,
    ⟨6, none, (some 48), .mov, [.t 8], []⟩,
    ⟨7, none, (some 49), .mov, [.t 7], []⟩,
    ⟨8, none, (some 50), (.bin .add), [.t 49, .c (.int .i64 100)], []⟩,
    ⟨9, none, (some 51), (.callp 11), [.t 42, .t 43, .t 47, .t 48, .t 50], []⟩,
    ⟨10, none, (some 41), .mov, [.t 51], []⟩,
    ⟨11, none, (some 52), (.ext 0), [.t 41], []⟩,
    ⟨12, none, (some 53), (.ext 1), [.t 41], []⟩,
    ⟨13, none, (some 54), (.ext 2), [.t 41], []⟩,
    ⟨14, none, (some 12), .mov, [.t 52], []⟩,
    ⟨15, none, (some 13), .mov, [.t 53], []⟩,
    ⟨16, none, (some 14), .mov, [.t 54], []⟩] [9, 11, 12, 13, 14] []
def R3_7 : ACode := .reg none [
    ⟨0, none, (some 55), .mov, [.t 11], []⟩,
    ⟨1, none, (some 56), (.bin .eq), [.t 55, .c (.int .i64 0)], []⟩,
    ⟨2, none, (some 57), .mov, [.t 56], []⟩,
    ⟨3, (some (57, true)), (some 58), .mov, [.t 14], []⟩,
    ⟨4, (some (57, true)), (some 59), (.bin .eq), [.t 58, .c (.int .i64 0)], []⟩,
    ⟨5, none, (some 60), .pick, [.t 57, .t 59, .c (.bool false)], []⟩,
    ⟨6, none, (some 61), .mov, [.t 60], []⟩,
    ⟨7, (some (61, true)), (some 62), .mov, [.t 9], []⟩,
    ⟨8, (some (61, true)), (some 63), .mov, [.t 12], []⟩,
    ⟨9, (some (61, true)), (some 64), (.callp 12), [.t 62, .t 63], []⟩,
    ⟨10, none, (some 65), .pick, [.t 61, .t 64, .c (.bool false)], []⟩,
    ⟨11, none, (some 66), .mov, [.t 65], []⟩,
    ⟨12, (some (66, true)), (some 67), .mov, [.t 13], []⟩,
    ⟨13, (some (66, true)), (some 68), .len, [.t 67], []⟩,
    ⟨14, (some (66, true)), (some 69), (.bin .eq), [.t 68, .c (.int .i64 0)], []⟩,
    ⟨15, none, (some 70), .pick, [.t 66, .t 69, .c (.bool false)], []⟩,
    ⟨16, none, (some 71), .mov, [.t 70], []⟩,
    ⟨17, (some (71, true)), (some 72), (.callp 13), [], []⟩,
    ⟨18, none, (some 73), .pick, [.t 71, .t 72, .c (.bool false)], []⟩,
    ⟨19, none, (some 2), .mov, [.t 73], []⟩] [2] []
def C3 : ACode := (.seq R3_0 (.seq R3_1 (.seq R3_2 (.seq R3_3 (.seq R3_4 (.seq R3_5 (.seq R3_6 (.seq R3_7 .ret))))))))
def F3 : AFn := ⟨1, 74, [.tmp 2], C3⟩
theorem ok3 : fnOk Try.prog Try.f3 F3 = true := by kernel_rfl
theorem at3 : Try.prog.funcs[3]? = some Try.f3 := by kernel_rfl
/-! seismonet/seismonetlaw36.AlertKept -/
def R4_0 : ACode := .reg none [
    ⟨0, none, (some 2), .mov, [.c (.bool false)], []⟩] [0] []
def R4_1 : ACode := .reg none [
    ⟨0, none, (some 20), .mov, [.t 0], []⟩,
    ⟨1, none, (some 21), (.call 6), [.t 20], []⟩,
    ⟨2, none, (some 3), .mov, [.t 21], []⟩] [3] []
def R4_2 : ACode := .reg none [
    ⟨0, none, (some 22), .mov, [.t 3], []⟩,
    ⟨1, none, (some 23), (.call 7), [.t 22], []⟩,
    ⟨2, none, (some 4), (.newl 4 [.nils, .int .i64 0, .int .i64 0]), [], []⟩,
    ⟨3, none, none, (.st 3), [.t 4, .t 23], []⟩] [3, 4] [4]
def R4_3 : ACode := .reg (some [0, 0, 0, 4, 15, 31, 63, 63, 63, 127, 767, 2047]) [
    ⟨0, none, (some 25), .mov, [.t 3], []⟩,
    ⟨1, none, (some 26), (.ld 3 true), [.t 4], []⟩,
    ⟨2, none, (some 27), .mov, [.t 3], []⟩,
    ⟨3, none, (some 28), (.call 9), [.t 27, .c (.int .i64 5)], []⟩,
    ⟨4, none, (some 29), (.call 8), [.t 25, .t 26, .t 28], []⟩,
    ⟨5, none, (some 24), .mov, [.t 29], []⟩,
    ⟨6, none, (some 30), (.ext 0), [.t 24], []⟩,
    ⟨7, none, (some 31), (.ext 1), [.t 24], []⟩,
    ⟨8, none, (some 32), (.ext 2), [.t 24], []⟩,
    ⟨9, none, (some 5), .mov, [.t 30], []⟩,
    ⟨10, none, (some 6), .mov, [.t 31], []⟩,
    ⟨11, none, (some 7), .mov, [.t 32], []⟩] [3, 4, 5, 6, 7] [4]
def R4_4 : ACode := .reg none [
    ⟨0, none, (some 33), .mov, [.t 3], []⟩,
    ⟨1, none, (some 34), (.call 10), [.t 33, .c (.int .i64 5)], []⟩,
    ⟨2, none, (some 8), .mov, [.t 34], []⟩] [3, 4, 5, 6, 7, 8] [4]
def R4_5 : ACode := .reg (some [0, 0, 0, 0, 0, 0, 32, 112, 255, 511, 1023, 1023, 1023, 2047, 12287, 32767]) [
    ⟨0, none, (some 36), (.ld 3 true), [.t 4], []⟩,
    ⟨1, none, (some 37), .mov, [.t 5], []⟩,
    ⟨2, none, (some 38), .mov, [.t 6], []⟩,
    ⟨3, none, (some 39), .mov, [.t 8], []⟩,
    ⟨4, none, (some 40), .mov, [.t 7], []⟩,
    ⟨5, none, (some 41), .mov, [.t 3], []⟩,
    ⟨6, none, (some 42), (.call 9), [.t 41, .c (.int .i64 400)], []⟩,
    ⟨7, none, (some 43), (.bin .add), [.t 40, .t 42], []⟩,
    ⟨8, none, (some 44), (.callp 11), [.t 36, .t 37, .t 38, .t 39, .t 43], []⟩,
    ⟨9, none, (some 35), .mov, [.t 44], []⟩,
    ⟨10, none, (some 45), (.ext 0), [.t 35], []⟩,
    ⟨11, none, (some 46), (.ext 1), [.t 35], []⟩,
    ⟨12, none, (some 47), (.ext 2), [.t 35], []⟩,
    ⟨13, none, (some 9), .mov, [.t 45], []⟩,
    ⟨14, none, (some 10), .mov, [.t 46], []⟩,
    ⟨15, none, (some 11), .mov, [.t 47], []⟩] [5, 8, 9, 10, 11] []
def R4_6 : ACode := .reg none [
    ⟨0, none, (some 48), .mov, [.t 11], []⟩,
    ⟨1, none, (some 49), (.bin .ne), [.t 48, .c (.int .i64 0)], []⟩,
    ⟨2, none, (some 50), .mov, [.t 49], []⟩,
    ⟨3, (some (50, false)), (some 51), .mov, [.t 9], []⟩,
    ⟨4, (some (50, false)), (some 52), (.callp 14), [.t 51], []⟩,
    ⟨5, (some (50, false)), (some 53), .not, [.t 52], []⟩,
    ⟨6, none, (some 54), .pick, [.t 50, .c (.bool true), .t 53], []⟩,
    ⟨7, none, (some 55), .mov, [.t 54], []⟩,
    ⟨8, (some (55, false)), (some 56), .mov, [.t 9], []⟩,
    ⟨9, (some (55, false)), (some 57), .len, [.t 56], []⟩,
    ⟨10, (some (55, false)), (some 58), .mov, [.t 5], []⟩,
    ⟨11, (some (55, false)), (some 59), .len, [.t 58], []⟩,
    ⟨12, (some (55, false)), (some 60), (.bin .lt), [.t 57, .t 59], []⟩,
    ⟨13, none, (some 61), .pick, [.t 55, .c (.bool true), .t 60], []⟩] [5, 8, 9, 10, 61] []
def R4_7 : ACode := .reg none [
    ⟨0, none, (some 2), .mov, [.c (.bool false)], []⟩] [2] []
def R4_8 : ACode := .reg none [
    ⟨0, none, (some 12), .mov, [.c (.int .i64 0)], []⟩] [5, 8, 9, 10, 12] []
def R4_9 : ACode := .reg none [
    ⟨0, none, (some 62), .mov, [.t 10], []⟩,
    ⟨1, none, (some 63), .len, [.t 62], []⟩,
    ⟨2, none, (some 64), .mov, [.c (.int .i64 0)], []⟩] [5, 8, 9, 12, 62, 63, 64] []
def R4_10 : ACode := .reg none [
    ⟨0, none, (some 65), (.bin .lt), [.t 64, .t 63], []⟩] [5, 8, 9, 12, 62, 63, 64, 65] []
def R4_11 : ACode := .reg none [
    ⟨0, none, (some 66), (.ix 30), [.t 62, .t 64], []⟩,
    ⟨1, none, (some 67), (.ldh 30 true), [.t 66], []⟩,
    ⟨2, none, (some 14), (.newl 14 [.int .i64 0, .int .i64 0, .int .i64 0, .int .i64 0, .int .i64 0, .str ⟨#[]⟩, .str ⟨#[]⟩, .str ⟨#[]⟩, .str ⟨#[]⟩, .int .i64 0, .int .i64 0, .int .i64 0, .int .i64 0, .int .i64 0, .nils, .int .i64 0, .int .i64 0, .int .i64 0, .int .i64 0, .int .i64 0, .int .i64 0, .int .i64 0, .int .i64 0, .int .i64 0, .int .i64 0, .int .i64 0, .int .i64 0, .int .i64 0, .int .i64 0, .int .i64 0]), [], []⟩,
    ⟨3, none, none, (.st 30), [.t 14, .t 67], []⟩] [5, 8, 9, 12, 14, 62, 63, 64] [14]
def R4_12 : ACode := .reg none [
    ⟨0, none, (some 68), (.fld 1), [.t 14], []⟩,
    ⟨1, none, (some 69), (.ld 1 false), [.t 68], []⟩,
    ⟨2, none, (some 70), (.bin .eq), [.t 69, .c (.int .i64 1)], []⟩] [5, 8, 9, 12, 62, 63, 64, 70] []
def R4_13 : ACode := .reg none [
    ⟨0, none, (some 71), .mov, [.t 12], []⟩,
    ⟨1, none, (some 72), (.bin .add), [.t 71, .c (.int .i64 1)], []⟩,
    ⟨2, none, (some 12), .mov, [.t 72], []⟩] [5, 8, 9, 12, 62, 63, 64] []
def R4_14 : ACode := .reg none [
    ⟨0, none, (some 73), (.bin .add), [.t 64, .c (.int .i64 1)], []⟩,
    ⟨1, none, (some 64), .mov, [.t 73], []⟩] [5, 8, 9, 12, 62, 63, 64] []
def R4_15 : ACode := .reg none [
    ⟨0, none, (some 74), .mov, [.t 5], []⟩,
    ⟨1, none, (some 75), .len, [.t 74], []⟩,
    ⟨2, none, (some 76), .mov, [.c (.int .i64 0)], []⟩] [5, 8, 9, 12, 75, 76] []
def R4_16 : ACode := .reg none [
    ⟨0, none, (some 77), (.bin .lt), [.t 76, .t 75], []⟩] [5, 8, 9, 12, 75, 76, 77] []
def R4_17 : ACode := .reg none [
    ⟨0, none, (some 78), .mov, [.t 76], []⟩,
    ⟨1, none, (some 15), .mov, [.t 78], []⟩] [5, 8, 9, 12, 15, 75, 76] []
def R4_18 : ACode := .reg (some [0, 0, 3, 7, 15, 0, 0, 96, 224, 480, 1023, 2047, 4095, 4095, 16383, 32767, 65535, 131071, 262143, 262143, 262143, 1310719, 4194303, 262143, 262143, 262143, 33816575, 126091263, 268435455, 536870911, 1073741823, 2147483647]) [
    ⟨0, none, (some 79), .mov, [.t 5], []⟩,
    ⟨1, none, (some 80), .mov, [.t 15], []⟩,
    ⟨2, none, (some 81), (.ix 38), [.t 79, .t 80], []⟩,
    ⟨3, none, (some 82), (.fld 0), [.t 81], []⟩,
    ⟨4, none, (some 83), (.ldh 1 false), [.t 82], []⟩,
    ⟨5, none, (some 84), .mov, [.t 9], []⟩,
    ⟨6, none, (some 85), .mov, [.t 15], []⟩,
    ⟨7, none, (some 86), (.ix 38), [.t 84, .t 85], []⟩,
    ⟨8, none, (some 87), (.fld 0), [.t 86], []⟩,
    ⟨9, none, (some 88), (.ldh 1 false), [.t 87], []⟩,
    ⟨10, none, (some 89), (.bin .ne), [.t 83, .t 88], []⟩,
    ⟨11, none, (some 90), .mov, [.t 89], []⟩,
    ⟨12, (some (90, false)), (some 91), .mov, [.t 5], []⟩,
    ⟨13, (some (90, false)), (some 92), .mov, [.t 15], []⟩,
    ⟨14, (some (90, false)), (some 93), (.ix 38), [.t 91, .t 92], []⟩,
    ⟨15, (some (90, false)), (some 94), (.fld 1), [.t 93], []⟩,
    ⟨16, (some (90, false)), (some 95), (.ldh 1 false), [.t 94], []⟩,
    ⟨17, (some (90, false)), (some 96), .mov, [.t 95], []⟩,
    ⟨18, (some (96, true)), (some 97), .mov, [.t 5], []⟩,
    ⟨19, (some (96, true)), (some 98), .mov, [.t 15], []⟩,
    ⟨20, (some (96, true)), (some 99), .mov, [.t 15], []⟩,
    ⟨21, (some (96, true)), (some 100), (.bin .add), [.t 99, .c (.int .i64 1)], []⟩,
    ⟨22, (some (96, true)), (some 101), (.slc 38 true true false), [.t 97, .t 98, .t 100], []⟩,
    ⟨23, (some (96, true)), (some 102), .mov, [.t 9], []⟩,
    ⟨24, (some (96, true)), (some 103), .mov, [.t 15], []⟩,
    ⟨25, (some (96, true)), (some 104), .mov, [.t 15], []⟩,
    ⟨26, (some (96, true)), (some 105), (.bin .add), [.t 104, .c (.int .i64 1)], []⟩,
    ⟨27, (some (96, true)), (some 106), (.slc 38 true true false), [.t 102, .t 103, .t 105], []⟩,
    ⟨28, (some (96, true)), (some 107), (.callp 12), [.t 101, .t 106], []⟩,
    ⟨29, (some (96, true)), (some 108), .not, [.t 107], []⟩,
    ⟨30, (some (90, false)), (some 109), .pick, [.t 96, .t 108, .c (.bool false)], []⟩,
    ⟨31, none, (some 110), .pick, [.t 90, .c (.bool true), .t 109], []⟩] [5, 8, 9, 12, 75, 76, 110] []
def R4_19 : ACode := .reg none [
    ⟨0, none, (some 2), .mov, [.c (.bool false)], []⟩] [2] []
def R4_20 : ACode := .reg none [
    ⟨0, none, (some 111), (.bin .add), [.t 76, .c (.int .i64 1)], []⟩,
    ⟨1, none, (some 76), .mov, [.t 111], []⟩] [5, 8, 9, 12, 75, 76] []
def R4_21 : ACode := .reg none [
    ⟨0, none, (some 112), .mov, [.t 8], []⟩,
    ⟨1, none, (some 113), .len, [.t 112], []⟩,
    ⟨2, none, (some 114), (.mkl 114 [.bool false] 281474976710656), [.t 113], []⟩,
    ⟨3, none, (some 16), .mov, [.t 114], []⟩] [5, 8, 9, 12, 16] [114]
def R4_22 : ACode := .reg none [
    ⟨0, none, (some 115), .mov, [.t 9], []⟩,
    ⟨1, none, (some 116), .mov, [.t 8], []⟩,
    ⟨2, none, (some 117), (.callp 15), [.t 115, .t 116], []⟩,
    ⟨3, none, (some 17), .mov, [.t 117], []⟩] [5, 8, 9, 12, 16, 17] [114]
def R4_23 : ACode := .reg none [
    ⟨0, none, (some 118), .mov, [.t 17], []⟩,
    ⟨1, none, (some 119), .len, [.t 118], []⟩,
    ⟨2, none, (some 120), .mov, [.c (.int .i64 0)], []⟩] [5, 8, 9, 12, 16, 17, 118, 119, 120] [114]
def R4_24 : ACode := .reg none [
    ⟨0, none, (some 121), (.bin .lt), [.t 120, .t 119], []⟩] [5, 8, 9, 12, 16, 17, 118, 119, 120, 121] [114]
def R4_25 : ACode := .reg none [
    ⟨0, none, (some 122), .mov, [.t 120], []⟩,
    ⟨1, none, (some 123), (.ix 1), [.t 118, .t 120], []⟩,
    ⟨2, none, (some 124), (.ldh 1 false), [.t 123], []⟩,
    ⟨3, none, (some 18), .mov, [.t 122], []⟩,
    ⟨4, none, (some 19), .mov, [.t 124], []⟩] [5, 8, 9, 12, 16, 17, 18, 19, 118, 119, 120] [114]
def R4_26 : ACode := .reg none [
    ⟨0, none, (some 125), .mov, [.t 19], []⟩,
    ⟨1, none, (some 126), (.bin .lt), [.t 125, .c (.int .i64 (-1))], []⟩,
    ⟨2, none, (some 127), .mov, [.t 126], []⟩,
    ⟨3, (some (127, false)), (some 128), .mov, [.t 19], []⟩,
    ⟨4, (some (127, false)), (some 129), .mov, [.t 8], []⟩,
    ⟨5, (some (127, false)), (some 130), .len, [.t 129], []⟩,
    ⟨6, (some (127, false)), (some 131), (.bin .ge), [.t 128, .t 130], []⟩,
    ⟨7, none, (some 132), .pick, [.t 127, .c (.bool true), .t 131], []⟩,
    ⟨8, none, (some 133), .mov, [.t 132], []⟩,
    ⟨9, (some (133, false)), (some 134), .mov, [.t 19], []⟩,
    ⟨10, (some (133, false)), (some 135), (.bin .ge), [.t 134, .c (.int .i64 0)], []⟩,
    ⟨11, (some (133, false)), (some 136), .mov, [.t 135], []⟩,
    ⟨12, (some (136, true)), (some 137), .mov, [.t 16], []⟩,
    ⟨13, (some (136, true)), (some 138), .mov, [.t 19], []⟩,
    ⟨14, (some (136, true)), (some 139), (.ix 1), [.t 137, .t 138], []⟩,
    ⟨15, (some (136, true)), (some 140), (.ld 1 false), [.t 139], []⟩,
    ⟨16, (some (136, true)), (some 141), .mov, [.t 140], []⟩,
    ⟨17, (some (141, false)), (some 142), .mov, [.t 18], []⟩,
    ⟨18, (some (141, false)), (some 143), .mov, [.t 9], []⟩,
    ⟨19, (some (141, false)), (some 144), .len, [.t 143], []⟩,
    ⟨20, (some (141, false)), (some 145), (.bin .lt), [.t 142, .t 144], []⟩,
    ⟨21, (some (141, false)), (some 146), .mov, [.t 145], []⟩,
    ⟨22, (some (146, true)), (some 147), .mov, [.t 9], []⟩,
    ⟨23, (some (146, true)), (some 148), .mov, [.t 18], []⟩,
    ⟨24, (some (146, true)), (some 149), (.ix 38), [.t 147, .t 148], []⟩,
    ⟨25, (some (146, true)), (some 150), (.fld 1), [.t 149], []⟩,
    ⟨26, (some (146, true)), (some 151), (.ldh 1 false), [.t 150], []⟩,
    ⟨27, (some (141, false)), (some 152), .pick, [.t 146, .t 151, .c (.bool false)], []⟩,
    ⟨28, (some (136, true)), (some 153), .pick, [.t 141, .c (.bool true), .t 152], []⟩,
    ⟨29, (some (133, false)), (some 154), .pick, [.t 136, .t 153, .c (.bool false)], []⟩,
    ⟨30, none, (some 155), .pick, [.t 133, .c (.bool true), .t 154], []⟩] [5, 8, 9, 12, 16, 17, 19, 118, 119, 120, 155] [114]
def R4_27 : ACode := .reg none [
    ⟨0, none, (some 2), .mov, [.c (.bool false)], []⟩] [2] []
def R4_28 : ACode := .reg none [
    ⟨0, none, (some 156), .mov, [.t 19], []⟩,
    ⟨1, none, (some 157), (.bin .ge), [.t 156, .c (.int .i64 0)], []⟩] [5, 8, 9, 12, 16, 17, 19, 118, 119, 120, 157] [114]
def R4_29 : ACode := .reg none [
    ⟨0, none, (some 158), .mov, [.t 16], []⟩,
    ⟨1, none, (some 159), .mov, [.t 19], []⟩,
    ⟨2, none, (some 160), (.ix 1), [.t 158, .t 159], []⟩,
    ⟨3, none, none, (.st 1), [.t 160, .c (.bool true)], []⟩] [5, 8, 9, 12, 16, 17, 118, 119, 120] [114]
def R4_30 : ACode := .reg none [
    ⟨0, none, (some 161), (.bin .add), [.t 120, .c (.int .i64 1)], []⟩,
    ⟨1, none, (some 120), .mov, [.t 161], []⟩] [5, 8, 9, 12, 16, 17, 118, 119, 120] [114]
def R4_31 : ACode := .reg none [
    ⟨0, none, (some 162), .mov, [.t 9], []⟩,
    ⟨1, none, (some 163), .len, [.t 162], []⟩,
    ⟨2, none, (some 164), .mov, [.t 5], []⟩,
    ⟨3, none, (some 165), .len, [.t 164], []⟩,
    ⟨4, none, (some 166), .mov, [.t 12], []⟩,
    ⟨5, none, (some 167), (.bin .add), [.t 165, .t 166], []⟩,
    ⟨6, none, (some 168), (.bin .eq), [.t 163, .t 167], []⟩,
    ⟨7, none, (some 169), .mov, [.t 168], []⟩,
    ⟨8, (some (169, true)), (some 170), .mov, [.t 17], []⟩,
    ⟨9, (some (169, true)), (some 171), .len, [.t 170], []⟩,
    ⟨10, (some (169, true)), (some 172), .mov, [.t 9], []⟩,
    ⟨11, (some (169, true)), (some 173), .len, [.t 172], []⟩,
    ⟨12, (some (169, true)), (some 174), (.bin .eq), [.t 171, .t 173], []⟩,
    ⟨13, none, (some 175), .pick, [.t 169, .t 174, .c (.bool false)], []⟩,
    ⟨14, none, (some 176), .mov, [.t 175], []⟩,
    ⟨15, (some (176, true)), (some 177), (.callp 13), [], []⟩,
    ⟨16, none, (some 178), .pick, [.t 176, .t 177, .c (.bool false)], []⟩,
    ⟨17, none, (some 2), .mov, [.t 178], []⟩] [2] []
def C4 : ACode := (.seq R4_0 (.seq R4_1 (.seq R4_2 (.seq R4_3 (.seq R4_4 (.seq R4_5 (.seq (.seq R4_6 (.cond (.t 61) (.seq R4_7 .ret) .skip)) (.seq R4_8 (.seq (.seq R4_9 (.block 0 (.loop (.seq R4_10 (.seq (.cond (.t 65) .skip (.exit 0)) (.seq (.block 1 (.seq R4_11 (.seq R4_12 (.cond (.t 70) R4_13 .skip)))) R4_14)))))) (.seq (.seq R4_15 (.block 2 (.loop (.seq R4_16 (.seq (.cond (.t 77) .skip (.exit 2)) (.seq (.block 3 (.seq R4_17 (.seq R4_18 (.cond (.t 110) (.seq R4_19 .ret) .skip)))) R4_20)))))) (.seq R4_21 (.seq R4_22 (.seq (.seq R4_23 (.block 4 (.loop (.seq R4_24 (.seq (.cond (.t 121) .skip (.exit 4)) (.seq (.block 5 (.seq R4_25 (.seq (.seq R4_26 (.cond (.t 155) (.seq R4_27 .ret) .skip)) (.seq R4_28 (.cond (.t 157) R4_29 .skip))))) R4_30)))))) (.seq R4_31 .ret))))))))))))))
def F4 : AFn := ⟨1, 179, [.tmp 2], C4⟩
theorem ok4 : fnOk Try.prog Try.f4 F4 = true := by kernel_rfl
theorem at4 : Try.prog.funcs[4]? = some Try.f4 := by kernel_rfl
/-! seismonet/seismonetlaw36.AlertDisappears -/
def R5_0 : ACode := .reg none [
    ⟨0, none, (some 2), .mov, [.c (.bool false)], []⟩] [0] []
def R5_1 : ACode := .reg none [
    ⟨0, none, (some 14), .mov, [.t 0], []⟩,
    ⟨1, none, (some 15), (.call 6), [.t 14], []⟩,
    ⟨2, none, (some 3), .mov, [.t 15], []⟩] [3] []
def R5_2 : ACode := .reg none [
    ⟨0, none, (some 16), .mov, [.t 3], []⟩,
    ⟨1, none, (some 17), (.call 7), [.t 16], []⟩,
    ⟨2, none, (some 4), (.newl 4 [.nils, .int .i64 0, .int .i64 0]), [], []⟩,
    ⟨3, none, none, (.st 3), [.t 4, .t 17], []⟩] [3, 4] [4]
def R5_3 : ACode := .reg (some [0, 0, 0, 4, 15, 31, 63, 63, 63, 127, 767, 2047]) [
    ⟨0, none, (some 19), .mov, [.t 3], []⟩,
    ⟨1, none, (some 20), (.ld 3 true), [.t 4], []⟩,
    ⟨2, none, (some 21), .mov, [.t 3], []⟩,
    ⟨3, none, (some 22), (.call 9), [.t 21, .c (.int .i64 5)], []⟩,
    ⟨4, none, (some 23), (.call 8), [.t 19, .t 20, .t 22], []⟩,
    ⟨5, none, (some 18), .mov, [.t 23], []⟩,
    ⟨6, none, (some 24), (.ext 0), [.t 18], []⟩,
    ⟨7, none, (some 25), (.ext 1), [.t 18], []⟩,
    ⟨8, none, (some 26), (.ext 2), [.t 18], []⟩,
    ⟨9, none, (some 5), .mov, [.t 24], []⟩,
    ⟨10, none, (some 6), .mov, [.t 25], []⟩,
    ⟨11, none, (some 7), .mov, [.t 26], []⟩] [4, 5, 6, 7] [4]
def R5_4 : ACode := .reg none [
    ⟨0, none, (some 28), (.ld 3 true), [.t 4], []⟩,
    ⟨1, none, (some 29), .mov, [.t 5], []⟩,
    ⟨2, none, (some 30), .mov, [.t 6], []⟩,
    ⟨3, none, (some 31), .mov, [.t 7], []⟩,
    ⟨4, none, (some 32), (.callp 11), [.t 28, .t 29, .t 30, .c (.nils), .t 31], []⟩,
    ⟨5, none, (some 27), .mov, [.t 32], []⟩,
    ⟨6, none, (some 33), (.ext 0), [.t 27], []⟩,
    ⟨7, none, (some 34), (.ext 1), [.t 27], []⟩,
    ⟨8, none, (some 35), (.ext 2), [.t 27], []⟩,
    ⟨9, none, (some 8), .mov, [.t 33], []⟩,
    ⟨10, none, (some 9), .mov, [.t 34], []⟩,
    ⟨11, none, (some 10), .mov, [.t 35], []⟩] [5, 8, 9, 10] []
def R5_5 : ACode := .reg none [
    ⟨0, none, (some 36), .mov, [.t 10], []⟩,
    ⟨1, none, (some 37), (.bin .ne), [.t 36, .c (.int .i64 0)], []⟩,
    ⟨2, none, (some 38), .mov, [.t 37], []⟩,
    ⟨3, (some (38, false)), (some 39), .mov, [.t 8], []⟩,
    ⟨4, (some (38, false)), (some 40), (.callp 16), [.t 39], []⟩,
    ⟨5, (some (38, false)), (some 41), .len, [.t 40], []⟩,
    ⟨6, (some (38, false)), (some 42), (.bin .gt), [.t 41, .c (.int .i64 0)], []⟩,
    ⟨7, none, (some 43), .pick, [.t 38, .c (.bool true), .t 42], []⟩,
    ⟨8, none, (some 44), .mov, [.t 43], []⟩,
    ⟨9, (some (44, false)), (some 45), .mov, [.t 9], []⟩,
    ⟨10, (some (44, false)), (some 46), .len, [.t 45], []⟩,
    ⟨11, (some (44, false)), (some 47), .mov, [.t 5], []⟩,
    ⟨12, (some (44, false)), (some 48), (.callp 17), [.t 47], []⟩,
    ⟨13, (some (44, false)), (some 49), .len, [.t 48], []⟩,
    ⟨14, (some (44, false)), (some 50), (.bin .ne), [.t 46, .t 49], []⟩,
    ⟨15, none, (some 51), .pick, [.t 44, .c (.bool true), .t 50], []⟩] [5, 9, 51] []
def R5_6 : ACode := .reg none [
    ⟨0, none, (some 2), .mov, [.c (.bool false)], []⟩] [2] []
def R5_7 : ACode := .reg none [
    ⟨0, none, (some 52), .mov, [.t 5], []⟩,
    ⟨1, none, (some 53), (.callp 17), [.t 52], []⟩,
    ⟨2, none, (some 54), .len, [.t 53], []⟩,
    ⟨3, none, (some 55), .mov, [.c (.int .i64 0)], []⟩] [9, 53, 54, 55] []
def R5_8 : ACode := .reg none [
    ⟨0, none, (some 56), (.bin .lt), [.t 55, .t 54], []⟩] [9, 53, 54, 55, 56] []
def R5_9 : ACode := .reg none [
    ⟨0, none, (some 57), .mov, [.t 55], []⟩,
    ⟨1, none, (some 58), (.ix 38), [.t 53, .t 55], []⟩,
    ⟨2, none, (some 59), (.ldh 38 true), [.t 58], []⟩,
    ⟨3, none, (some 12), (.newl 12 [.int .i64 0, .bool false, .str ⟨#[]⟩, .str ⟨#[]⟩, .str ⟨#[]⟩, .str ⟨#[]⟩, .int .i64 0, .int .i64 0, .int .i64 0, .int .i64 0, .int .i64 0, .int .i64 0, .str ⟨#[]⟩, .str ⟨#[]⟩, .str ⟨#[]⟩, .str ⟨#[]⟩, .int .i64 0, .int .i64 0, .int .i64 0, .int .i64 0, .int .i64 0, .nils, .int .i64 0, .int .i64 0, .int .i64 0, .int .i64 0, .int .i64 0, .int .i64 0, .int .i64 0, .int .i64 0, .int .i64 0, .int .i64 0, .int .i64 0, .int .i64 0, .int .i64 0, .int .i64 0, .int .i64 0, .int .i64 0]), [], []⟩,
    ⟨4, none, (some 11), .mov, [.t 57], []⟩,
    ⟨5, none, none, (.st 38), [.t 12, .t 59], []⟩] [9, 11, 12, 53, 54, 55] [12]
def R5_10 : ACode := .reg none [
    ⟨0, none, (some 60), .mov, [.t 9], []⟩,
    ⟨1, none, (some 61), .mov, [.t 11], []⟩,
    ⟨2, none, (some 62), (.ix 30), [.t 60, .t 61], []⟩,
    ⟨3, none, (some 63), (.ldh 30 true), [.t 62], []⟩,
    ⟨4, none, (some 13), (.newl 13 [.int .i64 0, .int .i64 0, .int .i64 0, .int .i64 0, .int .i64 0, .str ⟨#[]⟩, .str ⟨#[]⟩, .str ⟨#[]⟩, .str ⟨#[]⟩, .int .i64 0, .int .i64 0, .int .i64 0, .int .i64 0, .int .i64 0, .nils, .int .i64 0, .int .i64 0, .int .i64 0, .int .i64 0, .int .i64 0, .int .i64 0, .int .i64 0, .int .i64 0, .int .i64 0, .int .i64 0, .int .i64 0, .int .i64 0, .int .i64 0, .int .i64 0, .int .i64 0]), [], []⟩,
    ⟨5, none, none, (.st 30), [.t 13, .t 63], []⟩] [9, 12, 13, 53, 54, 55] [12, 13]
def R5_11 : ACode := .reg none [
    ⟨0, none, (some 64), (.fld 1), [.t 13], []⟩,
    ⟨1, none, (some 65), (.ld 1 false), [.t 64], []⟩,
    ⟨2, none, (some 66), (.bin .ne), [.t 65, .c (.int .i64 3)], []⟩,
    ⟨3, none, (some 67), .mov, [.t 66], []⟩,
    ⟨4, (some (67, false)), (some 68), (.fld 2), [.t 13], []⟩,
    ⟨5, (some (67, false)), (some 69), (.ld 1 false), [.t 68], []⟩,
    ⟨6, (some (67, false)), (some 70), (.fld 0), [.t 12], []⟩,
    ⟨7, (some (67, false)), (some 71), (.ld 1 false), [.t 70], []⟩,
    ⟨8, (some (67, false)), (some 72), (.bin .ne), [.t 69, .t 71], []⟩,
    ⟨9, none, (some 73), .pick, [.t 67, .c (.bool true), .t 72], []⟩,
    ⟨10, none, (some 74), .mov, [.t 73], []⟩,
    ⟨11, (some (74, false)), (some 75), (.fld 4), [.t 13], []⟩,
    ⟨12, (some (74, false)), (some 76), (.ld 1 false), [.t 75], []⟩,
    ⟨13, (some (74, false)), (some 77), (.fld 11), [.t 12], []⟩,
    ⟨14, (some (74, false)), (some 78), (.ld 1 false), [.t 77], []⟩,
    ⟨15, (some (74, false)), (some 79), (.bin .ne), [.t 76, .t 78], []⟩,
    ⟨16, none, (some 80), .pick, [.t 74, .c (.bool true), .t 79], []⟩,
    ⟨17, none, (some 81), .mov, [.t 80], []⟩,
    ⟨18, (some (81, false)), (some 82), (.fld 5), [.t 13], []⟩,
    ⟨19, (some (81, false)), (some 83), (.ld 25 true), [.t 82], []⟩,
    ⟨20, (some (81, false)), (some 84), (.fld 12), [.t 12], []⟩,
    ⟨21, (some (81, false)), (some 85), (.ld 25 true), [.t 84], []⟩,
    ⟨22, (some (81, false)), (some 86), (.callp 18), [.t 83, .t 85], []⟩,
    ⟨23, (some (81, false)), (some 87), .not, [.t 86], []⟩,
    ⟨24, none, (some 88), .pick, [.t 81, .c (.bool true), .t 87], []⟩] [9, 53, 54, 55, 88] []
def R5_12 : ACode := .reg none [
    ⟨0, none, (some 2), .mov, [.c (.bool false)], []⟩] [2] []
def R5_13 : ACode := .reg none [
    ⟨0, none, (some 89), (.bin .add), [.t 55, .c (.int .i64 1)], []⟩,
    ⟨1, none, (some 55), .mov, [.t 89], []⟩] [9, 53, 54, 55] []
def R5_14 : ACode := .reg none [
    ⟨0, none, (some 90), (.callp 13), [], []⟩,
    ⟨1, none, (some 2), .mov, [.t 90], []⟩] [2] []
def C5 : ACode := (.seq R5_0 (.seq R5_1 (.seq R5_2 (.seq R5_3 (.seq R5_4 (.seq (.seq R5_5 (.cond (.t 51) (.seq R5_6 .ret) .skip)) (.seq (.seq R5_7 (.block 0 (.loop (.seq R5_8 (.seq (.cond (.t 56) .skip (.exit 0)) (.seq (.block 1 (.seq R5_9 (.seq R5_10 (.seq R5_11 (.cond (.t 88) (.seq R5_12 .ret) .skip))))) R5_13)))))) (.seq R5_14 .ret))))))))
def F5 : AFn := ⟨1, 91, [.tmp 2], C5⟩
theorem ok5 : fnOk Try.prog Try.f5 F5 = true := by kernel_rfl
theorem at5 : Try.prog.funcs[5]? = some Try.f5 := by kernel_rfl
/-! seismonet/seismonetkeep.New -/
def R6_0 : ACode := .reg none [
    ⟨0, none, (some 2), .mov, [.c (.nilp)], []⟩] [0] []
def R6_1 : ACode := .reg none [
    ⟨0, none, (some 3), .mov, [.t 0], []⟩,
    ⟨1, none, (some 4), .mov, [.t 0], []⟩,
    ⟨2, none, (some 5), .len, [.t 4], []⟩,
    ⟨3, none, (some 6), .mn, [.t 5, .c (.int .i64 2000)], []⟩,
    ⟨4, none, (some 7), (.slc 1 false true false), [.t 3, .t 6], []⟩,
    ⟨5, none, (some 8), (.build [.nils, .int .i64 0] [(0, 1)]), [.t 7], []⟩,
    ⟨6, none, (some 9), .boxh, [.t 8], []⟩,
    ⟨7, none, (some 2), .mov, [.t 9], []⟩] [2] []
def C6 : ACode := (.seq R6_0 (.seq R6_1 .ret))
def F6 : AFn := ⟨1, 10, [.tmp 2], C6⟩
theorem ok6 : fnOk Try.prog Try.f6 F6 = true := by kernel_rfl
theorem at6 : Try.prog.funcs[6]? = some Try.f6 := by kernel_rfl
/-! (*seismonet/seismonetkeep.Src).Policy -/
def R7_0 : ACode := .reg none [
    ⟨0, none, (some 2), (.newl 2 [.nils, .int .i64 0, .int .i64 0]), [], []⟩] [0, 2] [2]
def R7_1 : ACode := .reg none [
    ⟨0, none, (some 5), .mov, [.t 0], []⟩,
    ⟨1, none, (some 6), (.bslice 4 1 [.int .i64 0] [0, 1, 2, 3]), [.c (.int .i64 0), .c (.int .i64 2), .c (.int .i64 10), .c (.int .i64 1000)], []⟩,
    ⟨2, none, (some 7), (.call 19), [.t 5, .t 6], []⟩,
    ⟨3, none, (some 8), .mov, [.t 0], []⟩,
    ⟨4, none, (some 9), (.bslice 4 1 [.int .i64 0] [0, 1, 2, 3]), [.c (.int .i64 0), .c (.int .i64 0), .c (.int .i64 50), .c (.int .i64 500)], []⟩,
    ⟨5, none, (some 10), (.call 19), [.t 8, .t 9], []⟩,
    ⟨6, none, (some 11), (.build [.nils, .int .i64 0, .int .i64 0] [(1, 1), (2, 1)]), [.t 7, .t 10], []⟩,
    ⟨7, none, (some 3), (.newl 3 [.nils, .int .i64 0, .int .i64 0]), [], []⟩,
    ⟨8, none, none, (.st 3), [.t 3, .t 11], []⟩] [0, 2, 3] [2, 3]
def R7_2 : ACode := .reg none [
    ⟨0, none, (some 12), .mov, [.t 0], []⟩,
    ⟨1, none, (some 13), (.call 9), [.t 12, .c (.int .i64 3)], []⟩,
    ⟨2, none, (some 14), (.bin .add), [.c (.int .i64 1), .t 13], []⟩,
    ⟨3, none, (some 4), .mov, [.t 14], []⟩] [0, 2, 3, 4] [2, 3]
def R7_3 : ACode := .reg none [
    ⟨0, none, (some 15), .mov, [.t 4], []⟩,
    ⟨1, none, (some 16), (.bin .gt), [.t 15, .c (.int .i64 0)], []⟩] [0, 2, 3, 4, 16] [2, 3]
def R7_5 : ACode := .reg (some [0, 1, 0, 4, 12, 0, 44, 108, 0, 0, 876, 0, 0, 8044, 16380, 32764, 65535, 131071, 262143]) [
    ⟨0, none, (some 19), (.fld 0), [.t 3], []⟩,
    ⟨1, none, (some 20), (.ld 1 false), [.t 19], []⟩,
    ⟨2, none, (some 21), .mov, [.t 0], []⟩,
    ⟨5, none, (some 24), .mov, [.t 0], []⟩,
    ⟨8, none, (some 27), .mov, [.t 0], []⟩,
    ⟨9, none, (some 28), (.bslice 4 1 [.int .i64 0] [0, 1, 2, 3]), [.c (.int .i64 0), .c (.int .i64 10), .c (.int .i64 100), .c (.int .i64 10000)], []⟩,
    ⟨11, none, (some 30), .mov, [.t 0], []⟩,
    ⟨12, none, (some 31), (.bslice 4 1 [.int .i64 0] [0, 1, 2, 3]), [.c (.int .i64 0), .c (.int .i64 500), .c (.int .i64 2000), .c (.int .i64 100000)], []⟩,
    ⟨3, none, (some 22), (.call 9), [.t 21, .c (.int .i64 400)], []⟩,
    ⟨4, none, (some 23), (.bin .sub), [.t 22, .c (.int .i64 100)], []⟩,
    ⟨6, none, (some 25), (.call 9), [.t 24, .c (.int .i64 4)], []⟩,
    ⟨7, none, (some 26), (.bin .add), [.c (.int .i64 1), .t 25], []⟩,
    ⟨10, none, (some 29), (.call 19), [.t 27, .t 28], []⟩,
    ⟨13, none, (some 32), (.call 19), [.t 30, .t 31], []⟩,
    ⟨14, none, (some 33), (.build [.int .i64 0, .int .i64 0, .int .i64 0, .int .i64 0] [(0, 1), (1, 1), (2, 1), (3, 1)]), [.t 23, .t 26, .t 29, .t 32], []⟩,
    ⟨15, none, (some 34), (.bslice 1 4 [.int .i64 0, .int .i64 0, .int .i64 0, .int .i64 0] [0]), [.t 33], []⟩,
    ⟨16, none, (some 35), (.app 4 4398046511104), [.t 20, .t 34], []⟩,
    ⟨17, none, (some 36), (.fld 0), [.t 3], []⟩,
    ⟨18, none, none, (.st 1), [.t 36, .t 35], []⟩] [0, 2, 3, 4] [2, 3]
def R7_4 : ACode := .reg none [
    ⟨0, none, (some 17), .mov, [.t 4], []⟩,
    ⟨1, none, (some 18), (.bin .sub), [.t 17, .c (.int .i64 1)], []⟩,
    ⟨2, none, (some 4), .mov, [.t 18], []⟩] [0, 2, 3, 4] [2, 3]
def R7_6 : ACode := .reg none [
    ⟨0, none, (some 37), (.ld 3 true), [.t 3], []⟩,
    ⟨1, none, none, (.st 3), [.t 2, .t 37], []⟩] [2] [2]
def C7 : ACode := (.seq R7_0 (.seq R7_1 (.seq (.seq R7_2 (.block 0 (.loop (.seq (.seq R7_3 (.cond (.t 16) .skip (.exit 0))) (.seq (.block 1 R7_5) R7_4))))) (.seq R7_6 .ret))))
def F7 : AFn := ⟨1, 38, [.cell 2 3 true false], C7⟩
theorem ok7 : fnOk Try.prog Try.f7 F7 = true := by kernel_rfl
theorem at7 : Try.prog.funcs[7]? = some Try.f7 := by kernel_rfl
/-! seismonet/seismonetlaw36.run -/
def R8_0 : ACode := .reg none [
    ⟨0, none, (some 4), (.boxl 4), [.t 1], []⟩,
    ⟨1, none, (some 6), .mov, [.c (.nils)], []⟩,
    ⟨2, none, (some 7), .mov, [.c (.int .i64 0)], []⟩,
    ⟨3, none, (some 8), .mov, [.c (.int .i64 0)], []⟩] [0, 2, 4] [4]
def R8_1 : ACode := .reg none [
    ⟨0, none, (some 9), .mov, [.c (.nils)], []⟩] [0, 2, 4, 9] [4]
def R8_2 : ACode := .reg none [
    ⟨0, none, (some 16), .mov, [.t 0], []⟩,
    ⟨1, none, (some 17), (.call 9), [.t 16, .c (.int .i64 5)], []⟩,
    ⟨2, none, (some 10), .mov, [.t 17], []⟩,
    ⟨3, none, (some 11), .mov, [.c (.int .i64 1000)], []⟩] [0, 2, 4, 9, 10, 11] [4]
def R8_3 : ACode := .reg none [
    ⟨0, none, (some 12), .mov, [.c (.int .i64 0)], []⟩] [0, 2, 4, 9, 10, 11, 12] [4]
def R8_4 : ACode := .reg none [
    ⟨0, none, (some 18), .mov, [.t 12], []⟩,
    ⟨1, none, (some 19), .mov, [.t 2], []⟩,
    ⟨2, none, (some 20), (.bin .lt), [.t 18, .t 19], []⟩] [0, 2, 4, 9, 10, 11, 12, 20] [4]
def R8_6 : ACode := .reg none [
    ⟨0, none, (some 23), .mov, [.t 11], []⟩,
    ⟨1, none, (some 24), .mov, [.t 0], []⟩,
    ⟨2, none, (some 25), (.call 9), [.t 24, .c (.int .i64 400)], []⟩,
    ⟨3, none, (some 26), (.bin .add), [.t 23, .t 25], []⟩,
    ⟨4, none, (some 11), .mov, [.t 26], []⟩] [0, 2, 4, 9, 10, 11, 12] [4]
def R8_7 : ACode := .reg (some [0, 0, 0, 0, 8, 0, 63, 127, 255, 255, 255, 511, 3071, 8191]) [
    ⟨0, none, (some 28), (.ld 3 true), [.t 4], []⟩,
    ⟨1, none, (some 29), .mov, [.t 9], []⟩,
    ⟨2, none, (some 30), .mov, [.t 10], []⟩,
    ⟨3, none, (some 31), .mov, [.t 0], []⟩,
    ⟨5, none, (some 33), .mov, [.t 11], []⟩,
    ⟨4, none, (some 32), (.call 10), [.t 31, .c (.int .i64 4)], []⟩,
    ⟨6, none, (some 34), (.call 20), [.t 28, .t 29, .t 30, .t 32, .t 33], []⟩,
    ⟨7, none, (some 27), .mov, [.t 34], []⟩,
    ⟨8, none, (some 35), (.ext 0), [.t 27], []⟩,
    ⟨9, none, (some 36), (.ext 1), [.t 27], []⟩,
    ⟨10, none, (some 37), (.ext 2), [.t 27], []⟩,
    ⟨11, none, (some 13), .mov, [.t 35], []⟩,
    ⟨12, none, (some 14), .mov, [.t 36], []⟩,
    ⟨13, none, (some 15), .mov, [.t 37], []⟩] [0, 2, 4, 9, 10, 11, 12, 13, 14, 15] [4]
def R8_8 : ACode := .reg none [
    ⟨0, none, (some 38), .mov, [.t 15], []⟩,
    ⟨1, none, (some 39), (.bin .eq), [.t 38, .c (.int .i64 0)], []⟩] [0, 2, 4, 9, 10, 11, 12, 13, 14, 39] [4]
def R8_9 : ACode := .reg none [
    ⟨0, none, (some 40), .mov, [.t 13], []⟩,
    ⟨1, none, (some 41), .mov, [.t 10], []⟩,
    ⟨2, none, (some 42), .mov, [.t 14], []⟩,
    ⟨3, none, (some 43), .len, [.t 42], []⟩,
    ⟨4, none, (some 44), (.bin .add), [.t 41, .t 43], []⟩,
    ⟨5, none, (some 9), .mov, [.t 40], []⟩,
    ⟨6, none, (some 10), .mov, [.t 44], []⟩] [0, 2, 4, 9, 10, 11, 12] [4]
def R8_5 : ACode := .reg none [
    ⟨0, none, (some 21), .mov, [.t 12], []⟩,
    ⟨1, none, (some 22), (.bin .add), [.t 21, .c (.int .i64 1)], []⟩,
    ⟨2, none, (some 12), .mov, [.t 22], []⟩] [0, 2, 4, 9, 10, 11, 12] [4]
def R8_10 : ACode := .reg none [
    ⟨0, none, (some 45), .mov, [.t 9], []⟩,
    ⟨1, none, (some 46), .mov, [.t 10], []⟩,
    ⟨2, none, (some 47), .mov, [.t 11], []⟩,
    ⟨3, none, (some 6), .mov, [.t 45], []⟩,
    ⟨4, none, (some 7), .mov, [.t 46], []⟩,
    ⟨5, none, (some 8), .mov, [.t 47], []⟩] [6, 7, 8] []
def C8 : ACode := (.seq R8_0 (.seq R8_1 (.seq R8_2 (.seq (.seq R8_3 (.block 0 (.loop (.seq (.seq R8_4 (.cond (.t 20) .skip (.exit 0))) (.seq (.block 1 (.seq R8_6 (.seq R8_7 (.seq R8_8 (.cond (.t 39) R8_9 .skip))))) R8_5))))) (.seq R8_10 .ret)))))
def F8 : AFn := ⟨3, 48, [.tmp 6, .tmp 7, .tmp 8], C8⟩
theorem ok8 : fnOk Try.prog Try.f8 F8 = true := by kernel_rfl
theorem at8 : Try.prog.funcs[8]? = some Try.f8 := by kernel_rfl
/-! (*seismonet/seismonetkeep.Src).N -/
def R9_0 : ACode := .reg none [
    ⟨0, none, (some 4), .mov, [.c (.int .i64 0)], []⟩] [0, 1] []
def R9_1 : ACode := .reg none [
    ⟨0, none, (some 5), .mov, [.t 0], []⟩,
    ⟨1, none, (some 6), (.call 22), [.t 5], []⟩,
    ⟨2, none, (some 7), .mov, [.t 1], []⟩,
    ⟨3, none, (some 8), (.callp 21), [.t 6, .t 7], []⟩,
    ⟨4, none, (some 4), .mov, [.t 8], []⟩] [4] []
def C9 : ACode := (.seq R9_0 (.seq R9_1 .ret))
def F9 : AFn := ⟨2, 9, [.tmp 4], C9⟩
theorem ok9 : fnOk Try.prog Try.f9 F9 = true := by kernel_rfl
theorem at9 : Try.prog.funcs[9]? = some Try.f9 := by kernel_rfl
/-! (*seismonet/seismonetkeep.Src).Events -/
def R10_0 : ACode := .reg none [
    ⟨0, none, (some 4), .mov, [.c (.nils)], []⟩] [0, 1] []
def R10_1 : ACode := .reg none [
    ⟨0, none, (some 5), .mov, [.c (.nils)], []⟩] [0, 1, 5] []
def R10_2 : ACode := .reg none [
    ⟨0, none, (some 6), .mov, [.c (.int .i64 0)], []⟩] [0, 1, 5, 6] []
def R10_3 : ACode := .reg none [
    ⟨0, none, (some 10), .mov, [.t 6], []⟩,
    ⟨1, none, (some 11), .mov, [.t 1], []⟩,
    ⟨2, none, (some 12), (.bin .lt), [.t 10, .t 11], []⟩] [0, 1, 5, 6, 12] []
def R10_5 : ACode := .reg none [
    ⟨0, none, (some 15), .mov, [.t 0], []⟩,
    ⟨1, none, (some 16), (.call 9), [.t 15, .c (.int .i64 3)], []⟩,
    ⟨2, none, (some 17), (.bin .eq), [.t 16, .c (.int .i64 0)], []⟩] [0, 1, 5, 6, 17] []
def R10_6 : ACode := .reg none [
    ⟨0, none, (some 18), .mov, [.t 0], []⟩,
    ⟨1, none, (some 19), (.call 23), [.t 18, .c (.int .i64 1)], []⟩,
    ⟨2, none, (some 7), (.newl 7 [.str ⟨#[]⟩, .str ⟨#[]⟩, .str ⟨#[]⟩, .str ⟨#[]⟩, .int .i64 0, .int .i64 0, .int .i64 0, .int .i64 0, .int .i64 0, .nils, .int .i64 0, .int .i64 0, .int .i64 0, .int .i64 0, .int .i64 0, .int .i64 0, .int .i64 0, .int .i64 0, .int .i64 0, .int .i64 0, .int .i64 0, .int .i64 0, .int .i64 0, .int .i64 0, .int .i64 0]), [], []⟩,
    ⟨3, none, none, (.st 25), [.t 7, .t 19], []⟩] [0, 1, 5, 6, 7] [7]
def R10_7 : ACode := .reg none [
    ⟨0, none, (some 20), (.fld 9), [.t 7], []⟩,
    ⟨1, none, (some 21), (.fld 0), [.t 20], []⟩,
    ⟨2, none, (some 22), (.ld 1 false), [.t 21], []⟩,
    ⟨3, none, (some 23), .len, [.t 22], []⟩,
    ⟨4, none, (some 24), .mov, [.c (.int .i64 0)], []⟩] [0, 1, 5, 6, 7, 23, 24] [7]
def R10_8 : ACode := .reg none [
    ⟨0, none, (some 25), (.bin .lt), [.t 24, .t 23], []⟩] [0, 1, 5, 6, 7, 23, 24, 25] [7]
def R10_9 : ACode := .reg none [
    ⟨0, none, (some 26), .mov, [.t 24], []⟩,
    ⟨1, none, (some 8), .mov, [.t 26], []⟩] [0, 1, 5, 6, 7, 8, 23, 24] [7]
def R10_10 : ACode := .reg none [
    ⟨0, none, (some 27), (.fld 9), [.t 7], []⟩,
    ⟨1, none, (some 28), (.fld 0), [.t 27], []⟩,
    ⟨2, none, (some 29), (.ld 1 false), [.t 28], []⟩,
    ⟨3, none, (some 30), .mov, [.t 8], []⟩,
    ⟨4, none, (some 31), (.ix 9), [.t 29, .t 30], []⟩,
    ⟨5, none, (some 9), .mov, [.t 31], []⟩] [0, 1, 5, 6, 7, 8, 9, 23, 24] [7]
def R10_11 : ACode := .reg none [
    ⟨0, none, (some 32), .mov, [.t 9], []⟩,
    ⟨1, none, (some 33), .mov, [.t 9], []⟩,
    ⟨2, none, (some 34), .mov, [.t 9], []⟩,
    ⟨3, none, (some 35), .mov, [.t 9], []⟩,
    ⟨4, none, (some 36), .mov, [.t 6], []⟩,
    ⟨5, none, (some 37), (.bin .mul), [.c (.int .i64 400), .t 36], []⟩,
    ⟨6, none, (some 38), (.bin .add), [.c (.int .i64 1000), .t 37], []⟩,
    ⟨7, none, (some 39), .mov, [.t 8], []⟩,
    ⟨8, none, (some 40), (.bin .add), [.t 38, .t 39], []⟩,
    ⟨9, none, (some 41), .mov, [.t 6], []⟩,
    ⟨10, none, (some 42), (.bin .mul), [.c (.int .i64 400), .t 41], []⟩,
    ⟨11, none, (some 43), (.bin .add), [.c (.int .i64 1000), .t 42], []⟩,
    ⟨12, none, (some 44), .mov, [.t 8], []⟩,
    ⟨13, none, (some 45), (.bin .add), [.t 43, .t 44], []⟩,
    ⟨14, none, (some 46), .mov, [.t 6], []⟩,
    ⟨15, none, (some 47), (.bin .mul), [.c (.int .i64 400), .t 46], []⟩,
    ⟨16, none, (some 48), (.bin .add), [.c (.int .i64 1000), .t 47], []⟩,
    ⟨17, none, (some 49), .mov, [.t 8], []⟩,
    ⟨18, none, (some 50), (.bin .add), [.t 48, .t 49], []⟩,
    ⟨19, none, (some 51), (.bin .add), [.t 50, .c (.int .i64 2)], []⟩,
    ⟨20, none, (some 52), .nilc, [.t 32], []⟩,
    ⟨21, none, (some 53), (.fld 4), [.t 52], []⟩,
    ⟨22, none, none, (.sth 1), [.t 53, .t 40], []⟩,
    ⟨23, none, (some 54), .nilc, [.t 33], []⟩,
    ⟨24, none, (some 55), (.fld 5), [.t 54], []⟩,
    ⟨25, none, none, (.sth 1), [.t 55, .t 45], []⟩,
    ⟨26, none, (some 56), .nilc, [.t 34], []⟩,
    ⟨27, none, (some 57), (.fld 6), [.t 56], []⟩,
    ⟨28, none, none, (.sth 1), [.t 57, .t 51], []⟩,
    ⟨29, none, (some 58), .nilc, [.t 35], []⟩,
    ⟨30, none, (some 59), (.fld 7), [.t 58], []⟩,
    ⟨31, none, none, (.sth 1), [.t 59, .c (.int .i64 7)], []⟩] [0, 1, 5, 6, 7, 23, 24] [7]
def R10_12 : ACode := .reg none [
    ⟨0, none, (some 60), (.bin .add), [.t 24, .c (.int .i64 1)], []⟩,
    ⟨1, none, (some 24), .mov, [.t 60], []⟩] [0, 1, 5, 6, 7, 23, 24] [7]
def R10_13 : ACode := .reg (some [0, 1, 3, 0, 8, 0, 32, 96, 224, 480, 1016, 2047, 4095, 8191, 16383]) [
    ⟨0, none, (some 61), (.fld 9), [.t 7], []⟩,
    ⟨1, none, (some 62), (.fld 0), [.t 61], []⟩,
    ⟨2, none, (some 63), (.ld 1 false), [.t 62], []⟩,
    ⟨3, none, (some 64), .mov, [.t 0], []⟩,
    ⟨5, none, (some 66), (.fld 9), [.t 7], []⟩,
    ⟨6, none, (some 67), (.fld 0), [.t 66], []⟩,
    ⟨7, none, (some 68), (.ld 1 false), [.t 67], []⟩,
    ⟨8, none, (some 69), .len, [.t 68], []⟩,
    ⟨9, none, (some 70), (.bin .sub), [.t 69, .c (.int .i64 1)], []⟩,
    ⟨4, none, (some 65), (.call 9), [.t 64, .c (.int .i64 2)], []⟩,
    ⟨10, none, (some 71), .mn, [.t 65, .t 70], []⟩,
    ⟨11, none, (some 72), (.slc 9 true false false), [.t 63, .t 71], []⟩,
    ⟨12, none, (some 73), (.fld 9), [.t 7], []⟩,
    ⟨13, none, (some 74), (.fld 0), [.t 73], []⟩,
    ⟨14, none, none, (.st 1), [.t 74, .t 72], []⟩] [0, 1, 5, 6, 7] [7]
def R10_14 : ACode := .reg none [
    ⟨0, none, (some 75), (.fld 9), [.t 7], []⟩,
    ⟨1, none, (some 76), (.fld 0), [.t 75], []⟩,
    ⟨2, none, (some 77), (.ld 1 false), [.t 76], []⟩,
    ⟨3, none, (some 78), (.ix 9), [.t 77, .c (.int .i64 0)], []⟩,
    ⟨4, none, (some 79), (.ldh 9 true), [.t 78], []⟩,
    ⟨5, none, (some 80), (.fld 0), [.t 7], []⟩,
    ⟨6, none, none, (.st 9), [.t 80, .t 79], []⟩] [0, 1, 5, 6, 7] [7]
def R10_15 : ACode := .reg none [
    ⟨0, none, (some 81), .mov, [.t 5], []⟩,
    ⟨1, none, (some 82), (.ld 25 true), [.t 7], []⟩,
    ⟨2, none, (some 83), (.bslice 1 25 [.str ⟨#[]⟩, .str ⟨#[]⟩, .str ⟨#[]⟩, .str ⟨#[]⟩, .int .i64 0, .int .i64 0, .int .i64 0, .int .i64 0, .int .i64 0, .nils, .int .i64 0, .int .i64 0, .int .i64 0, .int .i64 0, .int .i64 0, .int .i64 0, .int .i64 0, .int .i64 0, .int .i64 0, .int .i64 0, .int .i64 0, .int .i64 0, .int .i64 0, .int .i64 0, .int .i64 0] [0]), [.t 82], []⟩,
    ⟨3, none, (some 84), (.app 25 567489872400), [.t 81, .t 83], []⟩,
    ⟨4, none, (some 5), .mov, [.t 84], []⟩] [0, 1, 5, 6] []
def R10_4 : ACode := .reg none [
    ⟨0, none, (some 13), .mov, [.t 6], []⟩,
    ⟨1, none, (some 14), (.bin .add), [.t 13, .c (.int .i64 1)], []⟩,
    ⟨2, none, (some 6), .mov, [.t 14], []⟩] [0, 1, 5, 6] []
def R10_16 : ACode := .reg none [
    ⟨0, none, (some 85), .mov, [.t 5], []⟩,
    ⟨1, none, (some 4), .mov, [.t 85], []⟩] [4] []
def C10 : ACode := (.seq R10_0 (.seq R10_1 (.seq (.seq R10_2 (.block 0 (.loop (.seq (.seq R10_3 (.cond (.t 12) .skip (.exit 0))) (.seq (.block 1 (.seq (.seq R10_5 (.cond (.t 17) (.exit 1) .skip)) (.seq R10_6 (.seq (.seq R10_7 (.block 2 (.loop (.seq R10_8 (.seq (.cond (.t 25) .skip (.exit 2)) (.seq (.block 3 (.seq R10_9 (.seq R10_10 R10_11))) R10_12)))))) (.seq (.seq (.frzo 7 0 9) R10_13) (.seq R10_14 R10_15)))))) R10_4))))) (.seq R10_16 .ret))))
def F10 : AFn := ⟨2, 86, [.tmp 4], C10⟩
theorem ok10 : fnOk Try.prog Try.f10 F10 = true := by kernel_rfl
theorem at10 : Try.prog.funcs[10]? = some Try.f10 := by kernel_rfl
/-! seismonet/alert.Step -/
def R11_0 : ACode := .reg none [
    ⟨0, none, (some 5), (.boxl 5), [.t 0], []⟩,
    ⟨1, none, (some 7), .boxh, [.t 2], []⟩,
    ⟨2, none, (some 9), .boxh, [.t 4], []⟩,
    ⟨3, none, (some 10), .mov, [.c (.nils)], []⟩,
    ⟨4, none, (some 11), .mov, [.c (.nils)], []⟩,
    ⟨5, none, (some 12), .mov, [.c (.int .i64 0)], []⟩] [1, 3, 5, 7, 9] [5]
def R11_1 : ACode := .reg none [
    ⟨0, none, (some 26), (.ld 3 true), [.t 5], []⟩,
    ⟨1, none, (some 27), .mov, [.t 1], []⟩,
    ⟨2, none, (some 28), (.ldh 1 false), [.t 7], []⟩,
    ⟨3, none, (some 29), .mov, [.t 3], []⟩,
    ⟨4, none, (some 30), (.ldh 1 false), [.t 9], []⟩,
    ⟨5, none, (some 31), (.callp 24), [.t 26, .t 27, .t 28, .t 29, .t 30], []⟩,
    ⟨6, none, (some 13), .mov, [.t 31], []⟩] [1, 3, 5, 7, 9, 13] [5]
def R11_2 : ACode := .reg none [
    ⟨0, none, (some 32), .mov, [.t 13], []⟩,
    ⟨1, none, (some 33), (.bin .ne), [.t 32, .c (.int .i64 0)], []⟩] [1, 3, 5, 7, 9, 13, 33] [5]
def R11_3 : ACode := .reg none [
    ⟨0, none, (some 34), .mov, [.t 13], []⟩,
    ⟨1, none, (some 10), .mov, [.c (.nils)], []⟩,
    ⟨2, none, (some 11), .mov, [.c (.nils)], []⟩,
    ⟨3, none, (some 12), .mov, [.t 34], []⟩] [10, 11, 12] []
def R11_4 : ACode := .reg none [
    ⟨0, none, (some 14), (.newh [.nils]), [], []⟩] [1, 3, 5, 7, 9, 14] [5]
def R11_5 : ACode := .reg none [
    ⟨0, none, (some 15), (.newh [.bool false]), [], []⟩,
    ⟨1, none, none, (.sth 1), [.t 15, .c (.bool false)], []⟩] [1, 3, 5, 7, 9, 14, 15] [5]
def R11_6 : ACode := .reg none [
    ⟨0, none, (some 35), (.mkf 25 0), [.t 15, .t 7, .t 14, .t 9], []⟩,
    ⟨1, none, (some 16), .mov, [.t 35], []⟩] [1, 3, 5, 7, 9, 14, 15, 16] [5]
def R11_7 : ACode := .reg none [
    ⟨0, none, (some 36), .mov, [.t 1], []⟩,
    ⟨1, none, (some 37), (.call 27), [.t 36], []⟩,
    ⟨2, none, (some 17), .mov, [.t 37], []⟩] [1, 3, 5, 7, 9, 14, 15, 16, 17] [5]
def R11_8 : ACode := .reg none [
    ⟨0, none, (some 38), .mov, [.t 3], []⟩,
    ⟨1, none, (some 39), .len, [.t 38], []⟩,
    ⟨2, none, (some 40), (.mkl 40 [.bool false] 281474976710656), [.t 39], []⟩,
    ⟨3, none, (some 18), .mov, [.t 40], []⟩] [1, 3, 5, 7, 9, 14, 15, 16, 17, 18] [5, 40]
def R11_9 : ACode := .reg none [
    ⟨0, none, (some 41), .mov, [.t 1], []⟩,
    ⟨1, none, (some 42), .mov, [.t 3], []⟩,
    ⟨2, none, (some 43), (.callp 15), [.t 41, .t 42], []⟩,
    ⟨3, none, (some 44), .len, [.t 43], []⟩,
    ⟨4, none, (some 45), .mov, [.c (.int .i64 0)], []⟩] [3, 5, 7, 9, 14, 15, 16, 17, 18, 43, 44, 45] [5, 40]
def R11_10 : ACode := .reg none [
    ⟨0, none, (some 46), (.bin .lt), [.t 45, .t 44], []⟩] [3, 5, 7, 9, 14, 15, 16, 17, 18, 43, 44, 45, 46] [5, 40]
def R11_11 : ACode := .reg none [
    ⟨0, none, (some 47), .mov, [.t 45], []⟩,
    ⟨1, none, (some 48), (.ix 1), [.t 43, .t 45], []⟩,
    ⟨2, none, (some 49), (.ldh 1 false), [.t 48], []⟩,
    ⟨3, none, (some 19), .mov, [.t 47], []⟩,
    ⟨4, none, (some 20), .mov, [.t 49], []⟩] [3, 5, 7, 9, 14, 15, 16, 17, 18, 19, 20, 43, 44, 45] [5, 40]
def R11_12 : ACode := .reg none [
    ⟨0, none, (some 50), .mov, [.t 17], []⟩,
    ⟨1, none, (some 51), .mov, [.t 19], []⟩,
    ⟨2, none, (some 52), (.ix 38), [.t 50, .t 51], []⟩,
    ⟨3, none, (some 21), .mov, [.t 52], []⟩] [3, 5, 7, 9, 14, 15, 16, 17, 18, 20, 21, 43, 44, 45] [5, 40]
def R11_13 : ACode := .reg none [
    ⟨0, none, (some 53), .mov, [.t 21], []⟩,
    ⟨1, none, (some 54), .nilc, [.t 53], []⟩,
    ⟨2, none, (some 55), (.fld 1), [.t 54], []⟩,
    ⟨3, none, (some 56), (.ldh 1 false), [.t 55], []⟩] [3, 5, 7, 9, 14, 15, 16, 17, 18, 20, 21, 43, 44, 45, 56] [5, 40]
def R11_14 : ACode := .reg none [
    ⟨0, none, (some 22), .mov, [.c (.int .i64 0)], []⟩] [3, 5, 7, 9, 14, 15, 16, 17, 18, 20, 21, 22, 43, 44, 45] [5, 40]
def R11_15 : ACode := .reg none [
    ⟨0, none, (some 57), .mov, [.t 20], []⟩,
    ⟨1, none, (some 58), (.bin .ge), [.t 57, .c (.int .i64 0)], []⟩] [3, 5, 7, 9, 14, 15, 16, 17, 18, 20, 21, 22, 43, 44, 45, 58] [5, 40]
def R11_16 : ACode := .reg none [
    ⟨0, none, (some 59), .mov, [.t 18], []⟩,
    ⟨1, none, (some 60), .mov, [.t 20], []⟩,
    ⟨2, none, (some 61), (.ix 1), [.t 59, .t 60], []⟩,
    ⟨3, none, none, (.st 1), [.t 61, .c (.bool true)], []⟩] [3, 5, 7, 9, 14, 15, 16, 17, 18, 20, 21, 43, 44, 45] [5, 40]
def R11_17 : ACode := .reg none [
    ⟨0, none, (some 62), .mov, [.t 21], []⟩,
    ⟨1, none, (some 63), .mov, [.t 3], []⟩,
    ⟨2, none, (some 64), .mov, [.t 20], []⟩,
    ⟨3, none, (some 65), (.ix 25), [.t 63, .t 64], []⟩,
    ⟨4, none, (some 66), (.fld 0), [.t 65], []⟩,
    ⟨5, none, (some 67), (.ldh 9 true), [.t 66], []⟩,
    ⟨6, none, (some 68), .nilc, [.t 62], []⟩,
    ⟨7, none, (some 69), (.fld 2), [.t 68], []⟩,
    ⟨8, none, none, (.sth 9), [.t 69, .t 67], []⟩] [3, 5, 7, 9, 14, 15, 16, 17, 18, 20, 21, 43, 44, 45] [5, 40]
def R11_18 : ACode := .reg (some [0, 0, 0, 6, 14, 31, 63]) [
    ⟨0, none, (some 70), (.ld 3 true), [.t 5], []⟩,
    ⟨1, none, (some 71), .mov, [.t 3], []⟩,
    ⟨2, none, (some 72), .mov, [.t 20], []⟩,
    ⟨3, none, (some 73), (.ix 25), [.t 71, .t 72], []⟩,
    ⟨4, none, (some 74), (.ldh 25 true), [.t 73], []⟩,
    ⟨5, none, (some 75), (.callp 28), [.t 70, .t 74], []⟩,
    ⟨6, none, (some 22), .mov, [.t 75], []⟩] [3, 5, 7, 9, 14, 15, 16, 17, 18, 20, 21, 22, 43, 44, 45] [5, 40]
def R11_19 : ACode := .reg none [
    ⟨0, none, (some 77), .mov, [.t 22], []⟩,
    ⟨1, none, (some 78), (.bin .eq), [.t 77, .c (.int .i64 0)], []⟩,
    ⟨2, none, (some 76), .mov, [.t 78], []⟩] [3, 5, 7, 9, 14, 15, 16, 17, 18, 20, 21, 22, 43, 44, 45, 76] [5, 40]
def R11_20 : ACode := .reg (some [0, 0, 0, 1, 9, 25, 63, 127, 255]) [
    ⟨0, none, (some 79), .mov, [.t 21], []⟩,
    ⟨1, none, (some 80), .mov, [.t 21], []⟩,
    ⟨2, none, (some 81), (.ldh 1 false), [.t 9], []⟩,
    ⟨3, none, (some 82), .nilc, [.t 79], []⟩,
    ⟨4, none, (some 83), (.fld 1), [.t 82], []⟩,
    ⟨5, none, none, (.sth 1), [.t 83, .c (.bool true)], [(.t 9, 1, false)]⟩,
    ⟨6, none, (some 84), .nilc, [.t 80], []⟩,
    ⟨7, none, (some 85), (.fld 37), [.t 84], []⟩,
    ⟨8, none, none, (.sth 1), [.t 85, .t 81], []⟩] [3, 5, 7, 9, 14, 15, 16, 17, 18, 21, 43, 44, 45] [5, 40]
def R11_21 : ACode := .reg none [
    ⟨0, none, (some 86), .mov, [.t 16], []⟩,
    ⟨1, none, (some 87), .mov, [.t 21], []⟩,
    ⟨2, none, (some 88), .nilc, [.t 87], []⟩,
    ⟨3, none, (some 89), (.ldh 38 true), [.t 88], []⟩,
    ⟨4, none, (some 90), .callv, [.t 86, .c (.int .i64 3), .t 89], []⟩] [3, 5, 7, 9, 14, 15, 16, 17, 18, 43, 44, 45] [5, 40]
def R11_22 : ACode := .reg (some [0, 0, 2, 6, 14, 31, 0, 64, 255, 511, 1023, 1023, 3071, 7167, 15359, 1023, 1023, 99327, 230399, 524287, 1048575, 2097151]) [
    ⟨0, none, (some 92), (.ldh 1 false), [.t 9], []⟩,
    ⟨1, none, (some 93), .mov, [.t 21], []⟩,
    ⟨2, none, (some 94), .nilc, [.t 93], []⟩,
    ⟨3, none, (some 95), (.fld 37), [.t 94], []⟩,
    ⟨4, none, (some 96), (.ldh 1 false), [.t 95], []⟩,
    ⟨5, none, (some 97), (.bin .sub), [.t 92, .t 96], []⟩,
    ⟨6, none, (some 98), (.fld 2), [.t 5], []⟩,
    ⟨7, none, (some 99), (.ld 1 false), [.t 98], []⟩,
    ⟨8, none, (some 100), (.bin .ge), [.t 97, .t 99], []⟩,
    ⟨9, none, (some 101), .mov, [.t 100], []⟩,
    ⟨10, (some (101, true)), (some 102), (.ld 3 true), [.t 5], []⟩,
    ⟨11, (some (101, true)), (some 103), .mov, [.t 21], []⟩,
    ⟨12, (some (101, true)), (some 104), .nilc, [.t 103], []⟩,
    ⟨13, (some (101, true)), (some 105), (.fld 12), [.t 104], []⟩,
    ⟨14, (some (101, true)), (some 106), (.ldh 25 true), [.t 105], []⟩,
    ⟨15, (some (101, true)), (some 107), .mov, [.t 3], []⟩,
    ⟨16, (some (101, true)), (some 108), .mov, [.t 20], []⟩,
    ⟨17, (some (101, true)), (some 109), (.ix 25), [.t 107, .t 108], []⟩,
    ⟨18, (some (101, true)), (some 110), (.ldh 25 true), [.t 109], []⟩,
    ⟨19, (some (101, true)), (some 111), (.callp 29), [.t 102, .t 106, .t 110], []⟩,
    ⟨20, none, (some 112), .pick, [.t 101, .t 111, .c (.bool false)], []⟩,
    ⟨21, none, (some 91), .mov, [.t 112], []⟩] [3, 5, 7, 9, 14, 15, 16, 17, 18, 20, 21, 22, 43, 44, 45, 91] [5, 40]
def R11_23 : ACode := .reg (some [0, 0, 0, 0, 0, 0, 48, 112, 240, 0, 505, 1529, 3577, 7675, 15867, 32251, 65535, 131071, 262143]) [
    ⟨0, none, (some 113), .mov, [.t 21], []⟩,
    ⟨1, none, (some 114), .mov, [.t 21], []⟩,
    ⟨2, none, (some 115), .mov, [.t 21], []⟩,
    ⟨3, none, (some 116), .mov, [.t 22], []⟩,
    ⟨4, none, (some 117), .mov, [.t 3], []⟩,
    ⟨5, none, (some 118), .mov, [.t 20], []⟩,
    ⟨6, none, (some 119), (.ix 25), [.t 117, .t 118], []⟩,
    ⟨7, none, (some 120), (.ldh 25 true), [.t 119], []⟩,
    ⟨9, none, (some 122), (.ldh 1 false), [.t 9], []⟩,
    ⟨8, none, (some 121), (.callp 26), [.t 120], []⟩,
    ⟨10, none, (some 123), .nilc, [.t 113], []⟩,
    ⟨11, none, (some 124), (.fld 11), [.t 123], []⟩,
    ⟨12, none, none, (.sth 1), [.t 124, .t 116], [(.t 9, 1, false)]⟩,
    ⟨13, none, (some 125), .nilc, [.t 114], []⟩,
    ⟨14, none, (some 126), (.fld 12), [.t 125], []⟩,
    ⟨15, none, none, (.sth 25), [.t 126, .t 121], [(.t 9, 1, false)]⟩,
    ⟨16, none, (some 127), .nilc, [.t 115], []⟩,
    ⟨17, none, (some 128), (.fld 37), [.t 127], []⟩,
    ⟨18, none, none, (.sth 1), [.t 128, .t 122], []⟩] [3, 5, 7, 9, 14, 15, 16, 17, 18, 21, 43, 44, 45] [5, 40]
def R11_24 : ACode := .reg none [
    ⟨0, none, (some 129), .mov, [.t 16], []⟩,
    ⟨1, none, (some 130), .mov, [.t 21], []⟩,
    ⟨2, none, (some 131), .nilc, [.t 130], []⟩,
    ⟨3, none, (some 132), (.ldh 38 true), [.t 131], []⟩,
    ⟨4, none, (some 133), .callv, [.t 129, .c (.int .i64 2), .t 132], []⟩] [3, 5, 7, 9, 14, 15, 16, 17, 18, 43, 44, 45] [5, 40]
def R11_25 : ACode := .reg none [
    ⟨0, none, (some 134), (.bin .add), [.t 45, .c (.int .i64 1)], []⟩,
    ⟨1, none, (some 45), .mov, [.t 134], []⟩] [3, 5, 7, 9, 14, 15, 16, 17, 18, 43, 44, 45] [5, 40]
def R11_26 : ACode := .reg none [
    ⟨0, none, (some 135), .mov, [.t 3], []⟩,
    ⟨1, none, (some 136), .len, [.t 135], []⟩,
    ⟨2, none, (some 137), .mov, [.c (.int .i64 0)], []⟩] [5, 7, 9, 14, 15, 16, 17, 18, 135, 136, 137] [5, 40]
def R11_27 : ACode := .reg none [
    ⟨0, none, (some 138), (.bin .lt), [.t 137, .t 136], []⟩] [5, 7, 9, 14, 15, 16, 17, 18, 135, 136, 137, 138] [5, 40]
def R11_28 : ACode := .reg none [
    ⟨0, none, (some 139), .mov, [.t 137], []⟩,
    ⟨1, none, (some 140), (.ix 25), [.t 135, .t 137], []⟩,
    ⟨2, none, (some 141), (.ldh 25 true), [.t 140], []⟩,
    ⟨3, none, (some 24), (.newl 24 [.str ⟨#[]⟩, .str ⟨#[]⟩, .str ⟨#[]⟩, .str ⟨#[]⟩, .int .i64 0, .int .i64 0, .int .i64 0, .int .i64 0, .int .i64 0, .nils, .int .i64 0, .int .i64 0, .int .i64 0, .int .i64 0, .int .i64 0, .int .i64 0, .int .i64 0, .int .i64 0, .int .i64 0, .int .i64 0, .int .i64 0, .int .i64 0, .int .i64 0, .int .i64 0, .int .i64 0]), [], []⟩,
    ⟨4, none, (some 23), .mov, [.t 139], []⟩,
    ⟨5, none, none, (.st 25), [.t 24, .t 141], []⟩] [5, 7, 9, 14, 15, 16, 17, 18, 23, 24, 135, 136, 137] [5, 24, 40]
def R11_29 : ACode := .reg none [
    ⟨0, none, (some 142), .mov, [.t 18], []⟩,
    ⟨1, none, (some 143), .mov, [.t 23], []⟩,
    ⟨2, none, (some 144), (.ix 1), [.t 142, .t 143], []⟩,
    ⟨3, none, (some 145), (.ld 1 false), [.t 144], []⟩,
    ⟨4, none, (some 146), .not, [.t 145], []⟩,
    ⟨5, none, (some 147), .mov, [.t 146], []⟩,
    ⟨6, (some (147, true)), (some 148), (.ld 3 true), [.t 5], []⟩,
    ⟨7, (some (147, true)), (some 149), (.ld 25 true), [.t 24], []⟩,
    ⟨8, (some (147, true)), (some 150), (.ldh 1 false), [.t 9], []⟩,
    ⟨9, (some (147, true)), (some 151), (.callp 30), [.t 148, .t 149, .t 150], []⟩,
    ⟨10, none, (some 152), .pick, [.t 147, .t 151, .c (.bool false)], []⟩] [5, 7, 9, 14, 15, 16, 17, 18, 24, 135, 136, 137, 152] [5, 24, 40]
def R11_30 : ACode := .reg (some [0, 0, 2, 0, 0, 24, 0, 120, 0, 511, 0, 2047]) [
    ⟨0, none, (some 153), (.ldh 1 false), [.t 7], []⟩,
    ⟨1, none, (some 154), (.fld 0), [.t 24], []⟩,
    ⟨2, none, (some 155), (.ld 9 true), [.t 154], []⟩,
    ⟨3, none, (some 156), (.ld 3 true), [.t 5], []⟩,
    ⟨4, none, (some 157), (.ld 25 true), [.t 24], []⟩,
    ⟨6, none, (some 159), (.ld 25 true), [.t 24], []⟩,
    ⟨8, none, (some 161), (.ldh 1 false), [.t 9], []⟩,
    ⟨10, none, (some 25), (.newl 25 [.int .i64 0, .bool false, .str ⟨#[]⟩, .str ⟨#[]⟩, .str ⟨#[]⟩, .str ⟨#[]⟩, .int .i64 0, .int .i64 0, .int .i64 0, .int .i64 0, .int .i64 0, .int .i64 0, .str ⟨#[]⟩, .str ⟨#[]⟩, .str ⟨#[]⟩, .str ⟨#[]⟩, .int .i64 0, .int .i64 0, .int .i64 0, .int .i64 0, .int .i64 0, .nils, .int .i64 0, .int .i64 0, .int .i64 0, .int .i64 0, .int .i64 0, .int .i64 0, .int .i64 0, .int .i64 0, .int .i64 0, .int .i64 0, .int .i64 0, .int .i64 0, .int .i64 0, .int .i64 0, .int .i64 0, .int .i64 0]), [], []⟩,
    ⟨5, none, (some 158), (.callp 28), [.t 156, .t 157], []⟩,
    ⟨7, none, (some 160), (.callp 26), [.t 159], []⟩,
    ⟨9, none, (some 162), (.build [.int .i64 0, .bool false, .str ⟨#[]⟩, .str ⟨#[]⟩, .str ⟨#[]⟩, .str ⟨#[]⟩, .int .i64 0, .int .i64 0, .int .i64 0, .int .i64 0, .int .i64 0, .int .i64 0, .str ⟨#[]⟩, .str ⟨#[]⟩, .str ⟨#[]⟩, .str ⟨#[]⟩, .int .i64 0, .int .i64 0, .int .i64 0, .int .i64 0, .int .i64 0, .nils, .int .i64 0, .int .i64 0, .int .i64 0, .int .i64 0, .int .i64 0, .int .i64 0, .int .i64 0, .int .i64 0, .int .i64 0, .int .i64 0, .int .i64 0, .int .i64 0, .int .i64 0, .int .i64 0, .int .i64 0, .int .i64 0] [(0, 1), (2, 9), (11, 1), (12, 25), (37, 1)]), [.t 153, .t 155, .t 158, .t 160, .t 161], []⟩,
    ⟨11, none, none, (.st 38), [.t 25, .t 162], []⟩] [5, 7, 9, 14, 15, 16, 17, 18, 25, 135, 136, 137] [5, 25, 40]
def R11_31 : ACode := .reg none [
    ⟨0, none, (some 163), .mov, [.t 17], []⟩,
    ⟨1, none, (some 164), (.ld 38 true), [.t 25], []⟩,
    ⟨2, none, (some 165), (.bslice 1 38 [.int .i64 0, .bool false, .str ⟨#[]⟩, .str ⟨#[]⟩, .str ⟨#[]⟩, .str ⟨#[]⟩, .int .i64 0, .int .i64 0, .int .i64 0, .int .i64 0, .int .i64 0, .int .i64 0, .str ⟨#[]⟩, .str ⟨#[]⟩, .str ⟨#[]⟩, .str ⟨#[]⟩, .int .i64 0, .int .i64 0, .int .i64 0, .int .i64 0, .int .i64 0, .nils, .int .i64 0, .int .i64 0, .int .i64 0, .int .i64 0, .int .i64 0, .int .i64 0, .int .i64 0, .int .i64 0, .int .i64 0, .int .i64 0, .int .i64 0, .int .i64 0, .int .i64 0, .int .i64 0, .int .i64 0, .int .i64 0] [0]), [.t 164], []⟩,
    ⟨3, none, (some 166), (.appm [.int .i64 0, .bool false, .str ⟨#[]⟩, .str ⟨#[]⟩, .str ⟨#[]⟩, .str ⟨#[]⟩, .int .i64 0, .int .i64 0, .int .i64 0, .int .i64 0, .int .i64 0, .int .i64 0, .str ⟨#[]⟩, .str ⟨#[]⟩, .str ⟨#[]⟩, .str ⟨#[]⟩, .int .i64 0, .int .i64 0, .int .i64 0, .int .i64 0, .int .i64 0, .nils, .int .i64 0, .int .i64 0, .int .i64 0, .int .i64 0, .int .i64 0, .int .i64 0, .int .i64 0, .int .i64 0, .int .i64 0, .int .i64 0, .int .i64 0, .int .i64 0, .int .i64 0, .int .i64 0, .int .i64 0, .int .i64 0] 366503875925), [.t 163, .t 165], []⟩,
    ⟨4, none, (some 17), .mov, [.t 166], []⟩] [5, 7, 9, 14, 15, 16, 17, 18, 25, 135, 136, 137] [5, 25, 40]
def R11_32 : ACode := .reg none [
    ⟨0, none, (some 167), .mov, [.t 16], []⟩,
    ⟨1, none, (some 168), (.ld 38 true), [.t 25], []⟩,
    ⟨2, none, (some 169), .callv, [.t 167, .c (.int .i64 1), .t 168], []⟩] [5, 7, 9, 14, 15, 16, 17, 18, 135, 136, 137] [5, 40]
def R11_33 : ACode := .reg none [
    ⟨0, none, (some 170), (.bin .add), [.t 137, .c (.int .i64 1)], []⟩,
    ⟨1, none, (some 137), .mov, [.t 170], []⟩] [5, 7, 9, 14, 15, 16, 17, 18, 135, 136, 137] [5, 40]
def R11_34 : ACode := .reg none [
    ⟨0, none, (some 171), .mov, [.t 17], []⟩,
    ⟨1, none, (some 172), .len, [.t 171], []⟩,
    ⟨2, none, (some 173), (.bin .gt), [.t 172, .c (.int .i64 200)], []⟩,
    ⟨3, none, (some 174), .mov, [.t 173], []⟩,
    ⟨4, (some (174, false)), (some 175), (.ldh 1 false), [.t 15], []⟩,
    ⟨5, none, (some 176), .pick, [.t 174, .c (.bool true), .t 175], []⟩] [14, 17, 176] []
def R11_35 : ACode := .reg none [
    ⟨0, none, (some 10), .mov, [.c (.nils)], []⟩,
    ⟨1, none, (some 11), .mov, [.c (.nils)], []⟩,
    ⟨2, none, (some 12), .mov, [.c (.int .i64 8)], []⟩] [10, 11, 12] []
def R11_36 : ACode := .reg (some [0, 0, 1, 7, 15]) [
    ⟨0, none, (some 177), .mov, [.t 17], []⟩,
    ⟨1, none, (some 178), (.ldh 1 false), [.t 14], []⟩,
    ⟨2, none, (some 10), .mov, [.t 177], []⟩,
    ⟨3, none, (some 11), .mov, [.t 178], []⟩,
    ⟨4, none, (some 12), .mov, [.c (.int .i64 0)], []⟩] [10, 11, 12] []
def C11 : ACode := (.seq R11_0 (.seq (.seq R11_1 (.seq R11_2 (.cond (.t 33) (.seq R11_3 (.seq (.frz 10) .ret)) .skip))) (.seq R11_4 (.seq R11_5 (.seq R11_6 (.seq R11_7 (.seq R11_8 (.seq (.seq R11_9 (.block 0 (.loop (.seq R11_10 (.seq (.cond (.t 46) .skip (.exit 0)) (.seq (.block 1 (.seq R11_11 (.seq R11_12 (.seq (.seq R11_13 (.cond (.t 56) (.exit 1) .skip)) (.seq R11_14 (.seq (.seq R11_15 (.cond (.t 58) (.seq R11_16 (.seq R11_17 R11_18)) .skip)) (.block 2 (.seq R11_19 (.cond (.t 76) (.seq R11_20 R11_21) (.seq R11_22 (.cond (.t 91) (.seq R11_23 R11_24) .skip))))))))))) R11_25)))))) (.seq (.seq R11_26 (.block 3 (.loop (.seq R11_27 (.seq (.cond (.t 138) .skip (.exit 3)) (.seq (.block 4 (.seq R11_28 (.seq R11_29 (.cond (.t 152) (.seq R11_30 (.seq R11_31 R11_32)) .skip)))) R11_33)))))) (.seq (.seq R11_34 (.cond (.t 176) (.seq R11_35 (.seq (.frz 10) .ret)) .skip)) (.seq R11_36 (.seq (.frz 10) .ret))))))))))))
def F11 : AFn := ⟨5, 179, [.tmp 10, .tmp 11, .tmp 12], C11⟩
theorem ok11 : fnOk Try.prog Try.f11 F11 = true := by kernel_rfl
theorem at11 : Try.prog.funcs[11]? = some Try.f11 := by kernel_rfl
/-! seismonet/seismonetref36.Same -/
def R12_0 : ACode := .reg none [
    ⟨0, none, (some 4), .mov, [.c (.bool false)], []⟩] [0, 1] []
def R12_1 : ACode := .reg none [
    ⟨0, none, (some 6), .mov, [.t 0], []⟩,
    ⟨1, none, (some 7), .len, [.t 6], []⟩,
    ⟨2, none, (some 8), .mov, [.t 1], []⟩,
    ⟨3, none, (some 9), .len, [.t 8], []⟩,
    ⟨4, none, (some 10), (.bin .ne), [.t 7, .t 9], []⟩] [0, 1, 10] []
def R12_2 : ACode := .reg none [
    ⟨0, none, (some 4), .mov, [.c (.bool false)], []⟩] [4] []
def R12_3 : ACode := .reg none [
    ⟨0, none, (some 5), .mov, [.c (.int .i64 0)], []⟩] [0, 1, 5] []
def R12_4 : ACode := .reg none [
    ⟨0, none, (some 11), .mov, [.t 5], []⟩,
    ⟨1, none, (some 12), .mov, [.t 0], []⟩,
    ⟨2, none, (some 13), .len, [.t 12], []⟩,
    ⟨3, none, (some 14), (.bin .lt), [.t 11, .t 13], []⟩] [0, 1, 5, 14] []
def R12_6 : ACode := .reg (some [0, 0, 3, 7, 15, 0, 0, 96, 224, 480, 1023, 2047, 4095, 4095, 16383, 32767, 65535, 4095, 4095, 397311, 921599, 1970175, 4194303, 8388607, 16777215, 33554431, 33554431, 134217727, 268435455, 536870911, 33554431, 33554431, 3254779903, 7549747199, 16139681791, 34359738367, 68719476735, 137438953471, 274877906943, 274877906943, 1099511627775, 2199023255551, 4398046511103, 274877906943, 274877906943, 26663156973567, 61847529062399, 132216273240063, 281474976710655, 562949953421311, 1125899906842623, 2251799813685247, 2251799813685247, 9007199254740991, 18014398509481983, 36028797018963967, 2251799813685247, 2251799813685247, 218424581927469055, 506654958079180799, 1083115710382604287, 2305843009213693951, 4611686018427387903, 9223372036854775807, 18446744073709551615, 18446744073709551615, 73786976294838206463, 147573952589676412927, 295147905179352825855, 18446744073709551615, 18446744073709551615, 1789334175149826506751, 4150517416584649113599, 8872883899454294327295, 18889465931478580854783, 37778931862957161709567, 75557863725914323419135]) [
    ⟨0, none, (some 17), .mov, [.t 0], []⟩,
    ⟨1, none, (some 18), .mov, [.t 5], []⟩,
    ⟨2, none, (some 19), (.ix 38), [.t 17, .t 18], []⟩,
    ⟨3, none, (some 20), (.fld 0), [.t 19], []⟩,
    ⟨4, none, (some 21), (.ldh 1 false), [.t 20], []⟩,
    ⟨5, none, (some 22), .mov, [.t 1], []⟩,
    ⟨6, none, (some 23), .mov, [.t 5], []⟩,
    ⟨7, none, (some 24), (.ix 38), [.t 22, .t 23], []⟩,
    ⟨8, none, (some 25), (.fld 0), [.t 24], []⟩,
    ⟨9, none, (some 26), (.ldh 1 false), [.t 25], []⟩,
    ⟨10, none, (some 27), (.bin .ne), [.t 21, .t 26], []⟩,
    ⟨11, none, (some 28), .mov, [.t 27], []⟩,
    ⟨12, (some (28, false)), (some 29), .mov, [.t 0], []⟩,
    ⟨13, (some (28, false)), (some 30), .mov, [.t 5], []⟩,
    ⟨14, (some (28, false)), (some 31), (.ix 38), [.t 29, .t 30], []⟩,
    ⟨15, (some (28, false)), (some 32), (.fld 1), [.t 31], []⟩,
    ⟨16, (some (28, false)), (some 33), (.ldh 1 false), [.t 32], []⟩,
    ⟨17, (some (28, false)), (some 34), .mov, [.t 1], []⟩,
    ⟨18, (some (28, false)), (some 35), .mov, [.t 5], []⟩,
    ⟨19, (some (28, false)), (some 36), (.ix 38), [.t 34, .t 35], []⟩,
    ⟨20, (some (28, false)), (some 37), (.fld 1), [.t 36], []⟩,
    ⟨21, (some (28, false)), (some 38), (.ldh 1 false), [.t 37], []⟩,
    ⟨22, (some (28, false)), (some 39), (.beq true), [.t 33, .t 38], []⟩,
    ⟨23, none, (some 40), .pick, [.t 28, .c (.bool true), .t 39], []⟩,
    ⟨24, none, (some 41), .mov, [.t 40], []⟩,
    ⟨25, (some (41, false)), (some 42), .mov, [.t 0], []⟩,
    ⟨26, (some (41, false)), (some 43), .mov, [.t 5], []⟩,
    ⟨27, (some (41, false)), (some 44), (.ix 38), [.t 42, .t 43], []⟩,
    ⟨28, (some (41, false)), (some 45), (.fld 2), [.t 44], []⟩,
    ⟨29, (some (41, false)), (some 46), (.ldh 9 true), [.t 45], []⟩,
    ⟨30, (some (41, false)), (some 47), .mov, [.t 1], []⟩,
    ⟨31, (some (41, false)), (some 48), .mov, [.t 5], []⟩,
    ⟨32, (some (41, false)), (some 49), (.ix 38), [.t 47, .t 48], []⟩,
    ⟨33, (some (41, false)), (some 50), (.fld 2), [.t 49], []⟩,
    ⟨34, (some (41, false)), (some 51), (.ldh 9 true), [.t 50], []⟩,
    ⟨35, (some (41, false)), (some 52), (.eqs true [1, 1, 1, 1, 6, 6, 6, 6, 6]), [.t 46, .t 51], []⟩,
    ⟨36, none, (some 53), .pick, [.t 41, .c (.bool true), .t 52], []⟩,
    ⟨37, none, (some 54), .mov, [.t 53], []⟩,
    ⟨38, (some (54, false)), (some 55), .mov, [.t 0], []⟩,
    ⟨39, (some (54, false)), (some 56), .mov, [.t 5], []⟩,
    ⟨40, (some (54, false)), (some 57), (.ix 38), [.t 55, .t 56], []⟩,
    ⟨41, (some (54, false)), (some 58), (.fld 11), [.t 57], []⟩,
    ⟨42, (some (54, false)), (some 59), (.ldh 1 false), [.t 58], []⟩,
    ⟨43, (some (54, false)), (some 60), .mov, [.t 1], []⟩,
    ⟨44, (some (54, false)), (some 61), .mov, [.t 5], []⟩,
    ⟨45, (some (54, false)), (some 62), (.ix 38), [.t 60, .t 61], []⟩,
    ⟨46, (some (54, false)), (some 63), (.fld 11), [.t 62], []⟩,
    ⟨47, (some (54, false)), (some 64), (.ldh 1 false), [.t 63], []⟩,
    ⟨48, (some (54, false)), (some 65), (.bin .ne), [.t 59, .t 64], []⟩,
    ⟨49, none, (some 66), .pick, [.t 54, .c (.bool true), .t 65], []⟩,
    ⟨50, none, (some 67), .mov, [.t 66], []⟩,
    ⟨51, (some (67, false)), (some 68), .mov, [.t 0], []⟩,
    ⟨52, (some (67, false)), (some 69), .mov, [.t 5], []⟩,
    ⟨53, (some (67, false)), (some 70), (.ix 38), [.t 68, .t 69], []⟩,
    ⟨54, (some (67, false)), (some 71), (.fld 37), [.t 70], []⟩,
    ⟨55, (some (67, false)), (some 72), (.ldh 1 false), [.t 71], []⟩,
    ⟨56, (some (67, false)), (some 73), .mov, [.t 1], []⟩,
    ⟨57, (some (67, false)), (some 74), .mov, [.t 5], []⟩,
    ⟨58, (some (67, false)), (some 75), (.ix 38), [.t 73, .t 74], []⟩,
    ⟨59, (some (67, false)), (some 76), (.fld 37), [.t 75], []⟩,
    ⟨60, (some (67, false)), (some 77), (.ldh 1 false), [.t 76], []⟩,
    ⟨61, (some (67, false)), (some 78), (.bin .ne), [.t 72, .t 77], []⟩,
    ⟨62, none, (some 79), .pick, [.t 67, .c (.bool true), .t 78], []⟩,
    ⟨63, none, (some 80), .mov, [.t 79], []⟩,
    ⟨64, (some (80, false)), (some 81), .mov, [.t 0], []⟩,
    ⟨65, (some (80, false)), (some 82), .mov, [.t 5], []⟩,
    ⟨66, (some (80, false)), (some 83), (.ix 38), [.t 81, .t 82], []⟩,
    ⟨67, (some (80, false)), (some 84), (.fld 12), [.t 83], []⟩,
    ⟨68, (some (80, false)), (some 85), (.ldh 25 true), [.t 84], []⟩,
    ⟨69, (some (80, false)), (some 86), .mov, [.t 1], []⟩,
    ⟨70, (some (80, false)), (some 87), .mov, [.t 5], []⟩,
    ⟨71, (some (80, false)), (some 88), (.ix 38), [.t 86, .t 87], []⟩,
    ⟨72, (some (80, false)), (some 89), (.fld 12), [.t 88], []⟩,
    ⟨73, (some (80, false)), (some 90), (.ldh 25 true), [.t 89], []⟩,
    ⟨74, (some (80, false)), (some 91), (.callp 18), [.t 85, .t 90], []⟩,
    ⟨75, (some (80, false)), (some 92), .not, [.t 91], []⟩,
    ⟨76, none, (some 93), .pick, [.t 80, .c (.bool true), .t 92], []⟩] [0, 1, 5, 93] []
def R12_7 : ACode := .reg none [
    ⟨0, none, (some 4), .mov, [.c (.bool false)], []⟩] [4] []
def R12_5 : ACode := .reg none [
    ⟨0, none, (some 15), .mov, [.t 5], []⟩,
    ⟨1, none, (some 16), (.bin .add), [.t 15, .c (.int .i64 1)], []⟩,
    ⟨2, none, (some 5), .mov, [.t 16], []⟩] [0, 1, 5] []
def R12_8 : ACode := .reg none [
    ⟨0, none, (some 4), .mov, [.c (.bool true)], []⟩] [4] []
def C12 : ACode := (.seq R12_0 (.seq (.seq R12_1 (.cond (.t 10) (.seq R12_2 .ret) .skip)) (.seq (.seq R12_3 (.block 0 (.loop (.seq (.seq R12_4 (.cond (.t 14) .skip (.exit 0))) (.seq (.block 1 (.seq R12_6 (.cond (.t 93) (.seq R12_7 .ret) .skip))) R12_5))))) (.seq R12_8 .ret))))
def F12 : AFn := ⟨2, 94, [.tmp 4], C12⟩
theorem ok12 : fnOk Try.prog Try.f12 F12 = true := by kernel_rfl
theorem at12 : Try.prog.funcs[12]? = some Try.f12 := by kernel_rfl
/-! seismonet/seismonetlaw36.awake -/
def R13_0 : ACode := .reg none [
    ⟨0, none, (some 0), .mov, [.c (.bool false)], []⟩] [] []
def R13_1 : ACode := .reg none [
    ⟨0, none, (some 8), (.callp 31), [.c (.int .i64 0)], []⟩,
    ⟨1, none, (some 9), (.build [.str ⟨#[]⟩, .str ⟨#[]⟩, .str ⟨#[]⟩, .str ⟨#[]⟩, .int .i64 0, .int .i64 0, .int .i64 0, .int .i64 0, .int .i64 0] [(0, 4), (4, 1)]), [.t 8, .c (.int .i64 1000)], []⟩,
    ⟨2, none, (some 10), (.build [.str ⟨#[]⟩, .str ⟨#[]⟩, .str ⟨#[]⟩, .str ⟨#[]⟩, .int .i64 0, .int .i64 0, .int .i64 0, .int .i64 0, .int .i64 0, .nils, .int .i64 0, .int .i64 0, .int .i64 0, .int .i64 0, .int .i64 0, .int .i64 0, .int .i64 0, .int .i64 0, .int .i64 0, .int .i64 0, .int .i64 0, .int .i64 0, .int .i64 0, .int .i64 0, .int .i64 0] [(0, 9)]), [.t 9], []⟩,
    ⟨3, none, (some 1), (.newl 1 [.str ⟨#[]⟩, .str ⟨#[]⟩, .str ⟨#[]⟩, .str ⟨#[]⟩, .int .i64 0, .int .i64 0, .int .i64 0, .int .i64 0, .int .i64 0, .nils, .int .i64 0, .int .i64 0, .int .i64 0, .int .i64 0, .int .i64 0, .int .i64 0, .int .i64 0, .int .i64 0, .int .i64 0, .int .i64 0, .int .i64 0, .int .i64 0, .int .i64 0, .int .i64 0, .int .i64 0]), [], []⟩,
    ⟨4, none, none, (.st 25), [.t 1, .t 10], []⟩] [1] [1]
def R13_2 : ACode := .reg none [
    ⟨0, none, (some 11), (.fld 0), [.t 1], []⟩,
    ⟨1, none, (some 12), (.ld 9 true), [.t 11], []⟩,
    ⟨2, none, (some 13), (.bslice 1 9 [.str ⟨#[]⟩, .str ⟨#[]⟩, .str ⟨#[]⟩, .str ⟨#[]⟩, .int .i64 0, .int .i64 0, .int .i64 0, .int .i64 0, .int .i64 0] [0]), [.t 12], []⟩,
    ⟨3, none, (some 14), (.build [.nils, .int .i64 0, .int .i64 0, .int .i64 0, .int .i64 0, .int .i64 0, .int .i64 0, .int .i64 0, .int .i64 0, .int .i64 0, .int .i64 0, .int .i64 0, .int .i64 0, .int .i64 0, .int .i64 0, .int .i64 0] [(0, 1), (15, 1)]), [.t 13, .c (.int .i64 1)], []⟩,
    ⟨4, none, (some 15), (.fld 9), [.t 1], []⟩,
    ⟨5, none, none, (.st 16), [.t 15, .t 14], []⟩] [1] [1]
def R13_3 : ACode := .reg none [
    ⟨0, none, (some 16), (.fld 9), [.t 1], []⟩,
    ⟨1, none, (some 17), (.fld 1), [.t 16], []⟩,
    ⟨2, none, (some 18), (.fld 3), [.t 17], []⟩,
    ⟨3, none, none, (.st 1), [.t 18, .c (.int .i64 900)], []⟩] [1] [1]
def R13_4 : ACode := .reg (some [0, 0, 2, 7, 15, 31, 31, 31, 63, 383, 1023]) [
    ⟨1, none, (some 21), (.ld 25 true), [.t 1], []⟩,
    ⟨2, none, (some 22), (.bslice 1 25 [.str ⟨#[]⟩, .str ⟨#[]⟩, .str ⟨#[]⟩, .str ⟨#[]⟩, .int .i64 0, .int .i64 0, .int .i64 0, .int .i64 0, .int .i64 0, .nils, .int .i64 0, .int .i64 0, .int .i64 0, .int .i64 0, .int .i64 0, .int .i64 0, .int .i64 0, .int .i64 0, .int .i64 0, .int .i64 0, .int .i64 0, .int .i64 0, .int .i64 0, .int .i64 0, .int .i64 0] [0]), [.t 21], []⟩,
    ⟨0, none, (some 20), (.callp 32), [], []⟩,
    ⟨3, none, (some 23), (.callp 11), [.t 20, .c (.nils), .c (.int .i64 4), .t 22, .c (.int .i64 1200)], []⟩,
    ⟨4, none, (some 19), .mov, [.t 23], []⟩,
    ⟨5, none, (some 24), (.ext 0), [.t 19], []⟩,
    ⟨6, none, (some 25), (.ext 1), [.t 19], []⟩,
    ⟨7, none, (some 26), (.ext 2), [.t 19], []⟩,
    ⟨8, none, (some 2), .mov, [.t 24], []⟩,
    ⟨9, none, (some 3), .mov, [.t 25], []⟩,
    ⟨10, none, (some 4), .mov, [.t 26], []⟩] [2, 3, 4] []
def R13_5 : ACode := .reg none [
    ⟨0, none, (some 28), (.callp 32), [], []⟩,
    ⟨1, none, (some 29), .mov, [.t 2], []⟩,
    ⟨2, none, (some 30), (.callp 11), [.t 28, .t 29, .c (.int .i64 5), .c (.nils), .c (.int .i64 1300)], []⟩,
    ⟨3, none, (some 27), .mov, [.t 30], []⟩,
    ⟨4, none, (some 31), (.ext 0), [.t 27], []⟩,
    ⟨5, none, (some 32), (.ext 1), [.t 27], []⟩,
    ⟨6, none, (some 33), (.ext 2), [.t 27], []⟩,
    ⟨7, none, (some 5), .mov, [.t 31], []⟩,
    ⟨8, none, (some 6), .mov, [.t 32], []⟩,
    ⟨9, none, (some 7), .mov, [.t 33], []⟩] [2, 3, 4, 5, 6, 7] []
def R13_6 : ACode := .reg none [
    ⟨0, none, (some 34), .mov, [.t 4], []⟩,
    ⟨1, none, (some 35), (.bin .eq), [.t 34, .c (.int .i64 0)], []⟩,
    ⟨2, none, (some 36), .mov, [.t 35], []⟩,
    ⟨3, (some (36, true)), (some 37), .mov, [.t 2], []⟩,
    ⟨4, (some (36, true)), (some 38), .len, [.t 37], []⟩,
    ⟨5, (some (36, true)), (some 39), (.bin .eq), [.t 38, .c (.int .i64 1)], []⟩,
    ⟨6, none, (some 40), .pick, [.t 36, .t 39, .c (.bool false)], []⟩,
    ⟨7, none, (some 41), .mov, [.t 40], []⟩,
    ⟨8, (some (41, true)), (some 42), .mov, [.t 3], []⟩,
    ⟨9, (some (41, true)), (some 43), .len, [.t 42], []⟩,
    ⟨10, (some (41, true)), (some 44), (.bin .eq), [.t 43, .c (.int .i64 1)], []⟩,
    ⟨11, none, (some 45), .pick, [.t 41, .t 44, .c (.bool false)], []⟩,
    ⟨12, none, (some 46), .mov, [.t 45], []⟩,
    ⟨13, (some (46, true)), (some 47), .mov, [.t 3], []⟩,
    ⟨14, (some (46, true)), (some 48), (.ix 30), [.t 47, .c (.int .i64 0)], []⟩,
    ⟨15, (some (46, true)), (some 49), (.fld 1), [.t 48], []⟩,
    ⟨16, (some (46, true)), (some 50), (.ldh 1 false), [.t 49], []⟩,
    ⟨17, (some (46, true)), (some 51), (.bin .eq), [.t 50, .c (.int .i64 1)], []⟩,
    ⟨18, none, (some 52), .pick, [.t 46, .t 51, .c (.bool false)], []⟩,
    ⟨19, none, (some 53), .mov, [.t 52], []⟩,
    ⟨20, (some (53, true)), (some 54), .mov, [.t 3], []⟩,
    ⟨21, (some (53, true)), (some 55), (.ix 30), [.t 54, .c (.int .i64 0)], []⟩,
    ⟨22, (some (53, true)), (some 56), (.fld 2), [.t 55], []⟩,
    ⟨23, (some (53, true)), (some 57), (.ldh 1 false), [.t 56], []⟩,
    ⟨24, (some (53, true)), (some 58), (.bin .eq), [.t 57, .c (.int .i64 4)], []⟩,
    ⟨25, none, (some 59), .pick, [.t 53, .t 58, .c (.bool false)], []⟩,
    ⟨26, none, (some 60), .mov, [.t 59], []⟩,
    ⟨27, (some (60, true)), (some 61), .mov, [.t 7], []⟩,
    ⟨28, (some (60, true)), (some 62), (.bin .eq), [.t 61, .c (.int .i64 0)], []⟩,
    ⟨29, none, (some 63), .pick, [.t 60, .t 62, .c (.bool false)], []⟩,
    ⟨30, none, (some 64), .mov, [.t 63], []⟩,
    ⟨31, (some (64, true)), (some 65), .mov, [.t 5], []⟩,
    ⟨32, (some (64, true)), (some 66), .len, [.t 65], []⟩,
    ⟨33, (some (64, true)), (some 67), (.bin .eq), [.t 66, .c (.int .i64 1)], []⟩,
    ⟨34, none, (some 68), .pick, [.t 64, .t 67, .c (.bool false)], []⟩,
    ⟨35, none, (some 69), .mov, [.t 68], []⟩,
    ⟨36, (some (69, true)), (some 70), .mov, [.t 5], []⟩,
    ⟨37, (some (69, true)), (some 71), (.ix 38), [.t 70, .c (.int .i64 0)], []⟩,
    ⟨38, (some (69, true)), (some 72), (.fld 1), [.t 71], []⟩,
    ⟨39, (some (69, true)), (some 73), (.ldh 1 false), [.t 72], []⟩,
    ⟨40, none, (some 74), .pick, [.t 69, .t 73, .c (.bool false)], []⟩,
    ⟨41, none, (some 75), .mov, [.t 74], []⟩,
    ⟨42, (some (75, true)), (some 76), .mov, [.t 6], []⟩,
    ⟨43, (some (75, true)), (some 77), .len, [.t 76], []⟩,
    ⟨44, (some (75, true)), (some 78), (.bin .eq), [.t 77, .c (.int .i64 1)], []⟩,
    ⟨45, none, (some 79), .pick, [.t 75, .t 78, .c (.bool false)], []⟩,
    ⟨46, none, (some 80), .mov, [.t 79], []⟩,
    ⟨47, (some (80, true)), (some 81), .mov, [.t 6], []⟩,
    ⟨48, (some (80, true)), (some 82), (.ix 30), [.t 81, .c (.int .i64 0)], []⟩,
    ⟨49, (some (80, true)), (some 83), (.fld 1), [.t 82], []⟩,
    ⟨50, (some (80, true)), (some 84), (.ldh 1 false), [.t 83], []⟩,
    ⟨51, (some (80, true)), (some 85), (.bin .eq), [.t 84, .c (.int .i64 3)], []⟩,
    ⟨52, none, (some 86), .pick, [.t 80, .t 85, .c (.bool false)], []⟩,
    ⟨53, none, (some 87), .mov, [.t 86], []⟩,
    ⟨54, (some (87, true)), (some 88), .mov, [.t 6], []⟩,
    ⟨55, (some (87, true)), (some 89), (.ix 30), [.t 88, .c (.int .i64 0)], []⟩,
    ⟨56, (some (87, true)), (some 90), (.fld 0), [.t 89], []⟩,
    ⟨57, (some (87, true)), (some 91), (.ldh 1 false), [.t 90], []⟩,
    ⟨58, (some (87, true)), (some 92), (.bin .eq), [.t 91, .c (.int .i64 5)], []⟩,
    ⟨59, none, (some 93), .pick, [.t 87, .t 92, .c (.bool false)], []⟩,
    ⟨60, none, (some 94), .mov, [.t 93], []⟩,
    ⟨61, (some (94, true)), (some 95), .mov, [.t 6], []⟩,
    ⟨62, (some (94, true)), (some 96), (.ix 30), [.t 95, .c (.int .i64 0)], []⟩,
    ⟨63, (some (94, true)), (some 97), (.fld 2), [.t 96], []⟩,
    ⟨64, (some (94, true)), (some 98), (.ldh 1 false), [.t 97], []⟩,
    ⟨65, (some (94, true)), (some 99), (.bin .eq), [.t 98, .c (.int .i64 4)], []⟩,
    ⟨66, none, (some 100), .pick, [.t 94, .t 99, .c (.bool false)], []⟩,
    ⟨67, none, (some 0), .mov, [.t 100], []⟩] [0] []
def C13 : ACode := (.seq R13_0 (.seq R13_1 (.seq R13_2 (.seq R13_3 (.seq R13_4 (.seq R13_5 (.seq R13_6 .ret)))))))
def F13 : AFn := ⟨0, 101, [.tmp 0], C13⟩
theorem ok13 : fnOk Try.prog Try.f13 F13 = true := by kernel_rfl
theorem at13 : Try.prog.funcs[13]? = some Try.f13 := by kernel_rfl
/-! seismonet/alert.Valid -/
def R14_0 : ACode := .reg none [
    ⟨0, none, (some 2), .mov, [.c (.bool false)], []⟩] [0] []
def R14_1 : ACode := .reg none [
    ⟨0, none, (some 9), .mov, [.t 0], []⟩,
    ⟨1, none, (some 10), .len, [.t 9], []⟩,
    ⟨2, none, (some 11), (.bin .gt), [.t 10, .c (.int .i64 200)], []⟩] [0, 11] []
def R14_2 : ACode := .reg none [
    ⟨0, none, (some 2), .mov, [.c (.bool false)], []⟩] [2] []
def R14_3 : ACode := .reg none [
    ⟨0, none, (some 12), (.mml 12 true [1, 1, 1, 1, 6, 6, 6, 6, 6]), [], []⟩,
    ⟨1, none, (some 3), .mov, [.t 12], []⟩] [0, 3] [12]
def R14_4 : ACode := .reg none [
    ⟨0, none, (some 4), .mov, [.c (.int .i64 (-1))], []⟩] [0, 3, 4] [12]
def R14_5 : ACode := .reg none [
    ⟨0, none, (some 13), .mov, [.t 0], []⟩,
    ⟨1, none, (some 14), .len, [.t 13], []⟩,
    ⟨2, none, (some 15), .mov, [.c (.int .i64 0)], []⟩] [3, 4, 13, 14, 15] [12]
def R14_6 : ACode := .reg none [
    ⟨0, none, (some 16), (.bin .lt), [.t 15, .t 14], []⟩] [3, 4, 13, 14, 15, 16] [12]
def R14_7 : ACode := .reg none [
    ⟨0, none, (some 17), (.ix 38), [.t 13, .t 15], []⟩,
    ⟨1, none, (some 18), (.ldh 38 true), [.t 17], []⟩,
    ⟨2, none, (some 6), (.newl 6 [.int .i64 0, .bool false, .str ⟨#[]⟩, .str ⟨#[]⟩, .str ⟨#[]⟩, .str ⟨#[]⟩, .int .i64 0, .int .i64 0, .int .i64 0, .int .i64 0, .int .i64 0, .int .i64 0, .str ⟨#[]⟩, .str ⟨#[]⟩, .str ⟨#[]⟩, .str ⟨#[]⟩, .int .i64 0, .int .i64 0, .int .i64 0, .int .i64 0, .int .i64 0, .nils, .int .i64 0, .int .i64 0, .int .i64 0, .int .i64 0, .int .i64 0, .int .i64 0, .int .i64 0, .int .i64 0, .int .i64 0, .int .i64 0, .int .i64 0, .int .i64 0, .int .i64 0, .int .i64 0, .int .i64 0, .int .i64 0]), [], []⟩,
    ⟨3, none, none, (.st 38), [.t 6, .t 18], []⟩] [3, 4, 6, 13, 14, 15] [6, 12]
def R14_8 : ACode := .reg none [
    ⟨0, none, (some 19), (.fld 0), [.t 6], []⟩,
    ⟨1, none, (some 20), (.ld 1 false), [.t 19], []⟩,
    ⟨2, none, (some 21), .mov, [.t 4], []⟩,
    ⟨3, none, (some 22), (.bin .le), [.t 20, .t 21], []⟩,
    ⟨4, none, (some 23), .mov, [.t 22], []⟩,
    ⟨5, (some (23, false)), (some 24), (.fld 0), [.t 6], []⟩,
    ⟨6, (some (23, false)), (some 25), (.ld 1 false), [.t 24], []⟩,
    ⟨7, (some (23, false)), (some 26), (.bin .ge), [.t 25, .c (.int .i64 1000)], []⟩,
    ⟨8, none, (some 27), .pick, [.t 23, .c (.bool true), .t 26], []⟩,
    ⟨9, none, (some 28), .mov, [.t 27], []⟩,
    ⟨10, (some (28, false)), (some 29), (.fld 37), [.t 6], []⟩,
    ⟨11, (some (28, false)), (some 30), (.ld 1 false), [.t 29], []⟩,
    ⟨12, (some (28, false)), (some 31), (.bin .lt), [.t 30, .c (.int .i64 0)], []⟩,
    ⟨13, none, (some 32), .pick, [.t 28, .c (.bool true), .t 31], []⟩,
    ⟨14, none, (some 33), .mov, [.t 32], []⟩,
    ⟨15, (some (33, false)), (some 34), (.fld 37), [.t 6], []⟩,
    ⟨16, (some (33, false)), (some 35), (.ld 1 false), [.t 34], []⟩,
    ⟨17, (some (33, false)), (some 36), (.bin .gt), [.t 35, .c (.int .i64 18014398509481984)], []⟩,
    ⟨18, none, (some 37), .pick, [.t 33, .c (.bool true), .t 36], []⟩] [3, 6, 13, 14, 15, 37] [6, 12]
def R14_9 : ACode := .reg none [
    ⟨0, none, (some 2), .mov, [.c (.bool false)], []⟩] [2] []
def R14_10 : ACode := .reg none [
    ⟨0, none, (some 38), (.fld 0), [.t 6], []⟩,
    ⟨1, none, (some 39), (.ld 1 false), [.t 38], []⟩,
    ⟨2, none, (some 4), .mov, [.t 39], []⟩] [3, 4, 6, 13, 14, 15] [6, 12]
def R14_11 : ACode := .reg none [
    ⟨0, none, (some 40), (.fld 1), [.t 6], []⟩,
    ⟨1, none, (some 41), (.ld 1 false), [.t 40], []⟩] [3, 4, 6, 13, 14, 15, 41] [6, 12]
def R14_12 : ACode := .reg none [
    ⟨0, none, (some 43), .mov, [.t 3], []⟩,
    ⟨1, none, (some 44), (.fld 2), [.t 6], []⟩,
    ⟨2, none, (some 45), (.ld 9 true), [.t 44], []⟩,
    ⟨3, none, (some 46), (.lkl true [1, 1, 1, 1, 6, 6, 6, 6, 6] (.agg []) true), [.t 43, .t 45], []⟩,
    ⟨4, none, (some 42), .mov, [.t 46], []⟩,
    ⟨5, none, (some 47), (.ext 0), [.t 42], []⟩,
    ⟨6, none, (some 48), (.ext 1), [.t 42], []⟩,
    ⟨7, none, (some 7), (.newl 7 []), [], []⟩,
    ⟨8, none, none, (.st 0), [.t 7, .t 47], []⟩,
    ⟨9, none, (some 8), .mov, [.t 48], []⟩] [3, 4, 6, 8, 13, 14, 15] [6, 12]
def R14_13 : ACode := .reg none [
    ⟨0, none, (some 49), .mov, [.t 8], []⟩] [3, 4, 6, 13, 14, 15, 49] [6, 12]
def R14_14 : ACode := .reg none [
    ⟨0, none, (some 2), .mov, [.c (.bool false)], []⟩] [2] []
def R14_15 : ACode := .reg none [
    ⟨0, none, (some 50), .mov, [.t 3], []⟩,
    ⟨1, none, (some 51), (.fld 2), [.t 6], []⟩,
    ⟨2, none, (some 52), (.ld 9 true), [.t 51], []⟩,
    ⟨3, none, (some 53), (.build [] []), [], []⟩,
    ⟨4, none, none, (.upl true [1, 1, 1, 1, 6, 6, 6, 6, 6]), [.t 50, .t 52, .t 53], []⟩] [3, 4, 13, 14, 15] [12]
def R14_16 : ACode := .reg none [
    ⟨0, none, (some 54), (.bin .add), [.t 15, .c (.int .i64 1)], []⟩,
    ⟨1, none, (some 15), .mov, [.t 54], []⟩] [3, 4, 13, 14, 15] [12]
def R14_17 : ACode := .reg none [
    ⟨0, none, (some 2), .mov, [.c (.bool true)], []⟩] [2] []
def C14 : ACode := (.seq R14_0 (.seq (.seq R14_1 (.cond (.t 11) (.seq R14_2 .ret) .skip)) (.seq R14_3 (.seq R14_4 (.seq (.seq R14_5 (.block 0 (.loop (.seq R14_6 (.seq (.cond (.t 16) .skip (.exit 0)) (.seq (.block 1 (.seq R14_7 (.seq (.seq R14_8 (.cond (.t 37) (.seq R14_9 .ret) .skip)) (.seq R14_10 (.seq (.seq R14_11 (.cond (.t 41) (.exit 1) .skip)) (.seq (.seq R14_12 (.seq R14_13 (.cond (.t 49) (.seq R14_14 .ret) .skip))) R14_15)))))) R14_16)))))) (.seq R14_17 .ret))))))
def F14 : AFn := ⟨1, 55, [.tmp 2], C14⟩
theorem ok14 : fnOk Try.prog Try.f14 F14 = true := by kernel_rfl
theorem at14 : Try.prog.funcs[14]? = some Try.f14 := by kernel_rfl
/-! seismonet/alert.Follow -/
def R15_0 : ACode := .reg none [
    ⟨0, none, (some 4), .mov, [.c (.nils)], []⟩] [0, 1] []
def R15_1 : ACode := .reg none [
    ⟨0, none, (some 20), (.mml 20 true [1, 1, 1, 1, 6, 6, 6, 6, 6]), [], []⟩,
    ⟨1, none, (some 5), .mov, [.t 20], []⟩] [0, 1, 5] [20]
def R15_2 : ACode := .reg none [
    ⟨0, none, (some 21), .mov, [.t 1], []⟩,
    ⟨1, none, (some 22), .len, [.t 21], []⟩,
    ⟨2, none, (some 23), .mov, [.c (.int .i64 0)], []⟩] [0, 1, 5, 21, 22, 23] [20]
def R15_3 : ACode := .reg none [
    ⟨0, none, (some 24), (.bin .lt), [.t 23, .t 22], []⟩] [0, 1, 5, 21, 22, 23, 24] [20]
def R15_4 : ACode := .reg none [
    ⟨0, none, (some 25), .mov, [.t 23], []⟩,
    ⟨1, none, (some 26), (.ix 25), [.t 21, .t 23], []⟩,
    ⟨2, none, (some 27), (.ldh 25 true), [.t 26], []⟩,
    ⟨3, none, (some 7), (.newl 7 [.str ⟨#[]⟩, .str ⟨#[]⟩, .str ⟨#[]⟩, .str ⟨#[]⟩, .int .i64 0, .int .i64 0, .int .i64 0, .int .i64 0, .int .i64 0, .nils, .int .i64 0, .int .i64 0, .int .i64 0, .int .i64 0, .int .i64 0, .int .i64 0, .int .i64 0, .int .i64 0, .int .i64 0, .int .i64 0, .int .i64 0, .int .i64 0, .int .i64 0, .int .i64 0, .int .i64 0]), [], []⟩,
    ⟨4, none, (some 6), .mov, [.t 25], []⟩,
    ⟨5, none, none, (.st 25), [.t 7, .t 27], []⟩] [0, 1, 5, 6, 7, 21, 22, 23] [7, 20]
def R15_5 : ACode := .reg none [
    ⟨0, none, (some 29), .mov, [.t 5], []⟩,
    ⟨1, none, (some 30), (.fld 0), [.t 7], []⟩,
    ⟨2, none, (some 31), (.ld 9 true), [.t 30], []⟩,
    ⟨3, none, (some 32), (.lkl true [1, 1, 1, 1, 6, 6, 6, 6, 6] (.int .i64 0) true), [.t 29, .t 31], []⟩,
    ⟨4, none, (some 28), .mov, [.t 32], []⟩,
    ⟨5, none, (some 33), (.ext 0), [.t 28], []⟩,
    ⟨6, none, (some 34), (.ext 1), [.t 28], []⟩,
    ⟨7, none, (some 8), .mov, [.t 33], []⟩,
    ⟨8, none, (some 9), .mov, [.t 34], []⟩] [0, 1, 5, 6, 7, 9, 21, 22, 23] [7, 20]
def R15_6 : ACode := .reg none [
    ⟨0, none, (some 35), .mov, [.t 9], []⟩,
    ⟨1, none, (some 36), .not, [.t 35], []⟩] [0, 1, 5, 6, 7, 21, 22, 23, 36] [7, 20]
def R15_7 : ACode := .reg none [
    ⟨0, none, (some 37), .mov, [.t 5], []⟩,
    ⟨1, none, (some 38), (.fld 0), [.t 7], []⟩,
    ⟨2, none, (some 39), (.ld 9 true), [.t 38], []⟩,
    ⟨3, none, (some 40), .mov, [.t 6], []⟩,
    ⟨4, none, none, (.upl true [1, 1, 1, 1, 6, 6, 6, 6, 6]), [.t 37, .t 39, .t 40], []⟩] [0, 1, 5, 21, 22, 23] [20]
def R15_8 : ACode := .reg none [
    ⟨0, none, (some 41), (.bin .add), [.t 23, .c (.int .i64 1)], []⟩,
    ⟨1, none, (some 23), .mov, [.t 41], []⟩] [0, 1, 5, 21, 22, 23] [20]
def R15_9 : ACode := .reg none [
    ⟨0, none, (some 42), .mov, [.t 0], []⟩,
    ⟨1, none, (some 43), .len, [.t 42], []⟩,
    ⟨2, none, (some 44), (.mkl 44 [.int .i64 0] 35184372088832), [.t 43], []⟩,
    ⟨3, none, (some 10), .mov, [.t 44], []⟩] [0, 1, 5, 10] [20, 44]
def R15_10 : ACode := .reg none [
    ⟨0, none, (some 45), .mov, [.t 1], []⟩,
    ⟨1, none, (some 46), .len, [.t 45], []⟩,
    ⟨2, none, (some 47), (.mkl 47 [.bool false] 281474976710656), [.t 46], []⟩,
    ⟨3, none, (some 11), .mov, [.t 47], []⟩] [0, 1, 5, 10, 11] [20, 44, 47]
def R15_11 : ACode := .reg none [
    ⟨0, none, (some 48), .mov, [.t 0], []⟩,
    ⟨1, none, (some 49), .len, [.t 48], []⟩,
    ⟨2, none, (some 50), .mov, [.c (.int .i64 0)], []⟩] [0, 1, 5, 10, 11, 48, 49, 50] [20, 44, 47]
def R15_12 : ACode := .reg none [
    ⟨0, none, (some 51), (.bin .lt), [.t 50, .t 49], []⟩] [0, 1, 5, 10, 11, 48, 49, 50, 51] [20, 44, 47]
def R15_13 : ACode := .reg none [
    ⟨0, none, (some 52), .mov, [.t 50], []⟩,
    ⟨1, none, (some 53), (.ix 38), [.t 48, .t 50], []⟩,
    ⟨2, none, (some 54), (.ldh 38 true), [.t 53], []⟩,
    ⟨3, none, (some 13), (.newl 13 [.int .i64 0, .bool false, .str ⟨#[]⟩, .str ⟨#[]⟩, .str ⟨#[]⟩, .str ⟨#[]⟩, .int .i64 0, .int .i64 0, .int .i64 0, .int .i64 0, .int .i64 0, .int .i64 0, .str ⟨#[]⟩, .str ⟨#[]⟩, .str ⟨#[]⟩, .str ⟨#[]⟩, .int .i64 0, .int .i64 0, .int .i64 0, .int .i64 0, .int .i64 0, .nils, .int .i64 0, .int .i64 0, .int .i64 0, .int .i64 0, .int .i64 0, .int .i64 0, .int .i64 0, .int .i64 0, .int .i64 0, .int .i64 0, .int .i64 0, .int .i64 0, .int .i64 0, .int .i64 0, .int .i64 0, .int .i64 0]), [], []⟩,
    ⟨4, none, (some 12), .mov, [.t 52], []⟩,
    ⟨5, none, none, (.st 38), [.t 13, .t 54], []⟩] [0, 1, 5, 10, 11, 12, 13, 48, 49, 50] [13, 20, 44, 47]
def R15_14 : ACode := .reg none [
    ⟨0, none, (some 56), .mov, [.t 5], []⟩,
    ⟨1, none, (some 57), (.fld 2), [.t 13], []⟩,
    ⟨2, none, (some 58), (.ld 9 true), [.t 57], []⟩,
    ⟨3, none, (some 59), (.lkl true [1, 1, 1, 1, 6, 6, 6, 6, 6] (.int .i64 0) true), [.t 56, .t 58], []⟩,
    ⟨4, none, (some 55), .mov, [.t 59], []⟩,
    ⟨5, none, (some 60), (.ext 0), [.t 55], []⟩,
    ⟨6, none, (some 61), (.ext 1), [.t 55], []⟩,
    ⟨7, none, (some 14), .mov, [.t 60], []⟩,
    ⟨8, none, (some 15), .mov, [.t 61], []⟩] [0, 1, 5, 10, 11, 12, 13, 14, 15, 48, 49, 50] [13, 20, 44, 47]
def R15_15 : ACode := .reg none [
    ⟨0, none, (some 62), (.fld 1), [.t 13], []⟩,
    ⟨1, none, (some 63), (.ld 1 false), [.t 62], []⟩,
    ⟨2, none, (some 64), .mov, [.t 63], []⟩,
    ⟨3, (some (64, false)), (some 65), .mov, [.t 15], []⟩,
    ⟨4, (some (64, false)), (some 66), .not, [.t 65], []⟩,
    ⟨5, none, (some 67), .pick, [.t 64, .c (.bool true), .t 66], []⟩] [0, 1, 5, 10, 11, 12, 14, 48, 49, 50, 67] [20, 44, 47]
def R15_16 : ACode := .reg none [
    ⟨0, none, (some 68), .mov, [.t 10], []⟩,
    ⟨1, none, (some 69), .mov, [.t 12], []⟩,
    ⟨2, none, (some 70), (.ix 1), [.t 68, .t 69], []⟩,
    ⟨3, none, none, (.st 1), [.t 70, .c (.int .i64 (-1))], []⟩] [0, 1, 5, 10, 11, 48, 49, 50] [20, 44, 47]
def R15_17 : ACode := .reg none [
    ⟨0, none, (some 71), .mov, [.t 10], []⟩,
    ⟨1, none, (some 72), .mov, [.t 12], []⟩,
    ⟨2, none, (some 73), .mov, [.t 11], []⟩,
    ⟨3, none, (some 74), .mov, [.t 14], []⟩,
    ⟨4, none, (some 75), .mov, [.t 14], []⟩,
    ⟨5, none, (some 76), (.ix 1), [.t 71, .t 72], []⟩,
    ⟨6, none, none, (.st 1), [.t 76, .t 75], []⟩,
    ⟨7, none, (some 77), (.ix 1), [.t 73, .t 74], []⟩,
    ⟨8, none, none, (.st 1), [.t 77, .c (.bool true)], []⟩] [0, 1, 5, 10, 11, 48, 49, 50] [20, 44, 47]
def R15_18 : ACode := .reg none [
    ⟨0, none, (some 78), (.bin .add), [.t 50, .c (.int .i64 1)], []⟩,
    ⟨1, none, (some 50), .mov, [.t 78], []⟩] [0, 1, 5, 10, 11, 48, 49, 50] [20, 44, 47]
def R15_19 : ACode := .reg none [
    ⟨0, none, (some 79), .mov, [.t 0], []⟩,
    ⟨1, none, (some 80), .len, [.t 79], []⟩,
    ⟨2, none, (some 81), .mov, [.c (.int .i64 0)], []⟩] [1, 10, 11, 79, 80, 81] [44, 47]
def R15_20 : ACode := .reg none [
    ⟨0, none, (some 82), (.bin .lt), [.t 81, .t 80], []⟩] [1, 10, 11, 79, 80, 81, 82] [44, 47]
def R15_21 : ACode := .reg none [
    ⟨0, none, (some 83), .mov, [.t 81], []⟩,
    ⟨1, none, (some 84), (.ix 38), [.t 79, .t 81], []⟩,
    ⟨2, none, (some 85), (.ldh 38 true), [.t 84], []⟩,
    ⟨3, none, (some 17), (.newl 17 [.int .i64 0, .bool false, .str ⟨#[]⟩, .str ⟨#[]⟩, .str ⟨#[]⟩, .str ⟨#[]⟩, .int .i64 0, .int .i64 0, .int .i64 0, .int .i64 0, .int .i64 0, .int .i64 0, .str ⟨#[]⟩, .str ⟨#[]⟩, .str ⟨#[]⟩, .str ⟨#[]⟩, .int .i64 0, .int .i64 0, .int .i64 0, .int .i64 0, .int .i64 0, .nils, .int .i64 0, .int .i64 0, .int .i64 0, .int .i64 0, .int .i64 0, .int .i64 0, .int .i64 0, .int .i64 0, .int .i64 0, .int .i64 0, .int .i64 0, .int .i64 0, .int .i64 0, .int .i64 0, .int .i64 0, .int .i64 0]), [], []⟩,
    ⟨4, none, (some 16), .mov, [.t 83], []⟩,
    ⟨5, none, none, (.st 38), [.t 17, .t 85], []⟩] [1, 10, 11, 16, 17, 79, 80, 81] [17, 44, 47]
def R15_22 : ACode := .reg none [
    ⟨0, none, (some 86), (.fld 1), [.t 17], []⟩,
    ⟨1, none, (some 87), (.ld 1 false), [.t 86], []⟩,
    ⟨2, none, (some 88), .mov, [.t 87], []⟩,
    ⟨3, (some (88, false)), (some 89), .mov, [.t 10], []⟩,
    ⟨4, (some (88, false)), (some 90), .mov, [.t 16], []⟩,
    ⟨5, (some (88, false)), (some 91), (.ix 1), [.t 89, .t 90], []⟩,
    ⟨6, (some (88, false)), (some 92), (.ld 1 false), [.t 91], []⟩,
    ⟨7, (some (88, false)), (some 93), (.bin .ge), [.t 92, .c (.int .i64 0)], []⟩,
    ⟨8, none, (some 94), .pick, [.t 88, .c (.bool true), .t 93], []⟩] [1, 10, 11, 16, 17, 79, 80, 81, 94] [17, 44, 47]
def R15_23 : ACode := .reg none [
    ⟨0, none, (some 95), .mov, [.t 1], []⟩,
    ⟨1, none, (some 96), .len, [.t 95], []⟩,
    ⟨2, none, (some 97), .mov, [.c (.int .i64 0)], []⟩] [1, 10, 11, 16, 17, 79, 80, 81, 95, 96, 97] [17, 44, 47]
def R15_24 : ACode := .reg none [
    ⟨0, none, (some 98), (.bin .lt), [.t 97, .t 96], []⟩] [1, 10, 11, 16, 17, 79, 80, 81, 95, 96, 97, 98] [17, 44, 47]
def R15_25 : ACode := .reg none [
    ⟨0, none, (some 99), .mov, [.t 97], []⟩,
    ⟨1, none, (some 100), (.ix 25), [.t 95, .t 97], []⟩,
    ⟨2, none, (some 101), (.ldh 25 true), [.t 100], []⟩,
    ⟨3, none, (some 19), (.newl 19 [.str ⟨#[]⟩, .str ⟨#[]⟩, .str ⟨#[]⟩, .str ⟨#[]⟩, .int .i64 0, .int .i64 0, .int .i64 0, .int .i64 0, .int .i64 0, .nils, .int .i64 0, .int .i64 0, .int .i64 0, .int .i64 0, .int .i64 0, .int .i64 0, .int .i64 0, .int .i64 0, .int .i64 0, .int .i64 0, .int .i64 0, .int .i64 0, .int .i64 0, .int .i64 0, .int .i64 0]), [], []⟩,
    ⟨4, none, (some 18), .mov, [.t 99], []⟩,
    ⟨5, none, none, (.st 25), [.t 19, .t 101], []⟩] [1, 10, 11, 16, 17, 18, 19, 79, 80, 81, 95, 96, 97] [17, 19, 44, 47]
def R15_26 : ACode := .reg none [
    ⟨0, none, (some 102), .mov, [.t 11], []⟩,
    ⟨1, none, (some 103), .mov, [.t 18], []⟩,
    ⟨2, none, (some 104), (.ix 1), [.t 102, .t 103], []⟩,
    ⟨3, none, (some 105), (.ld 1 false), [.t 104], []⟩,
    ⟨4, none, (some 106), .not, [.t 105], []⟩,
    ⟨5, none, (some 107), .mov, [.t 106], []⟩,
    ⟨6, (some (107, true)), (some 108), (.fld 12), [.t 17], []⟩,
    ⟨7, (some (107, true)), (some 109), (.ld 25 true), [.t 108], []⟩,
    ⟨8, (some (107, true)), (some 110), (.ld 25 true), [.t 19], []⟩,
    ⟨9, (some (107, true)), (some 111), (.callp 33), [.t 109, .t 110], []⟩,
    ⟨10, none, (some 112), .pick, [.t 107, .t 111, .c (.bool false)], []⟩] [1, 10, 11, 16, 17, 18, 79, 80, 81, 95, 96, 97, 112] [17, 44, 47]
def R15_27 : ACode := .reg none [
    ⟨0, none, (some 113), .mov, [.t 10], []⟩,
    ⟨1, none, (some 114), .mov, [.t 16], []⟩,
    ⟨2, none, (some 115), .mov, [.t 11], []⟩,
    ⟨3, none, (some 116), .mov, [.t 18], []⟩,
    ⟨4, none, (some 117), .mov, [.t 18], []⟩,
    ⟨5, none, (some 118), (.ix 1), [.t 113, .t 114], []⟩,
    ⟨6, none, none, (.st 1), [.t 118, .t 117], []⟩,
    ⟨7, none, (some 119), (.ix 1), [.t 115, .t 116], []⟩,
    ⟨8, none, none, (.st 1), [.t 119, .c (.bool true)], []⟩] [1, 10, 11, 79, 80, 81] [44, 47]
def R15_28 : ACode := .reg none [
    ⟨0, none, (some 120), (.bin .add), [.t 97, .c (.int .i64 1)], []⟩,
    ⟨1, none, (some 97), .mov, [.t 120], []⟩] [1, 10, 11, 16, 17, 79, 80, 81, 95, 96, 97] [17, 44, 47]
def R15_29 : ACode := .reg none [
    ⟨0, none, (some 121), (.bin .add), [.t 81, .c (.int .i64 1)], []⟩,
    ⟨1, none, (some 81), .mov, [.t 121], []⟩] [1, 10, 11, 79, 80, 81] [44, 47]
def R15_30 : ACode := .reg none [
    ⟨0, none, (some 122), .mov, [.t 10], []⟩,
    ⟨1, none, (some 4), .mov, [.t 122], []⟩] [4] [44]
def C15 : ACode := (.seq R15_0 (.seq R15_1 (.seq (.seq R15_2 (.block 0 (.loop (.seq R15_3 (.seq (.cond (.t 24) .skip (.exit 0)) (.seq (.block 1 (.seq R15_4 (.seq R15_5 (.seq R15_6 (.cond (.t 36) R15_7 .skip))))) R15_8)))))) (.seq R15_9 (.seq R15_10 (.seq (.seq R15_11 (.block 2 (.loop (.seq R15_12 (.seq (.cond (.t 51) .skip (.exit 2)) (.seq (.block 3 (.seq R15_13 (.seq R15_14 (.seq (.seq R15_15 (.cond (.t 67) (.seq R15_16 (.exit 3)) .skip)) R15_17)))) R15_18)))))) (.seq (.seq R15_19 (.block 4 (.loop (.seq R15_20 (.seq (.cond (.t 82) .skip (.exit 4)) (.seq (.block 5 (.seq R15_21 (.seq (.seq R15_22 (.cond (.t 94) (.exit 5) .skip)) (.seq R15_23 (.block 6 (.loop (.seq R15_24 (.seq (.cond (.t 98) .skip (.exit 6)) (.seq (.block 7 (.seq R15_25 (.seq R15_26 (.cond (.t 112) (.seq R15_27 (.exit 6)) .skip)))) R15_28))))))))) R15_29)))))) (.seq R15_30 (.seq (.frz 4) .ret)))))))))
def F15 : AFn := ⟨2, 123, [.tmp 4], C15⟩
theorem ok15 : fnOk Try.prog Try.f15 F15 = true := by kernel_rfl
theorem at15 : Try.prog.funcs[15]? = some Try.f15 := by kernel_rfl
/-! seismonet/alert.Open -/
def R16_0 : ACode := .reg none [
    ⟨0, none, (some 2), .mov, [.c (.nils)], []⟩] [0] []
def R16_1 : ACode := .reg none [
    ⟨0, none, (some 3), .mov, [.t 0], []⟩,
    ⟨1, none, (some 4), (.call 27), [.t 3], []⟩,
    ⟨2, none, (some 5), (.call 34), [.t 4, .f 35], []⟩,
    ⟨3, none, (some 2), .mov, [.t 5], []⟩] [2] []
def C16 : ACode := (.seq R16_0 (.seq R16_1 (.seq (.frz 2) .ret)))
def F16 : AFn := ⟨1, 6, [.tmp 2], C16⟩
theorem ok16 : fnOk Try.prog Try.f16 F16 = true := by kernel_rfl
theorem at16 : Try.prog.funcs[16]? = some Try.f16 := by kernel_rfl
/-! seismonet/seismonetref36.Open -/
def R17_0 : ACode := .reg none [
    ⟨0, none, (some 2), .mov, [.c (.nils)], []⟩] [0] []
def R17_1 : ACode := .reg none [
    ⟨0, none, (some 3), .mov, [.c (.nils)], []⟩] [0, 3] []
def R17_2 : ACode := .reg none [
    ⟨0, none, (some 4), .mov, [.c (.int .i64 0)], []⟩] [0, 3, 4] []
def R17_3 : ACode := .reg none [
    ⟨0, none, (some 5), .mov, [.t 4], []⟩,
    ⟨1, none, (some 6), .mov, [.t 0], []⟩,
    ⟨2, none, (some 7), .len, [.t 6], []⟩,
    ⟨3, none, (some 8), (.bin .lt), [.t 5, .t 7], []⟩] [0, 3, 4, 8] []
def R17_5 : ACode := .reg none [
    ⟨0, none, (some 11), .mov, [.t 0], []⟩,
    ⟨1, none, (some 12), .mov, [.t 4], []⟩,
    ⟨2, none, (some 13), (.ix 38), [.t 11, .t 12], []⟩,
    ⟨3, none, (some 14), (.fld 1), [.t 13], []⟩,
    ⟨4, none, (some 15), (.ldh 1 false), [.t 14], []⟩,
    ⟨5, none, (some 16), .not, [.t 15], []⟩] [0, 3, 4, 16] []
def R17_6 : ACode := .reg none [
    ⟨0, none, (some 17), .mov, [.t 3], []⟩,
    ⟨1, none, (some 18), .mov, [.t 0], []⟩,
    ⟨2, none, (some 19), .mov, [.t 4], []⟩,
    ⟨3, none, (some 20), (.ix 38), [.t 18, .t 19], []⟩,
    ⟨4, none, (some 21), (.ldh 38 true), [.t 20], []⟩,
    ⟨5, none, (some 22), (.bslice 1 38 [.int .i64 0, .bool false, .str ⟨#[]⟩, .str ⟨#[]⟩, .str ⟨#[]⟩, .str ⟨#[]⟩, .int .i64 0, .int .i64 0, .int .i64 0, .int .i64 0, .int .i64 0, .int .i64 0, .str ⟨#[]⟩, .str ⟨#[]⟩, .str ⟨#[]⟩, .str ⟨#[]⟩, .int .i64 0, .int .i64 0, .int .i64 0, .int .i64 0, .int .i64 0, .nils, .int .i64 0, .int .i64 0, .int .i64 0, .int .i64 0, .int .i64 0, .int .i64 0, .int .i64 0, .int .i64 0, .int .i64 0, .int .i64 0, .int .i64 0, .int .i64 0, .int .i64 0, .int .i64 0, .int .i64 0, .int .i64 0] [0]), [.t 21], []⟩,
    ⟨6, none, (some 23), (.app 38 366503875925), [.t 17, .t 22], []⟩,
    ⟨7, none, (some 3), .mov, [.t 23], []⟩] [0, 3, 4] []
def R17_4 : ACode := .reg none [
    ⟨0, none, (some 9), .mov, [.t 4], []⟩,
    ⟨1, none, (some 10), (.bin .add), [.t 9, .c (.int .i64 1)], []⟩,
    ⟨2, none, (some 4), .mov, [.t 10], []⟩] [0, 3, 4] []
def R17_7 : ACode := .reg none [
    ⟨0, none, (some 24), .mov, [.t 3], []⟩,
    ⟨1, none, (some 2), .mov, [.t 24], []⟩] [2] []
def C17 : ACode := (.seq R17_0 (.seq R17_1 (.seq (.seq R17_2 (.block 0 (.loop (.seq (.seq R17_3 (.cond (.t 8) .skip (.exit 0))) (.seq (.block 1 (.seq R17_5 (.cond (.t 16) R17_6 .skip))) R17_4))))) (.seq R17_7 .ret))))
def F17 : AFn := ⟨1, 25, [.tmp 2], C17⟩
theorem ok17 : fnOk Try.prog Try.f17 F17 = true := by kernel_rfl
theorem at17 : Try.prog.funcs[17]? = some Try.f17 := by kernel_rfl
/-! seismonet/seismonetref36.SameEvent -/
def R18_0 : ACode := .reg none [
    ⟨0, none, (some 2), (.boxl 2), [.t 0], []⟩,
    ⟨1, none, (some 3), (.boxl 3), [.t 1], []⟩,
    ⟨2, none, (some 4), .mov, [.c (.bool false)], []⟩] [2, 3] [2, 3]
def R18_1 : ACode := .reg none [
    ⟨0, none, (some 5), (.fld 0), [.t 2], []⟩,
    ⟨1, none, (some 6), (.ld 9 true), [.t 5], []⟩,
    ⟨2, none, (some 7), (.fld 0), [.t 3], []⟩,
    ⟨3, none, (some 8), (.ld 9 true), [.t 7], []⟩,
    ⟨4, none, (some 9), (.eqs false [1, 1, 1, 1, 6, 6, 6, 6, 6]), [.t 6, .t 8], []⟩,
    ⟨5, none, (some 10), .mov, [.t 9], []⟩,
    ⟨6, (some (10, true)), (some 11), (.fld 9), [.t 2], []⟩,
    ⟨7, (some (10, true)), (some 12), (.ld 16 true), [.t 11], []⟩,
    ⟨8, (some (10, true)), (some 13), (.fld 9), [.t 3], []⟩,
    ⟨9, (some (10, true)), (some 14), (.ld 16 true), [.t 13], []⟩,
    ⟨10, (some (10, true)), (some 15), (.callp 36), [.t 12, .t 14], []⟩,
    ⟨11, none, (some 16), .pick, [.t 10, .t 15, .c (.bool false)], []⟩,
    ⟨12, none, (some 4), .mov, [.t 16], []⟩] [4] []
def C18 : ACode := (.seq R18_0 (.seq R18_1 .ret))
def F18 : AFn := ⟨2, 17, [.tmp 4], C18⟩
theorem ok18 : fnOk Try.prog Try.f18 F18 = true := by kernel_rfl
theorem at18 : Try.prog.funcs[18]? = some Try.f18 := by kernel_rfl
/-! (*seismonet/seismonetkeep.Src).Pick -/
def R19_0 : ACode := .reg none [
    ⟨0, none, (some 4), .mov, [.c (.int .i64 0)], []⟩] [0, 1] []
def R19_1 : ACode := .reg none [
    ⟨0, none, (some 5), .mov, [.t 1], []⟩,
    ⟨1, none, (some 6), .mov, [.t 0], []⟩,
    ⟨2, none, (some 7), .mov, [.t 1], []⟩,
    ⟨3, none, (some 8), .len, [.t 7], []⟩,
    ⟨4, none, (some 9), (.call 9), [.t 6, .t 8], []⟩,
    ⟨5, none, (some 10), (.ix 1), [.t 5, .t 9], []⟩,
    ⟨6, none, (some 11), (.ldh 1 false), [.t 10], []⟩,
    ⟨7, none, (some 4), .mov, [.t 11], []⟩] [4] []
def C19 : ACode := (.seq R19_0 (.seq R19_1 .ret))
def F19 : AFn := ⟨2, 12, [.tmp 4], C19⟩
theorem ok19 : fnOk Try.prog Try.f19 F19 = true := by kernel_rfl
theorem at19 : Try.prog.funcs[19]? = some Try.f19 := by kernel_rfl
/-! seismonet/seismonetref36.Step -/
def R20_0 : ACode := .reg none [
    ⟨0, none, (some 5), (.boxl 5), [.t 0], []⟩,
    ⟨1, none, (some 10), .mov, [.c (.nils)], []⟩,
    ⟨2, none, (some 11), .mov, [.c (.nils)], []⟩,
    ⟨3, none, (some 12), .mov, [.c (.int .i64 0)], []⟩] [1, 2, 3, 4, 5] [5]
def R20_1 : ACode := .reg none [
    ⟨0, none, (some 23), (.ld 3 true), [.t 5], []⟩,
    ⟨1, none, (some 24), .mov, [.t 1], []⟩,
    ⟨2, none, (some 25), .mov, [.t 2], []⟩,
    ⟨3, none, (some 26), .mov, [.t 3], []⟩,
    ⟨4, none, (some 27), .mov, [.t 4], []⟩,
    ⟨5, none, (some 28), (.call 37), [.t 23, .t 24, .t 25, .t 26, .t 27], []⟩,
    ⟨6, none, (some 13), .mov, [.t 28], []⟩] [1, 2, 3, 4, 5, 13] [5]
def R20_2 : ACode := .reg none [
    ⟨0, none, (some 29), .mov, [.t 13], []⟩,
    ⟨1, none, (some 30), (.bin .ne), [.t 29, .c (.int .i64 0)], []⟩] [1, 2, 3, 4, 5, 13, 30] [5]
def R20_3 : ACode := .reg none [
    ⟨0, none, (some 31), .mov, [.t 13], []⟩,
    ⟨1, none, (some 10), .mov, [.c (.nils)], []⟩,
    ⟨2, none, (some 11), .mov, [.c (.nils)], []⟩,
    ⟨3, none, (some 12), .mov, [.t 31], []⟩] [10, 11, 12] []
def R20_4 : ACode := .reg none [
    ⟨0, none, (some 32), .mov, [.t 1], []⟩,
    ⟨1, none, (some 33), .mov, [.t 3], []⟩,
    ⟨2, none, (some 34), (.callp 38), [.t 32, .t 33], []⟩,
    ⟨3, none, (some 14), .mov, [.t 34], []⟩] [1, 2, 3, 4, 5, 14] [5]
def R20_5 : ACode := .reg none [
    ⟨0, none, (some 15), .mov, [.c (.nils)], []⟩] [1, 2, 3, 4, 5, 14, 15] [5]
def R20_6 : ACode := .reg none [
    ⟨0, none, (some 16), .mov, [.c (.nils)], []⟩] [1, 2, 3, 4, 5, 14, 15, 16] [5]
def R20_7 : ACode := .reg none [
    ⟨0, none, (some 17), .mov, [.c (.int .i64 0)], []⟩] [1, 2, 3, 4, 5, 14, 15, 16, 17] [5]
def R20_8 : ACode := .reg none [
    ⟨0, none, (some 35), .mov, [.t 17], []⟩,
    ⟨1, none, (some 36), .mov, [.t 1], []⟩,
    ⟨2, none, (some 37), .len, [.t 36], []⟩,
    ⟨3, none, (some 38), (.bin .lt), [.t 35, .t 37], []⟩] [1, 2, 3, 4, 5, 14, 15, 16, 17, 38] [5]
def R20_10 : ACode := .reg none [
    ⟨0, none, (some 41), .mov, [.t 1], []⟩,
    ⟨1, none, (some 42), .mov, [.t 17], []⟩,
    ⟨2, none, (some 43), (.ix 38), [.t 41, .t 42], []⟩,
    ⟨3, none, (some 44), (.ldh 38 true), [.t 43], []⟩,
    ⟨4, none, (some 18), (.newl 18 [.int .i64 0, .bool false, .str ⟨#[]⟩, .str ⟨#[]⟩, .str ⟨#[]⟩, .str ⟨#[]⟩, .int .i64 0, .int .i64 0, .int .i64 0, .int .i64 0, .int .i64 0, .int .i64 0, .str ⟨#[]⟩, .str ⟨#[]⟩, .str ⟨#[]⟩, .str ⟨#[]⟩, .int .i64 0, .int .i64 0, .int .i64 0, .int .i64 0, .int .i64 0, .nils, .int .i64 0, .int .i64 0, .int .i64 0, .int .i64 0, .int .i64 0, .int .i64 0, .int .i64 0, .int .i64 0, .int .i64 0, .int .i64 0, .int .i64 0, .int .i64 0, .int .i64 0, .int .i64 0, .int .i64 0, .int .i64 0]), [], []⟩,
    ⟨5, none, none, (.st 38), [.t 18, .t 44], []⟩] [1, 2, 3, 4, 5, 14, 15, 16, 17, 18] [5, 18]
def R20_11 : ACode := .reg none [
    ⟨0, none, (some 19), .mov, [.c (.int .i64 0)], []⟩] [1, 2, 3, 4, 5, 14, 15, 16, 17, 18, 19] [5, 18]
def R20_12 : ACode := .reg none [
    ⟨0, none, (some 45), .mov, [.t 14], []⟩,
    ⟨1, none, (some 46), .mov, [.t 17], []⟩,
    ⟨2, none, (some 47), (.ix 1), [.t 45, .t 46], []⟩,
    ⟨3, none, (some 48), (.ldh 1 false), [.t 47], []⟩,
    ⟨4, none, (some 49), (.bin .ge), [.t 48, .c (.int .i64 0)], []⟩] [1, 2, 3, 4, 5, 14, 15, 16, 17, 18, 19, 49] [5, 18]
def R20_13 : ACode := .reg none [
    ⟨0, none, (some 50), .mov, [.t 3], []⟩,
    ⟨1, none, (some 51), .mov, [.t 14], []⟩,
    ⟨2, none, (some 52), .mov, [.t 17], []⟩,
    ⟨3, none, (some 53), (.ix 1), [.t 51, .t 52], []⟩,
    ⟨4, none, (some 54), (.ldh 1 false), [.t 53], []⟩,
    ⟨5, none, (some 55), (.ix 25), [.t 50, .t 54], []⟩,
    ⟨6, none, (some 56), (.fld 0), [.t 55], []⟩,
    ⟨7, none, (some 57), (.ldh 9 true), [.t 56], []⟩,
    ⟨8, none, (some 58), (.fld 2), [.t 18], []⟩,
    ⟨9, none, none, (.st 9), [.t 58, .t 57], []⟩] [1, 2, 3, 4, 5, 14, 15, 16, 17, 18, 19] [5, 18]
def R20_14 : ACode := .reg none [
    ⟨0, none, (some 59), .mov, [.t 14], []⟩,
    ⟨1, none, (some 60), .mov, [.t 17], []⟩,
    ⟨2, none, (some 61), (.ix 1), [.t 59, .t 60], []⟩,
    ⟨3, none, (some 62), (.ldh 1 false), [.t 61], []⟩,
    ⟨4, none, (some 20), .mov, [.t 62], []⟩] [1, 2, 3, 4, 5, 14, 15, 16, 17, 18, 19, 20] [5, 18]
def R20_15 : ACode := .reg none [
    ⟨0, none, (some 64), (.fld 1), [.t 18], []⟩,
    ⟨1, none, (some 65), (.ld 1 false), [.t 64], []⟩,
    ⟨2, none, (some 63), .mov, [.t 65], []⟩] [1, 2, 3, 4, 5, 14, 15, 16, 17, 18, 19, 20, 63] [5, 18]
def R20_16 : ACode := .reg (some [0, 1, 3, 7, 7, 7, 55, 119, 255, 511, 1023, 2047]) [
    ⟨0, none, (some 67), .mov, [.t 20], []⟩,
    ⟨1, none, (some 68), (.bin .lt), [.t 67, .c (.int .i64 0)], []⟩,
    ⟨2, none, (some 69), .mov, [.t 68], []⟩,
    ⟨3, (some (69, false)), (some 70), (.ld 3 true), [.t 5], []⟩,
    ⟨4, (some (69, false)), (some 71), .mov, [.t 3], []⟩,
    ⟨5, (some (69, false)), (some 72), .mov, [.t 20], []⟩,
    ⟨6, (some (69, false)), (some 73), (.ix 25), [.t 71, .t 72], []⟩,
    ⟨7, (some (69, false)), (some 74), (.ldh 25 true), [.t 73], []⟩,
    ⟨8, (some (69, false)), (some 75), (.callp 39), [.t 70, .t 74], []⟩,
    ⟨9, (some (69, false)), (some 76), (.bin .eq), [.t 75, .c (.int .i64 0)], []⟩,
    ⟨10, none, (some 77), .pick, [.t 69, .c (.bool true), .t 76], []⟩,
    ⟨11, none, (some 66), .mov, [.t 77], []⟩] [1, 2, 3, 4, 5, 14, 15, 16, 17, 18, 19, 20, 66] [5, 18]
def R20_17 : ACode := .reg none [
    ⟨0, none, (some 78), (.fld 1), [.t 18], []⟩,
    ⟨1, none, none, (.st 1), [.t 78, .c (.bool true)], []⟩,
    ⟨2, none, (some 19), .mov, [.c (.int .i64 3)], []⟩] [1, 2, 3, 4, 5, 14, 15, 16, 17, 18, 19] [5, 18]
def R20_18 : ACode := .reg (some [0, 0, 2, 0, 0, 24, 56, 127, 255, 511, 511, 1535, 4095, 511, 8703, 32767, 65535, 131071]) [
    ⟨0, none, (some 80), (.ld 3 true), [.t 5], []⟩,
    ⟨1, none, (some 81), (.fld 12), [.t 18], []⟩,
    ⟨2, none, (some 82), (.ld 25 true), [.t 81], []⟩,
    ⟨3, none, (some 83), .mov, [.t 3], []⟩,
    ⟨4, none, (some 84), .mov, [.t 20], []⟩,
    ⟨5, none, (some 85), (.ix 25), [.t 83, .t 84], []⟩,
    ⟨6, none, (some 86), (.ldh 25 true), [.t 85], []⟩,
    ⟨7, none, (some 87), (.callp 40), [.t 80, .t 82, .t 86], []⟩,
    ⟨8, none, (some 88), .mov, [.t 87], []⟩,
    ⟨9, (some (88, true)), (some 89), .mov, [.t 4], []⟩,
    ⟨10, (some (88, true)), (some 90), (.fld 37), [.t 18], []⟩,
    ⟨11, (some (88, true)), (some 91), (.ld 1 false), [.t 90], []⟩,
    ⟨12, (some (88, true)), (some 92), (.bin .sub), [.t 89, .t 91], []⟩,
    ⟨13, (some (88, true)), (some 93), (.fld 2), [.t 5], []⟩,
    ⟨14, (some (88, true)), (some 94), (.ld 1 false), [.t 93], []⟩,
    ⟨15, (some (88, true)), (some 95), (.bin .ge), [.t 92, .t 94], []⟩,
    ⟨16, none, (some 96), .pick, [.t 88, .t 95, .c (.bool false)], []⟩,
    ⟨17, none, (some 79), .mov, [.t 96], []⟩] [1, 2, 3, 4, 5, 14, 15, 16, 17, 18, 19, 20, 79] [5, 18]
def R20_19 : ACode := .reg (some [0, 0, 0, 6, 14, 31, 0, 0, 192, 448, 63, 1087, 4095, 8191, 16383]) [
    ⟨0, none, (some 97), (.ld 3 true), [.t 5], []⟩,
    ⟨1, none, (some 98), .mov, [.t 3], []⟩,
    ⟨2, none, (some 99), .mov, [.t 20], []⟩,
    ⟨3, none, (some 100), (.ix 25), [.t 98, .t 99], []⟩,
    ⟨4, none, (some 101), (.ldh 25 true), [.t 100], []⟩,
    ⟨6, none, (some 103), .mov, [.t 3], []⟩,
    ⟨7, none, (some 104), .mov, [.t 20], []⟩,
    ⟨8, none, (some 105), (.ix 25), [.t 103, .t 104], []⟩,
    ⟨9, none, (some 106), (.ldh 25 true), [.t 105], []⟩,
    ⟨5, none, (some 102), (.callp 39), [.t 97, .t 101], []⟩,
    ⟨10, none, (some 107), (.fld 11), [.t 18], []⟩,
    ⟨11, none, none, (.st 1), [.t 107, .t 102], [(.t 105, 25, true)]⟩,
    ⟨12, none, (some 108), (.fld 12), [.t 18], []⟩,
    ⟨13, none, none, (.st 25), [.t 108, .t 106], []⟩,
    ⟨14, none, (some 19), .mov, [.c (.int .i64 2)], []⟩] [1, 2, 3, 4, 5, 14, 15, 16, 17, 18, 19] [5, 18]
def R20_20 : ACode := .reg none [
    ⟨0, none, (some 109), .mov, [.t 19], []⟩,
    ⟨1, none, (some 110), (.bin .gt), [.t 109, .c (.int .i64 0)], []⟩] [1, 2, 3, 4, 5, 14, 15, 16, 17, 18, 19, 110] [5, 18]
def R20_21 : ACode := .reg none [
    ⟨0, none, (some 111), .mov, [.t 4], []⟩,
    ⟨1, none, (some 112), (.fld 37), [.t 18], []⟩,
    ⟨2, none, none, (.st 1), [.t 112, .t 111], []⟩] [1, 2, 3, 4, 5, 14, 15, 16, 17, 18, 19] [5, 18]
def R20_22 : ACode := .reg none [
    ⟨0, none, (some 113), .mov, [.t 16], []⟩,
    ⟨1, none, (some 114), .mov, [.t 2], []⟩,
    ⟨2, none, (some 115), .mov, [.t 16], []⟩,
    ⟨3, none, (some 116), .len, [.t 115], []⟩,
    ⟨4, none, (some 117), (.bin .add), [.t 114, .t 116], []⟩,
    ⟨5, none, (some 118), .mov, [.t 19], []⟩,
    ⟨6, none, (some 119), (.fld 0), [.t 18], []⟩,
    ⟨7, none, (some 120), (.ld 1 false), [.t 119], []⟩,
    ⟨8, none, (some 121), .mov, [.t 4], []⟩,
    ⟨9, none, (some 122), (.fld 11), [.t 18], []⟩,
    ⟨10, none, (some 123), (.ld 1 false), [.t 122], []⟩,
    ⟨11, none, (some 124), (.fld 12), [.t 18], []⟩,
    ⟨12, none, (some 125), (.ld 25 true), [.t 124], []⟩,
    ⟨13, none, (some 126), (.build [.int .i64 0, .int .i64 0, .int .i64 0, .int .i64 0, .int .i64 0, .str ⟨#[]⟩, .str ⟨#[]⟩, .str ⟨#[]⟩, .str ⟨#[]⟩, .int .i64 0, .int .i64 0, .int .i64 0, .int .i64 0, .int .i64 0, .nils, .int .i64 0, .int .i64 0, .int .i64 0, .int .i64 0, .int .i64 0, .int .i64 0, .int .i64 0, .int .i64 0, .int .i64 0, .int .i64 0, .int .i64 0, .int .i64 0, .int .i64 0, .int .i64 0, .int .i64 0] [(0, 1), (1, 1), (2, 1), (3, 1), (4, 1), (5, 25)]), [.t 117, .t 118, .t 120, .t 121, .t 123, .t 125], []⟩,
    ⟨14, none, (some 127), (.bslice 1 30 [.int .i64 0, .int .i64 0, .int .i64 0, .int .i64 0, .int .i64 0, .str ⟨#[]⟩, .str ⟨#[]⟩, .str ⟨#[]⟩, .str ⟨#[]⟩, .int .i64 0, .int .i64 0, .int .i64 0, .int .i64 0, .int .i64 0, .nils, .int .i64 0, .int .i64 0, .int .i64 0, .int .i64 0, .int .i64 0, .int .i64 0, .int .i64 0, .int .i64 0, .int .i64 0, .int .i64 0, .int .i64 0, .int .i64 0, .int .i64 0, .int .i64 0, .int .i64 0] [0]), [.t 126], []⟩,
    ⟨15, none, (some 128), (.app 30 488671834567), [.t 113, .t 127], []⟩,
    ⟨16, none, (some 16), .mov, [.t 128], []⟩] [1, 2, 3, 4, 5, 14, 15, 16, 17, 18] [5, 18]
def R20_23 : ACode := .reg none [
    ⟨0, none, (some 129), .mov, [.t 15], []⟩,
    ⟨1, none, (some 130), (.ld 38 true), [.t 18], []⟩,
    ⟨2, none, (some 131), (.bslice 1 38 [.int .i64 0, .bool false, .str ⟨#[]⟩, .str ⟨#[]⟩, .str ⟨#[]⟩, .str ⟨#[]⟩, .int .i64 0, .int .i64 0, .int .i64 0, .int .i64 0, .int .i64 0, .int .i64 0, .str ⟨#[]⟩, .str ⟨#[]⟩, .str ⟨#[]⟩, .str ⟨#[]⟩, .int .i64 0, .int .i64 0, .int .i64 0, .int .i64 0, .int .i64 0, .nils, .int .i64 0, .int .i64 0, .int .i64 0, .int .i64 0, .int .i64 0, .int .i64 0, .int .i64 0, .int .i64 0, .int .i64 0, .int .i64 0, .int .i64 0, .int .i64 0, .int .i64 0, .int .i64 0, .int .i64 0, .int .i64 0] [0]), [.t 130], []⟩,
    ⟨3, none, (some 132), (.app 38 366503875925), [.t 129, .t 131], []⟩,
    ⟨4, none, (some 15), .mov, [.t 132], []⟩] [1, 2, 3, 4, 5, 14, 15, 16, 17] [5]
def R20_9 : ACode := .reg none [
    ⟨0, none, (some 39), .mov, [.t 17], []⟩,
    ⟨1, none, (some 40), (.bin .add), [.t 39, .c (.int .i64 1)], []⟩,
    ⟨2, none, (some 17), .mov, [.t 40], []⟩] [1, 2, 3, 4, 5, 14, 15, 16, 17] [5]
def R20_24 : ACode := .reg none [
    ⟨0, none, (some 21), .mov, [.c (.int .i64 0)], []⟩] [2, 3, 4, 5, 14, 15, 16, 21] [5]
def R20_25 : ACode := .reg none [
    ⟨0, none, (some 133), .mov, [.t 21], []⟩,
    ⟨1, none, (some 134), .mov, [.t 3], []⟩,
    ⟨2, none, (some 135), .len, [.t 134], []⟩,
    ⟨3, none, (some 136), (.bin .lt), [.t 133, .t 135], []⟩] [2, 3, 4, 5, 14, 15, 16, 21, 136] [5]
def R20_27 : ACode := .reg (some [0, 0, 3, 7, 15, 15, 15, 111, 239, 15, 1023, 2047, 4095]) [
    ⟨0, none, (some 139), .mov, [.t 14], []⟩,
    ⟨1, none, (some 140), .mov, [.t 21], []⟩,
    ⟨2, none, (some 141), (.callp 41), [.t 139, .t 140], []⟩,
    ⟨3, none, (some 142), .mov, [.t 141], []⟩,
    ⟨4, (some (142, false)), (some 143), (.ld 3 true), [.t 5], []⟩,
    ⟨5, (some (142, false)), (some 144), .mov, [.t 3], []⟩,
    ⟨6, (some (142, false)), (some 145), .mov, [.t 21], []⟩,
    ⟨7, (some (142, false)), (some 146), (.ix 25), [.t 144, .t 145], []⟩,
    ⟨8, (some (142, false)), (some 147), (.ldh 25 true), [.t 146], []⟩,
    ⟨9, (some (142, false)), (some 148), .mov, [.t 4], []⟩,
    ⟨10, (some (142, false)), (some 149), (.callp 42), [.t 143, .t 147, .t 148], []⟩,
    ⟨11, (some (142, false)), (some 150), .not, [.t 149], []⟩,
    ⟨12, none, (some 151), .pick, [.t 142, .c (.bool true), .t 150], []⟩] [2, 3, 4, 5, 14, 15, 16, 21, 151] [5]
def R20_28 : ACode := .reg (some [0, 0, 2, 7, 0, 0, 48, 112, 240, 0, 0, 0, 3072, 7168, 15872, 0, 0, 98304, 229376, 0, 1048575, 0, 4194303]) [
    ⟨0, none, (some 152), .mov, [.t 2], []⟩,
    ⟨1, none, (some 153), .mov, [.t 16], []⟩,
    ⟨2, none, (some 154), .len, [.t 153], []⟩,
    ⟨3, none, (some 155), (.bin .add), [.t 152, .t 154], []⟩,
    ⟨4, none, (some 156), .mov, [.t 3], []⟩,
    ⟨5, none, (some 157), .mov, [.t 21], []⟩,
    ⟨6, none, (some 158), (.ix 25), [.t 156, .t 157], []⟩,
    ⟨7, none, (some 159), (.fld 0), [.t 158], []⟩,
    ⟨8, none, (some 160), (.ldh 9 true), [.t 159], []⟩,
    ⟨9, none, (some 161), (.ld 3 true), [.t 5], []⟩,
    ⟨10, none, (some 162), .mov, [.t 3], []⟩,
    ⟨11, none, (some 163), .mov, [.t 21], []⟩,
    ⟨12, none, (some 164), (.ix 25), [.t 162, .t 163], []⟩,
    ⟨13, none, (some 165), (.ldh 25 true), [.t 164], []⟩,
    ⟨15, none, (some 167), .mov, [.t 3], []⟩,
    ⟨16, none, (some 168), .mov, [.t 21], []⟩,
    ⟨17, none, (some 169), (.ix 25), [.t 167, .t 168], []⟩,
    ⟨18, none, (some 170), (.ldh 25 true), [.t 169], []⟩,
    ⟨19, none, (some 171), .mov, [.t 4], []⟩,
    ⟨21, none, (some 22), (.newl 22 [.int .i64 0, .bool false, .str ⟨#[]⟩, .str ⟨#[]⟩, .str ⟨#[]⟩, .str ⟨#[]⟩, .int .i64 0, .int .i64 0, .int .i64 0, .int .i64 0, .int .i64 0, .int .i64 0, .str ⟨#[]⟩, .str ⟨#[]⟩, .str ⟨#[]⟩, .str ⟨#[]⟩, .int .i64 0, .int .i64 0, .int .i64 0, .int .i64 0, .int .i64 0, .nils, .int .i64 0, .int .i64 0, .int .i64 0, .int .i64 0, .int .i64 0, .int .i64 0, .int .i64 0, .int .i64 0, .int .i64 0, .int .i64 0, .int .i64 0, .int .i64 0, .int .i64 0, .int .i64 0, .int .i64 0, .int .i64 0]), [], []⟩,
    ⟨14, none, (some 166), (.callp 39), [.t 161, .t 165], []⟩,
    ⟨20, none, (some 172), (.build [.int .i64 0, .bool false, .str ⟨#[]⟩, .str ⟨#[]⟩, .str ⟨#[]⟩, .str ⟨#[]⟩, .int .i64 0, .int .i64 0, .int .i64 0, .int .i64 0, .int .i64 0, .int .i64 0, .str ⟨#[]⟩, .str ⟨#[]⟩, .str ⟨#[]⟩, .str ⟨#[]⟩, .int .i64 0, .int .i64 0, .int .i64 0, .int .i64 0, .int .i64 0, .nils, .int .i64 0, .int .i64 0, .int .i64 0, .int .i64 0, .int .i64 0, .int .i64 0, .int .i64 0, .int .i64 0, .int .i64 0, .int .i64 0, .int .i64 0, .int .i64 0, .int .i64 0, .int .i64 0, .int .i64 0, .int .i64 0] [(0, 1), (2, 9), (11, 1), (12, 25), (37, 1)]), [.t 155, .t 160, .t 166, .t 170, .t 171], []⟩,
    ⟨22, none, none, (.st 38), [.t 22, .t 172], []⟩] [2, 3, 4, 5, 14, 15, 16, 21, 22] [5, 22]
def R20_29 : ACode := .reg none [
    ⟨0, none, (some 173), .mov, [.t 16], []⟩,
    ⟨1, none, (some 174), (.fld 0), [.t 22], []⟩,
    ⟨2, none, (some 175), (.ld 1 false), [.t 174], []⟩,
    ⟨3, none, (some 176), (.fld 0), [.t 22], []⟩,
    ⟨4, none, (some 177), (.ld 1 false), [.t 176], []⟩,
    ⟨5, none, (some 178), .mov, [.t 4], []⟩,
    ⟨6, none, (some 179), (.fld 11), [.t 22], []⟩,
    ⟨7, none, (some 180), (.ld 1 false), [.t 179], []⟩,
    ⟨8, none, (some 181), (.fld 12), [.t 22], []⟩,
    ⟨9, none, (some 182), (.ld 25 true), [.t 181], []⟩,
    ⟨10, none, (some 183), (.build [.int .i64 0, .int .i64 0, .int .i64 0, .int .i64 0, .int .i64 0, .str ⟨#[]⟩, .str ⟨#[]⟩, .str ⟨#[]⟩, .str ⟨#[]⟩, .int .i64 0, .int .i64 0, .int .i64 0, .int .i64 0, .int .i64 0, .nils, .int .i64 0, .int .i64 0, .int .i64 0, .int .i64 0, .int .i64 0, .int .i64 0, .int .i64 0, .int .i64 0, .int .i64 0, .int .i64 0, .int .i64 0, .int .i64 0, .int .i64 0, .int .i64 0, .int .i64 0] [(0, 1), (1, 1), (2, 1), (3, 1), (4, 1), (5, 25)]), [.t 175, .c (.int .i64 1), .t 177, .t 178, .t 180, .t 182], []⟩,
    ⟨11, none, (some 184), (.bslice 1 30 [.int .i64 0, .int .i64 0, .int .i64 0, .int .i64 0, .int .i64 0, .str ⟨#[]⟩, .str ⟨#[]⟩, .str ⟨#[]⟩, .str ⟨#[]⟩, .int .i64 0, .int .i64 0, .int .i64 0, .int .i64 0, .int .i64 0, .nils, .int .i64 0, .int .i64 0, .int .i64 0, .int .i64 0, .int .i64 0, .int .i64 0, .int .i64 0, .int .i64 0, .int .i64 0, .int .i64 0, .int .i64 0, .int .i64 0, .int .i64 0, .int .i64 0, .int .i64 0] [0]), [.t 183], []⟩,
    ⟨12, none, (some 185), (.app 30 488671834567), [.t 173, .t 184], []⟩,
    ⟨13, none, (some 16), .mov, [.t 185], []⟩] [2, 3, 4, 5, 14, 15, 16, 21, 22] [5, 22]
def R20_30 : ACode := .reg none [
    ⟨0, none, (some 186), .mov, [.t 15], []⟩,
    ⟨1, none, (some 187), (.ld 38 true), [.t 22], []⟩,
    ⟨2, none, (some 188), (.bslice 1 38 [.int .i64 0, .bool false, .str ⟨#[]⟩, .str ⟨#[]⟩, .str ⟨#[]⟩, .str ⟨#[]⟩, .int .i64 0, .int .i64 0, .int .i64 0, .int .i64 0, .int .i64 0, .int .i64 0, .str ⟨#[]⟩, .str ⟨#[]⟩, .str ⟨#[]⟩, .str ⟨#[]⟩, .int .i64 0, .int .i64 0, .int .i64 0, .int .i64 0, .int .i64 0, .nils, .int .i64 0, .int .i64 0, .int .i64 0, .int .i64 0, .int .i64 0, .int .i64 0, .int .i64 0, .int .i64 0, .int .i64 0, .int .i64 0, .int .i64 0, .int .i64 0, .int .i64 0, .int .i64 0, .int .i64 0, .int .i64 0] [0]), [.t 187], []⟩,
    ⟨3, none, (some 189), (.app 38 366503875925), [.t 186, .t 188], []⟩,
    ⟨4, none, (some 15), .mov, [.t 189], []⟩] [2, 3, 4, 5, 14, 15, 16, 21] [5]
def R20_26 : ACode := .reg none [
    ⟨0, none, (some 137), .mov, [.t 21], []⟩,
    ⟨1, none, (some 138), (.bin .add), [.t 137, .c (.int .i64 1)], []⟩,
    ⟨2, none, (some 21), .mov, [.t 138], []⟩] [2, 3, 4, 5, 14, 15, 16, 21] [5]
def R20_31 : ACode := .reg none [
    ⟨0, none, (some 190), .mov, [.t 15], []⟩,
    ⟨1, none, (some 191), .len, [.t 190], []⟩,
    ⟨2, none, (some 192), (.bin .gt), [.t 191, .c (.int .i64 200)], []⟩,
    ⟨3, none, (some 193), .mov, [.t 192], []⟩,
    ⟨4, (some (193, false)), (some 194), .mov, [.t 16], []⟩,
    ⟨5, (some (193, false)), (some 195), .len, [.t 194], []⟩,
    ⟨6, (some (193, false)), (some 196), (.bin .gt), [.t 195, .c (.int .i64 0)], []⟩,
    ⟨7, (some (193, false)), (some 197), .mov, [.t 196], []⟩,
    ⟨8, (some (197, true)), (some 198), .mov, [.t 2], []⟩,
    ⟨9, (some (197, true)), (some 199), (.bin .ge), [.t 198, .c (.int .i64 1000)], []⟩,
    ⟨10, (some (197, true)), (some 200), .mov, [.t 199], []⟩,
    ⟨11, (some (200, false)), (some 201), .mov, [.t 2], []⟩,
    ⟨12, (some (200, false)), (some 202), .mov, [.t 16], []⟩,
    ⟨13, (some (200, false)), (some 203), .len, [.t 202], []⟩,
    ⟨14, (some (200, false)), (some 204), (.bin .add), [.t 201, .t 203], []⟩,
    ⟨15, (some (200, false)), (some 205), (.bin .gt), [.t 204, .c (.int .i64 1000)], []⟩,
    ⟨16, (some (197, true)), (some 206), .pick, [.t 200, .c (.bool true), .t 205], []⟩,
    ⟨17, (some (193, false)), (some 207), .pick, [.t 197, .t 206, .c (.bool false)], []⟩,
    ⟨18, none, (some 208), .pick, [.t 193, .c (.bool true), .t 207], []⟩] [15, 16, 208] []
def R20_32 : ACode := .reg none [
    ⟨0, none, (some 10), .mov, [.c (.nils)], []⟩,
    ⟨1, none, (some 11), .mov, [.c (.nils)], []⟩,
    ⟨2, none, (some 12), .mov, [.c (.int .i64 8)], []⟩] [10, 11, 12] []
def R20_33 : ACode := .reg none [
    ⟨0, none, (some 209), .mov, [.t 15], []⟩,
    ⟨1, none, (some 210), .mov, [.t 16], []⟩,
    ⟨2, none, (some 10), .mov, [.t 209], []⟩,
    ⟨3, none, (some 11), .mov, [.t 210], []⟩,
    ⟨4, none, (some 12), .mov, [.c (.int .i64 0)], []⟩] [10, 11, 12] []
def C20 : ACode := (.seq R20_0 (.seq (.seq R20_1 (.seq R20_2 (.cond (.t 30) (.seq R20_3 .ret) .skip))) (.seq R20_4 (.seq R20_5 (.seq R20_6 (.seq (.seq R20_7 (.block 0 (.loop (.seq (.seq R20_8 (.cond (.t 38) .skip (.exit 0))) (.seq (.block 1 (.seq R20_10 (.seq R20_11 (.seq (.seq R20_12 (.cond (.t 49) R20_13 .skip)) (.seq (.seq R20_14 (.block 2 (.seq R20_15 (.cond (.t 63) .skip (.seq R20_16 (.cond (.t 66) R20_17 (.seq R20_18 (.cond (.t 79) R20_19 .skip)))))))) (.seq (.seq R20_20 (.cond (.t 110) (.seq R20_21 R20_22) .skip)) R20_23)))))) R20_9))))) (.seq (.seq R20_24 (.block 3 (.loop (.seq (.seq R20_25 (.cond (.t 136) .skip (.exit 3))) (.seq (.block 4 (.seq (.seq R20_27 (.cond (.t 151) (.exit 4) .skip)) (.seq R20_28 (.seq R20_29 R20_30)))) R20_26))))) (.seq (.seq R20_31 (.cond (.t 208) (.seq R20_32 .ret) .skip)) (.seq R20_33 .ret)))))))))
def F20 : AFn := ⟨5, 211, [.tmp 10, .tmp 11, .tmp 12], C20⟩
theorem ok20 : fnOk Try.prog Try.f20 F20 = true := by kernel_rfl
theorem at20 : Try.prog.funcs[20]? = some Try.f20 := by kernel_rfl
/-! seismonet/seismonetkeep.Mod -/
def R21_0 : ACode := .reg none [
    ⟨0, none, (some 4), .mov, [.c (.int .i64 0)], []⟩] [0, 1] []
def R21_1 : ACode := .reg none [
    ⟨0, none, (some 5), .mov, [.t 1], []⟩,
    ⟨1, none, (some 6), (.bin .lt), [.t 5, .c (.int .i64 1)], []⟩] [0, 1, 6] []
def R21_2 : ACode := .reg none [
    ⟨0, none, (some 4), .mov, [.c (.int .i64 0)], []⟩] [4] []
def R21_3 : ACode := .reg none [
    ⟨0, none, (some 7), .mov, [.t 0], []⟩,
    ⟨1, none, (some 8), .mov, [.t 1], []⟩,
    ⟨2, none, (some 9), (.bin .rem), [.t 7, .t 8], []⟩,
    ⟨3, none, (some 0), .mov, [.t 9], []⟩] [0, 1] []
def R21_4 : ACode := .reg none [
    ⟨0, none, (some 10), .mov, [.t 0], []⟩,
    ⟨1, none, (some 11), (.bin .lt), [.t 10, .c (.int .i64 0)], []⟩] [0, 1, 11] []
def R21_5 : ACode := .reg none [
    ⟨0, none, (some 12), .mov, [.t 0], []⟩,
    ⟨1, none, (some 13), .mov, [.t 1], []⟩,
    ⟨2, none, (some 14), (.bin .add), [.t 12, .t 13], []⟩,
    ⟨3, none, (some 0), .mov, [.t 14], []⟩] [0] []
def R21_6 : ACode := .reg none [
    ⟨0, none, (some 15), .mov, [.t 0], []⟩,
    ⟨1, none, (some 4), .mov, [.t 15], []⟩] [4] []
def C21 : ACode := (.seq R21_0 (.seq (.seq R21_1 (.cond (.t 6) (.seq R21_2 .ret) .skip)) (.seq R21_3 (.seq (.seq R21_4 (.cond (.t 11) R21_5 .skip)) (.seq R21_6 .ret)))))
def F21 : AFn := ⟨2, 16, [.tmp 4], C21⟩
theorem ok21 : fnOk Try.prog Try.f21 F21 = true := by kernel_rfl
theorem at21 : Try.prog.funcs[21]? = some Try.f21 := by kernel_rfl
/-! (*seismonet/seismonetkeep.Src).Raw -/
def R22_0 : ACode := .reg none [
    ⟨0, none, (some 2), .mov, [.c (.int .i64 0)], []⟩] [0] []
def R22_1 : ACode := .reg (some [0, 1, 3, 7, 0, 16, 48, 112, 240, 511]) [
    ⟨0, none, (some 3), .mov, [.t 0], []⟩,
    ⟨1, none, (some 4), .nilc, [.t 3], []⟩,
    ⟨2, none, (some 5), (.fld 1), [.t 4], []⟩,
    ⟨3, none, (some 6), (.ldh 1 false), [.t 5], []⟩,
    ⟨4, none, (some 7), .mov, [.t 0], []⟩,
    ⟨5, none, (some 8), .nilc, [.t 7], []⟩,
    ⟨6, none, (some 9), (.fld 0), [.t 8], []⟩,
    ⟨7, none, (some 10), (.ldh 1 false), [.t 9], []⟩,
    ⟨8, none, (some 11), .len, [.t 10], []⟩,
    ⟨9, none, (some 12), (.bin .ge), [.t 6, .t 11], []⟩] [0, 12] []
def R22_2 : ACode := .reg none [
    ⟨0, none, (some 2), .mov, [.c (.int .i64 0)], []⟩] [2] []
def R22_3 : ACode := .reg none [
    ⟨0, none, (some 13), .mov, [.t 0], []⟩,
    ⟨1, none, (some 14), .nilc, [.t 13], []⟩,
    ⟨2, none, (some 15), (.fld 1), [.t 14], []⟩,
    ⟨3, none, (some 16), (.ldh 1 false), [.t 15], []⟩,
    ⟨4, none, (some 17), (.bin .add), [.t 16, .c (.int .i64 1)], []⟩,
    ⟨5, none, (some 18), .nilc, [.t 13], []⟩,
    ⟨6, none, (some 19), (.fld 1), [.t 18], []⟩,
    ⟨7, none, none, (.sth 1), [.t 19, .t 17], []⟩] [0] []
def R22_4 : ACode := .reg (some [0, 1, 3, 7, 0, 16, 48, 112, 240, 511, 1023, 2047]) [
    ⟨0, none, (some 20), .mov, [.t 0], []⟩,
    ⟨1, none, (some 21), .nilc, [.t 20], []⟩,
    ⟨2, none, (some 22), (.fld 0), [.t 21], []⟩,
    ⟨3, none, (some 23), (.ldh 1 false), [.t 22], []⟩,
    ⟨4, none, (some 24), .mov, [.t 0], []⟩,
    ⟨5, none, (some 25), .nilc, [.t 24], []⟩,
    ⟨6, none, (some 26), (.fld 1), [.t 25], []⟩,
    ⟨7, none, (some 27), (.ldh 1 false), [.t 26], []⟩,
    ⟨8, none, (some 28), (.bin .sub), [.t 27, .c (.int .i64 1)], []⟩,
    ⟨9, none, (some 29), (.ix 1), [.t 23, .t 28], []⟩,
    ⟨10, none, (some 30), (.ldh 1 false), [.t 29], []⟩,
    ⟨11, none, (some 2), .mov, [.t 30], []⟩] [2] []
def C22 : ACode := (.seq R22_0 (.seq (.seq R22_1 (.cond (.t 12) (.seq R22_2 .ret) .skip)) (.seq R22_3 (.seq R22_4 .ret))))
def F22 : AFn := ⟨1, 31, [.tmp 2], C22⟩
theorem ok22 : fnOk Try.prog Try.f22 F22 = true := by kernel_rfl
theorem at22 : Try.prog.funcs[22]? = some Try.f22 := by kernel_rfl
/-! (*seismonet/seismonetkeep.Src).Event -/
def R23_0 : ACode := .reg none [
    ⟨0, none, (some 4), (.newl 4 [.str ⟨#[]⟩, .str ⟨#[]⟩, .str ⟨#[]⟩, .str ⟨#[]⟩, .int .i64 0, .int .i64 0, .int .i64 0, .int .i64 0, .int .i64 0, .nils, .int .i64 0, .int .i64 0, .int .i64 0, .int .i64 0, .int .i64 0, .int .i64 0, .int .i64 0, .int .i64 0, .int .i64 0, .int .i64 0, .int .i64 0, .int .i64 0, .int .i64 0, .int .i64 0, .int .i64 0]), [], []⟩] [0, 1, 4] [4]
def R23_1 : ACode := .reg none [
    ⟨0, none, (some 5), (.newl 5 [.str ⟨#[]⟩, .str ⟨#[]⟩, .str ⟨#[]⟩, .str ⟨#[]⟩, .int .i64 0, .int .i64 0, .int .i64 0, .int .i64 0, .int .i64 0, .nils, .int .i64 0, .int .i64 0, .int .i64 0, .int .i64 0, .int .i64 0, .int .i64 0, .int .i64 0, .int .i64 0, .int .i64 0, .int .i64 0, .int .i64 0, .int .i64 0, .int .i64 0, .int .i64 0, .int .i64 0]), [], []⟩] [0, 1, 4, 5] [4, 5]
def R23_2 : ACode := .reg none [
    ⟨0, none, (some 8), .mov, [.t 0], []⟩,
    ⟨1, none, (some 9), (.call 9), [.t 8, .c (.int .i64 300)], []⟩,
    ⟨2, none, (some 10), (.bin .add), [.c (.int .i64 1000), .t 9], []⟩,
    ⟨3, none, (some 6), .mov, [.t 10], []⟩] [0, 1, 4, 5, 6] [4, 5]
def R23_3 : ACode := .reg none [
    ⟨0, none, (some 7), .mov, [.c (.int .i64 0)], []⟩] [0, 1, 4, 5, 6, 7] [4, 5]
def R23_4 : ACode := .reg none [
    ⟨0, none, (some 11), .mov, [.t 7], []⟩,
    ⟨1, none, (some 12), .mov, [.t 0], []⟩,
    ⟨2, none, (some 13), (.call 9), [.t 12, .c (.int .i64 4)], []⟩,
    ⟨3, none, (some 14), (.bin .add), [.c (.int .i64 1), .t 13], []⟩,
    ⟨4, none, (some 15), (.bin .lt), [.t 11, .t 14], []⟩] [0, 1, 4, 5, 6, 7, 15] [4, 5]
def R23_6 : ACode := .reg (some [0, 1, 3, 0, 8, 0, 0, 64, 224, 0, 0, 1024, 3584, 0, 0, 16384, 57344, 0, 131096, 516120, 0, 2097144, 4194296, 8388607, 16777215, 33554431, 67108863]) [
    ⟨0, none, (some 18), (.fld 9), [.t 5], []⟩,
    ⟨1, none, (some 19), (.fld 0), [.t 18], []⟩,
    ⟨2, none, (some 20), (.ld 1 false), [.t 19], []⟩,
    ⟨3, none, (some 21), .mov, [.t 7], []⟩,
    ⟨5, none, (some 23), .mov, [.t 6], []⟩,
    ⟨6, none, (some 24), .mov, [.t 1], []⟩,
    ⟨7, none, (some 25), (.bin .mul), [.c (.int .i64 10), .t 24], []⟩,
    ⟨8, none, (some 26), (.bin .add), [.t 23, .t 25], []⟩,
    ⟨9, none, (some 27), .mov, [.t 6], []⟩,
    ⟨10, none, (some 28), .mov, [.t 1], []⟩,
    ⟨11, none, (some 29), (.bin .mul), [.c (.int .i64 10), .t 28], []⟩,
    ⟨12, none, (some 30), (.bin .add), [.t 27, .t 29], []⟩,
    ⟨13, none, (some 31), .mov, [.t 6], []⟩,
    ⟨14, none, (some 32), .mov, [.t 1], []⟩,
    ⟨15, none, (some 33), (.bin .mul), [.c (.int .i64 10), .t 32], []⟩,
    ⟨16, none, (some 34), (.bin .add), [.t 31, .t 33], []⟩,
    ⟨17, none, (some 35), .mov, [.t 0], []⟩,
    ⟨20, none, (some 38), .mov, [.t 1], []⟩,
    ⟨4, none, (some 22), (.callp 31), [.t 21], []⟩,
    ⟨18, none, (some 36), (.call 9), [.t 35, .c (.int .i64 3)], []⟩,
    ⟨19, none, (some 37), (.bin .add), [.t 34, .t 36], []⟩,
    ⟨21, none, (some 39), (.build [.str ⟨#[]⟩, .str ⟨#[]⟩, .str ⟨#[]⟩, .str ⟨#[]⟩, .int .i64 0, .int .i64 0, .int .i64 0, .int .i64 0, .int .i64 0] [(0, 4), (4, 1), (5, 1), (6, 1), (7, 1)]), [.t 22, .t 26, .t 30, .t 37, .t 38], []⟩,
    ⟨22, none, (some 40), (.bslice 1 9 [.str ⟨#[]⟩, .str ⟨#[]⟩, .str ⟨#[]⟩, .str ⟨#[]⟩, .int .i64 0, .int .i64 0, .int .i64 0, .int .i64 0, .int .i64 0] [0]), [.t 39], []⟩,
    ⟨23, none, (some 41), (.appm [.str ⟨#[]⟩, .str ⟨#[]⟩, .str ⟨#[]⟩, .str ⟨#[]⟩, .int .i64 0, .int .i64 0, .int .i64 0, .int .i64 0, .int .i64 0] 1353245080339), [.t 20, .t 40], []⟩,
    ⟨24, none, (some 42), (.fld 9), [.t 5], []⟩,
    ⟨25, none, (some 43), (.fld 0), [.t 42], []⟩,
    ⟨26, none, none, (.st 1), [.t 43, .t 41], []⟩] [0, 1, 4, 5, 6, 7] [4, 5]
def R23_5 : ACode := .reg none [
    ⟨0, none, (some 16), .mov, [.t 7], []⟩,
    ⟨1, none, (some 17), (.bin .add), [.t 16, .c (.int .i64 1)], []⟩,
    ⟨2, none, (some 7), .mov, [.t 17], []⟩] [0, 1, 4, 5, 6, 7] [4, 5]
def R23_7 : ACode := .reg none [
    ⟨0, none, (some 44), (.fld 9), [.t 5], []⟩,
    ⟨1, none, (some 45), (.fld 0), [.t 44], []⟩,
    ⟨2, none, (some 46), (.ld 1 false), [.t 45], []⟩,
    ⟨3, none, (some 47), (.ix 9), [.t 46, .c (.int .i64 0)], []⟩,
    ⟨4, none, (some 48), (.ldh 9 true), [.t 47], []⟩,
    ⟨5, none, (some 49), (.fld 0), [.t 5], []⟩,
    ⟨6, none, none, (.st 9), [.t 49, .t 48], []⟩] [0, 4, 5, 6] [4, 5]
def R23_8 : ACode := .reg none [
    ⟨0, none, (some 50), .mov, [.t 0], []⟩,
    ⟨1, none, (some 51), (.call 43), [.t 50, .c (.int .i64 20)], []⟩,
    ⟨2, none, (some 52), .mov, [.t 6], []⟩,
    ⟨3, none, (some 53), .mov, [.t 0], []⟩,
    ⟨4, none, (some 54), (.call 9), [.t 53, .c (.int .i64 40)], []⟩,
    ⟨5, none, (some 55), (.bin .sub), [.t 52, .t 54], []⟩,
    ⟨6, none, (some 56), .mov, [.t 0], []⟩,
    ⟨7, none, (some 57), (.bslice 4 1 [.int .i64 0] [0, 1, 2, 3]), [.c (.int .i64 0), .c (.int .i64 0), .c (.int .i64 5), .c (.int .i64 500)], []⟩,
    ⟨8, none, (some 58), (.call 19), [.t 56, .t 57], []⟩,
    ⟨9, none, (some 59), (.build [.int .i64 0, .int .i64 0, .int .i64 0, .int .i64 0, .int .i64 0, .int .i64 0, .int .i64 0, .int .i64 0, .int .i64 0, .int .i64 0, .int .i64 0, .int .i64 0] [(0, 3), (3, 1), (4, 1)]), [.t 51, .t 55, .t 58], []⟩,
    ⟨10, none, (some 60), (.fld 9), [.t 5], []⟩,
    ⟨11, none, (some 61), (.fld 1), [.t 60], []⟩,
    ⟨12, none, none, (.st 12), [.t 61, .t 59], []⟩] [0, 4, 5] [4, 5]
def R23_9 : ACode := .reg none [
    ⟨0, none, (some 62), (.fld 9), [.t 5], []⟩,
    ⟨1, none, (some 63), (.fld 1), [.t 62], []⟩,
    ⟨2, none, (some 64), (.fld 0), [.t 63], []⟩,
    ⟨3, none, (some 65), (.ld 3 true), [.t 64], []⟩,
    ⟨4, none, (some 66), (.fld 9), [.t 5], []⟩,
    ⟨5, none, (some 67), (.fld 1), [.t 66], []⟩,
    ⟨6, none, (some 68), (.fld 0), [.t 67], []⟩,
    ⟨7, none, (some 69), (.ld 3 true), [.t 68], []⟩,
    ⟨8, none, (some 70), (.build [.int .i64 0, .int .i64 0, .int .i64 0, .int .i64 0, .int .i64 0, .int .i64 0] [(0, 3), (3, 3)]), [.t 65, .t 69], []⟩,
    ⟨9, none, (some 71), (.fld 9), [.t 5], []⟩,
    ⟨10, none, (some 72), (.fld 1), [.t 71], []⟩,
    ⟨11, none, (some 73), (.fld 6), [.t 72], []⟩,
    ⟨12, none, none, (.st 6), [.t 73, .t 70], []⟩] [0, 4, 5] [4, 5]
def R23_10 : ACode := .reg none [
    ⟨0, none, (some 74), .mov, [.t 0], []⟩,
    ⟨1, none, (some 75), (.call 9), [.t 74, .c (.int .i64 3)], []⟩,
    ⟨2, none, (some 76), (.fld 9), [.t 5], []⟩,
    ⟨3, none, (some 77), (.fld 15), [.t 76], []⟩,
    ⟨4, none, none, (.st 1), [.t 77, .t 75], []⟩] [0, 4, 5] [4, 5]
def R23_11 : ACode := .reg none [
    ⟨0, none, (some 78), (.fld 9), [.t 5], []⟩,
    ⟨1, none, (some 79), (.fld 15), [.t 78], []⟩,
    ⟨2, none, (some 80), (.ld 1 false), [.t 79], []⟩,
    ⟨3, none, (some 81), (.bin .gt), [.t 80, .c (.int .i64 0)], []⟩] [0, 4, 5, 81] [4, 5]
def R23_12 : ACode := .reg none [
    ⟨0, none, (some 82), .mov, [.t 0], []⟩,
    ⟨1, none, (some 83), (.call 9), [.t 82, .c (.int .i64 400)], []⟩,
    ⟨2, none, (some 84), (.fld 9), [.t 5], []⟩,
    ⟨3, none, (some 85), (.fld 13), [.t 84], []⟩,
    ⟨4, none, (some 86), (.fld 0), [.t 85], []⟩,
    ⟨5, none, none, (.st 1), [.t 86, .t 83], []⟩] [0, 4, 5] [4, 5]
def R23_13 : ACode := .reg (some [0, 1, 3, 7, 0, 16, 63, 127, 255, 511, 1023]) [
    ⟨0, none, (some 87), (.fld 9), [.t 5], []⟩,
    ⟨1, none, (some 88), (.fld 13), [.t 87], []⟩,
    ⟨2, none, (some 89), (.fld 0), [.t 88], []⟩,
    ⟨3, none, (some 90), (.ld 1 false), [.t 89], []⟩,
    ⟨4, none, (some 91), .mov, [.t 0], []⟩,
    ⟨5, none, (some 92), (.call 9), [.t 91, .c (.int .i64 60)], []⟩,
    ⟨6, none, (some 93), (.bin .add), [.t 90, .t 92], []⟩,
    ⟨7, none, (some 94), (.fld 9), [.t 5], []⟩,
    ⟨8, none, (some 95), (.fld 13), [.t 94], []⟩,
    ⟨9, none, (some 96), (.fld 1), [.t 95], []⟩,
    ⟨10, none, none, (.st 1), [.t 96, .t 93], []⟩] [4, 5] [4, 5]
def R23_14 : ACode := .reg none [
    ⟨0, none, (some 97), (.ld 25 true), [.t 5], []⟩,
    ⟨1, none, none, (.st 25), [.t 4, .t 97], []⟩] [4] [4]
def C23 : ACode := (.seq R23_0 (.seq R23_1 (.seq R23_2 (.seq (.seq R23_3 (.block 0 (.loop (.seq (.seq R23_4 (.cond (.t 15) .skip (.exit 0))) (.seq (.block 1 R23_6) R23_5))))) (.seq R23_7 (.seq R23_8 (.seq R23_9 (.seq R23_10 (.seq (.seq R23_11 (.cond (.t 81) (.seq R23_12 R23_13) .skip)) (.seq R23_14 .ret))))))))))
def F23 : AFn := ⟨2, 98, [.cell 4 25 true false], C23⟩
theorem ok23 : fnOk Try.prog Try.f23 F23 = true := by kernel_rfl
theorem at23 : Try.prog.funcs[23]? = some Try.f23 := by kernel_rfl
/-! seismonet/alert.refused -/
def R24_0 : ACode := .reg none [
    ⟨0, none, (some 5), (.boxl 5), [.t 0], []⟩,
    ⟨1, none, (some 9), .boxh, [.t 4], []⟩,
    ⟨2, none, (some 10), .mov, [.c (.int .i64 0)], []⟩] [1, 2, 3, 5, 9] [5]
def R24_1 : ACode := .reg none [
    ⟨0, none, (some 12), (.ld 3 true), [.t 5], []⟩,
    ⟨1, none, (some 13), (.callp 44), [.t 12], []⟩,
    ⟨2, none, (some 14), (.bin .ne), [.t 13, .c (.int .i64 0)], []⟩,
    ⟨3, none, (some 11), .mov, [.t 14], []⟩] [1, 2, 3, 9, 11] []
def R24_2 : ACode := .reg none [
    ⟨0, none, (some 10), .mov, [.c (.int .i64 27)], []⟩] [10] []
def R24_3 : ACode := .reg none [
    ⟨0, none, (some 16), .mov, [.t 1], []⟩,
    ⟨1, none, (some 17), (.callp 14), [.t 16], []⟩,
    ⟨2, none, (some 18), .not, [.t 17], []⟩,
    ⟨3, none, (some 19), .mov, [.t 18], []⟩,
    ⟨4, (some (19, false)), (some 20), .mov, [.t 3], []⟩,
    ⟨5, (some (19, false)), (some 21), (.callp 45), [.t 20], []⟩,
    ⟨6, (some (19, false)), (some 22), .not, [.t 21], []⟩,
    ⟨7, none, (some 23), .pick, [.t 19, .c (.bool true), .t 22], []⟩,
    ⟨8, none, (some 24), .mov, [.t 23], []⟩,
    ⟨9, (some (24, false)), (some 25), .mov, [.t 2], []⟩,
    ⟨10, (some (24, false)), (some 26), (.bin .lt), [.t 25, .c (.int .i64 0)], []⟩,
    ⟨11, none, (some 27), .pick, [.t 24, .c (.bool true), .t 26], []⟩,
    ⟨12, none, (some 28), .mov, [.t 27], []⟩,
    ⟨13, (some (28, false)), (some 29), .mov, [.t 1], []⟩,
    ⟨14, (some (28, false)), (some 30), .len, [.t 29], []⟩,
    ⟨15, (some (28, false)), (some 31), (.bin .gt), [.t 30, .c (.int .i64 0)], []⟩,
    ⟨16, (some (28, false)), (some 32), .mov, [.t 31], []⟩,
    ⟨17, (some (32, true)), (some 33), .mov, [.t 2], []⟩,
    ⟨18, (some (32, true)), (some 34), .mov, [.t 1], []⟩,
    ⟨19, (some (32, true)), (some 35), .mov, [.t 1], []⟩,
    ⟨20, (some (32, true)), (some 36), .len, [.t 35], []⟩,
    ⟨21, (some (32, true)), (some 37), (.bin .sub), [.t 36, .c (.int .i64 1)], []⟩,
    ⟨22, (some (32, true)), (some 38), (.ix 38), [.t 34, .t 37], []⟩,
    ⟨23, (some (32, true)), (some 39), (.fld 0), [.t 38], []⟩,
    ⟨24, (some (32, true)), (some 40), (.ldh 1 false), [.t 39], []⟩,
    ⟨25, (some (32, true)), (some 41), (.bin .le), [.t 33, .t 40], []⟩,
    ⟨26, (some (28, false)), (some 42), .pick, [.t 32, .t 41, .c (.bool false)], []⟩,
    ⟨27, none, (some 43), .pick, [.t 28, .c (.bool true), .t 42], []⟩,
    ⟨28, none, (some 15), .mov, [.t 43], []⟩] [1, 9, 15] []
def R24_4 : ACode := .reg none [
    ⟨0, none, (some 10), .mov, [.c (.int .i64 1)], []⟩] [10] []
def R24_5 : ACode := .reg none [
    ⟨0, none, (some 45), (.ldh 1 false), [.t 9], []⟩,
    ⟨1, none, (some 46), (.bin .lt), [.t 45, .c (.int .i64 0)], []⟩,
    ⟨2, none, (some 47), .mov, [.t 46], []⟩,
    ⟨3, (some (47, false)), (some 48), (.ldh 1 false), [.t 9], []⟩,
    ⟨4, (some (47, false)), (some 49), (.bin .gt), [.t 48, .c (.int .i64 18014398509481984)], []⟩,
    ⟨5, none, (some 50), .pick, [.t 47, .c (.bool true), .t 49], []⟩,
    ⟨6, none, (some 44), .mov, [.t 50], []⟩] [1, 9, 44] []
def R24_6 : ACode := .reg none [
    ⟨0, none, (some 10), .mov, [.c (.int .i64 2)], []⟩] [10] []
def R24_7 : ACode := .reg none [
    ⟨0, none, (some 52), .mov, [.t 1], []⟩,
    ⟨1, none, (some 53), (.mkf 47 0), [.t 9], []⟩,
    ⟨2, none, (some 54), (.callp 46), [.t 52, .t 53], []⟩,
    ⟨3, none, (some 51), .mov, [.t 54], []⟩] [51] []
def R24_8 : ACode := .reg none [
    ⟨0, none, (some 10), .mov, [.c (.int .i64 9)], []⟩] [10] []
def R24_9 : ACode := .reg none [
    ⟨0, none, (some 10), .mov, [.c (.int .i64 0)], []⟩] [10] []
def C24 : ACode := (.seq R24_0 (.seq (.block 0 (.seq R24_1 (.cond (.t 11) (.seq R24_2 .ret) (.seq R24_3 (.cond (.t 15) (.seq R24_4 .ret) (.seq R24_5 (.cond (.t 44) (.seq R24_6 .ret) (.seq R24_7 (.cond (.t 51) (.seq R24_8 .ret) .skip))))))))) (.seq R24_9 .ret)))
def F24 : AFn := ⟨5, 55, [.tmp 10], C24⟩
theorem ok24 : fnOk Try.prog Try.f24 F24 = true := by kernel_rfl
theorem at24 : Try.prog.funcs[24]? = some Try.f24 := by kernel_rfl
/-! seismonet/alert.Step$1 -/
def R25_0 : ACode := .reg none [
    ⟨0, none, (some 7), (.boxl 7), [.t 1], []⟩] [0, 2, 3, 4, 5, 7] [7]
def R25_1 : ACode := .reg none [
    ⟨0, none, (some 8), (.ldh 1 false), [.t 2], []⟩,
    ⟨1, none, (some 9), .mov, [.t 8], []⟩,
    ⟨2, (some (9, false)), (some 10), (.ldh 1 false), [.t 3], []⟩,
    ⟨3, (some (9, false)), (some 11), (.bin .ge), [.t 10, .c (.int .i64 1000)], []⟩,
    ⟨4, none, (some 12), .pick, [.t 9, .c (.bool true), .t 11], []⟩,
    ⟨5, none, none, (.sth 1), [.t 2, .t 12], []⟩] [0, 3, 4, 5, 7] [7]
def R25_2 : ACode := .reg (some [0, 0, 0, 0, 8, 0, 0, 64, 0, 256, 768, 2046, 4094, 8191, 16383]) [
    ⟨0, none, (some 13), (.ldh 1 false), [.t 4], []⟩,
    ⟨1, none, (some 14), (.ldh 1 false), [.t 3], []⟩,
    ⟨2, none, (some 15), .mov, [.t 0], []⟩,
    ⟨3, none, (some 16), (.fld 0), [.t 7], []⟩,
    ⟨4, none, (some 17), (.ld 1 false), [.t 16], []⟩,
    ⟨5, none, (some 18), (.ldh 1 false), [.t 5], []⟩,
    ⟨6, none, (some 19), (.fld 11), [.t 7], []⟩,
    ⟨7, none, (some 20), (.ld 1 false), [.t 19], []⟩,
    ⟨8, none, (some 21), (.fld 12), [.t 7], []⟩,
    ⟨9, none, (some 22), (.ld 25 true), [.t 21], []⟩,
    ⟨10, none, (some 23), (.callp 26), [.t 22], []⟩,
    ⟨11, none, (some 24), (.build [.int .i64 0, .int .i64 0, .int .i64 0, .int .i64 0, .int .i64 0, .str ⟨#[]⟩, .str ⟨#[]⟩, .str ⟨#[]⟩, .str ⟨#[]⟩, .int .i64 0, .int .i64 0, .int .i64 0, .int .i64 0, .int .i64 0, .nils, .int .i64 0, .int .i64 0, .int .i64 0, .int .i64 0, .int .i64 0, .int .i64 0, .int .i64 0, .int .i64 0, .int .i64 0, .int .i64 0, .int .i64 0, .int .i64 0, .int .i64 0, .int .i64 0, .int .i64 0] [(0, 1), (1, 1), (2, 1), (3, 1), (4, 1), (5, 25)]), [.t 14, .t 15, .t 17, .t 18, .t 20, .t 23], []⟩,
    ⟨12, none, (some 25), (.bslice 1 30 [.int .i64 0, .int .i64 0, .int .i64 0, .int .i64 0, .int .i64 0, .str ⟨#[]⟩, .str ⟨#[]⟩, .str ⟨#[]⟩, .str ⟨#[]⟩, .int .i64 0, .int .i64 0, .int .i64 0, .int .i64 0, .int .i64 0, .nils, .int .i64 0, .int .i64 0, .int .i64 0, .int .i64 0, .int .i64 0, .int .i64 0, .int .i64 0, .int .i64 0, .int .i64 0, .int .i64 0, .int .i64 0, .int .i64 0, .int .i64 0, .int .i64 0, .int .i64 0] [0]), [.t 24], []⟩,
    ⟨13, none, (some 26), (.app 30 488671834567), [.t 13, .t 25], []⟩,
    ⟨14, none, none, (.sth 1), [.t 4, .t 26], []⟩] [3] []
def R25_3 : ACode := .reg none [
    ⟨0, none, (some 27), (.ldh 1 false), [.t 3], []⟩,
    ⟨1, none, (some 28), (.bin .add), [.t 27, .c (.int .i64 1)], []⟩,
    ⟨2, none, none, (.sth 1), [.t 3, .t 28], []⟩] [] []
def C25 : ACode := (.seq R25_0 (.seq R25_1 (.seq R25_2 R25_3)))
def F25 : AFn := ⟨6, 29, [], C25⟩
theorem ok25 : fnOk Try.prog Try.f25 F25 = true := by kernel_rfl
theorem at25 : Try.prog.funcs[25]? = some Try.f25 := by kernel_rfl
/-! seismonet/alert.copied -/
def R26_0 : ACode := .reg none [
    ⟨0, none, (some 1), (.boxl 1), [.t 0], []⟩,
    ⟨1, none, (some 2), (.newl 2 [.str ⟨#[]⟩, .str ⟨#[]⟩, .str ⟨#[]⟩, .str ⟨#[]⟩, .int .i64 0, .int .i64 0, .int .i64 0, .int .i64 0, .int .i64 0, .nils, .int .i64 0, .int .i64 0, .int .i64 0, .int .i64 0, .int .i64 0, .int .i64 0, .int .i64 0, .int .i64 0, .int .i64 0, .int .i64 0, .int .i64 0, .int .i64 0, .int .i64 0, .int .i64 0, .int .i64 0]), [], []⟩] [1, 2] [1, 2]
def R26_1 : ACode := .reg none [
    ⟨0, none, (some 3), (.fld 9), [.t 1], []⟩,
    ⟨1, none, (some 4), (.fld 0), [.t 3], []⟩,
    ⟨2, none, (some 5), (.ld 1 false), [.t 4], []⟩,
    ⟨3, none, (some 6), (.callp 48), [.t 5], []⟩,
    ⟨4, none, (some 7), (.fld 9), [.t 1], []⟩,
    ⟨5, none, (some 8), (.fld 0), [.t 7], []⟩,
    ⟨6, none, none, (.st 1), [.t 8, .t 6], []⟩] [1, 2] [1, 2]
def R26_2 : ACode := .reg none [
    ⟨0, none, (some 9), (.ld 25 true), [.t 1], []⟩,
    ⟨1, none, none, (.st 25), [.t 2, .t 9], []⟩] [2] [2]
def C26 : ACode := (.seq R26_0 (.seq R26_1 (.seq R26_2 .ret)))
def F26 : AFn := ⟨1, 10, [.cell 2 25 true false], C26⟩
theorem ok26 : fnOk Try.prog Try.f26 F26 = true := by kernel_rfl
theorem at26 : Try.prog.funcs[26]? = some Try.f26 := by kernel_rfl
/-! seismonet/alert.all -/
def R27_0 : ACode := .reg none [
    ⟨0, none, (some 2), .mov, [.c (.nils)], []⟩] [0] []
def R27_1 : ACode := .reg none [
    ⟨0, none, (some 5), .mov, [.t 0], []⟩,
    ⟨1, none, (some 6), (.call 49), [.t 5], []⟩,
    ⟨2, none, (some 3), .mov, [.t 6], []⟩] [3] []
def R27_2 : ACode := .reg none [
    ⟨0, none, (some 7), .mov, [.t 3], []⟩,
    ⟨1, none, (some 8), .len, [.t 7], []⟩,
    ⟨2, none, (some 9), .mov, [.c (.int .i64 0)], []⟩] [3, 8, 9] []
def R27_3 : ACode := .reg none [
    ⟨0, none, (some 10), (.bin .lt), [.t 9, .t 8], []⟩] [3, 8, 9, 10] []
def R27_4 : ACode := .reg none [
    ⟨0, none, (some 11), .mov, [.t 9], []⟩,
    ⟨1, none, (some 4), .mov, [.t 11], []⟩] [3, 4, 8, 9] []
def R27_5 : ACode := .reg none [
    ⟨0, none, (some 12), .mov, [.t 3], []⟩,
    ⟨1, none, (some 13), .mov, [.t 4], []⟩,
    ⟨2, none, (some 14), .mov, [.t 3], []⟩,
    ⟨3, none, (some 15), .mov, [.t 4], []⟩,
    ⟨4, none, (some 16), (.ix 38), [.t 14, .t 15], []⟩,
    ⟨5, none, (some 17), (.fld 12), [.t 16], []⟩,
    ⟨6, none, (some 18), (.ldh 25 true), [.t 17], []⟩,
    ⟨7, none, (some 19), (.callp 26), [.t 18], []⟩,
    ⟨8, none, (some 20), (.ix 38), [.t 12, .t 13], []⟩,
    ⟨9, none, (some 21), (.fld 12), [.t 20], []⟩,
    ⟨10, none, none, (.sth 25), [.t 21, .t 19], []⟩] [3, 8, 9] []
def R27_6 : ACode := .reg none [
    ⟨0, none, (some 22), (.bin .add), [.t 9, .c (.int .i64 1)], []⟩,
    ⟨1, none, (some 9), .mov, [.t 22], []⟩] [3, 8, 9] []
def R27_7 : ACode := .reg none [
    ⟨0, none, (some 23), .mov, [.t 3], []⟩,
    ⟨1, none, (some 2), .mov, [.t 23], []⟩] [2] []
def C27 : ACode := (.seq R27_0 (.seq R27_1 (.seq (.seq R27_2 (.block 0 (.loop (.seq R27_3 (.seq (.cond (.t 10) .skip (.exit 0)) (.seq (.block 1 (.seq R27_4 R27_5)) R27_6)))))) (.seq R27_7 .ret))))
def F27 : AFn := ⟨1, 24, [.tmp 2], C27⟩
theorem ok27 : fnOk Try.prog Try.f27 F27 = true := by kernel_rfl
theorem at27 : Try.prog.funcs[27]? = some Try.f27 := by kernel_rfl
/-! seismonet/rule.Moved -/
def R29_0 : ACode := .reg none [
    ⟨0, none, (some 3), (.boxl 3), [.t 0], []⟩,
    ⟨1, none, (some 4), (.boxl 4), [.t 1], []⟩,
    ⟨2, none, (some 5), (.boxl 5), [.t 2], []⟩,
    ⟨3, none, (some 6), .mov, [.c (.bool false)], []⟩] [3, 4, 5] [3, 4, 5]
def R29_1 : ACode := .reg none [
    ⟨0, none, (some 10), (.ld 3 true), [.t 3], []⟩,
    ⟨1, none, (some 11), (.callp 44), [.t 10], []⟩,
    ⟨2, none, (some 12), (.bin .ne), [.t 11, .c (.int .i64 0)], []⟩] [3, 4, 5, 12] [3, 4, 5]
def R29_2 : ACode := .reg none [
    ⟨0, none, (some 6), .mov, [.c (.bool false)], []⟩] [6] []
def R29_3 : ACode := .reg (some [0, 1, 0, 4, 0, 16, 0, 0, 195, 463, 1023]) [
    ⟨0, none, (some 13), (.fld 9), [.t 4], []⟩,
    ⟨1, none, (some 14), (.ld 16 true), [.t 13], []⟩,
    ⟨2, none, (some 15), (.fld 9), [.t 5], []⟩,
    ⟨3, none, (some 16), (.ld 16 true), [.t 15], []⟩,
    ⟨4, none, (some 17), (.fld 1), [.t 3], []⟩,
    ⟨5, none, (some 18), (.ld 1 false), [.t 17], []⟩,
    ⟨6, none, (some 7), (.newl 7 [.nils, .int .i64 0, .int .i64 0, .int .i64 0, .int .i64 0, .int .i64 0, .int .i64 0, .int .i64 0, .int .i64 0, .int .i64 0, .int .i64 0, .int .i64 0, .int .i64 0, .int .i64 0, .int .i64 0, .int .i64 0]), [], []⟩,
    ⟨7, none, (some 8), (.newl 8 [.nils, .int .i64 0, .int .i64 0, .int .i64 0, .int .i64 0, .int .i64 0, .int .i64 0, .int .i64 0, .int .i64 0, .int .i64 0, .int .i64 0, .int .i64 0, .int .i64 0, .int .i64 0, .int .i64 0, .int .i64 0]), [], []⟩,
    ⟨8, none, none, (.st 16), [.t 7, .t 14], [(.t 15, 16, true), (.t 17, 1, false)]⟩,
    ⟨9, none, none, (.st 16), [.t 8, .t 16], [(.t 17, 1, false)]⟩,
    ⟨10, none, (some 9), .mov, [.t 18], []⟩] [3, 4, 5, 7, 8, 9] [3, 4, 5, 7, 8]
def R29_4 : ACode := .reg (some [0, 0, 3, 0, 0, 31, 63, 127]) [
    ⟨0, none, (some 20), (.ld 3 true), [.t 3], []⟩,
    ⟨1, none, (some 21), (.ld 25 true), [.t 4], []⟩,
    ⟨3, none, (some 23), (.ld 3 true), [.t 3], []⟩,
    ⟨4, none, (some 24), (.ld 25 true), [.t 5], []⟩,
    ⟨2, none, (some 22), (.callp 28), [.t 20, .t 21], []⟩,
    ⟨5, none, (some 25), (.callp 28), [.t 23, .t 24], []⟩,
    ⟨6, none, (some 26), (.bin .ne), [.t 22, .t 25], []⟩,
    ⟨7, none, (some 19), .mov, [.t 26], []⟩] [7, 8, 9, 19] [7, 8]
def R29_5 : ACode := .reg none [
    ⟨0, none, (some 6), .mov, [.c (.bool true)], []⟩] [6] []
def R29_6 : ACode := .reg none [
    ⟨0, none, (some 28), .mov, [.t 9], []⟩,
    ⟨1, none, (some 29), (.bin .le), [.t 28, .c (.int .i64 4194304)], []⟩,
    ⟨2, none, (some 30), .mov, [.t 29], []⟩,
    ⟨3, (some (30, true)), (some 31), (.fld 1), [.t 7], []⟩,
    ⟨4, (some (30, true)), (some 32), (.fld 0), [.t 31], []⟩,
    ⟨5, (some (30, true)), (some 33), (.ld 3 true), [.t 32], []⟩,
    ⟨6, (some (30, true)), (some 34), (.fld 1), [.t 8], []⟩,
    ⟨7, (some (30, true)), (some 35), (.fld 0), [.t 34], []⟩,
    ⟨8, (some (30, true)), (some 36), (.ld 3 true), [.t 35], []⟩,
    ⟨9, (some (30, true)), (some 37), (.callp 52), [.t 33, .t 36], []⟩,
    ⟨10, (some (30, true)), (some 38), .mov, [.t 9], []⟩,
    ⟨11, (some (30, true)), (some 39), .mov, [.t 9], []⟩,
    ⟨12, (some (30, true)), (some 40), (.bin .mul), [.t 38, .t 39], []⟩,
    ⟨13, (some (30, true)), (some 41), (.bin .gt), [.t 37, .t 40], []⟩,
    ⟨14, none, (some 42), .pick, [.t 30, .t 41, .c (.bool false)], []⟩,
    ⟨15, none, (some 27), .mov, [.t 42], []⟩] [7, 8, 9, 27] [7, 8]
def R29_7 : ACode := .reg none [
    ⟨0, none, (some 6), .mov, [.c (.bool true)], []⟩] [6] []
def R29_8 : ACode := .reg none [
    ⟨0, none, (some 44), (.fld 1), [.t 7], []⟩,
    ⟨1, none, (some 45), (.fld 3), [.t 44], []⟩,
    ⟨2, none, (some 46), (.ld 1 false), [.t 45], []⟩,
    ⟨3, none, (some 47), (.fld 1), [.t 8], []⟩,
    ⟨4, none, (some 48), (.fld 3), [.t 47], []⟩,
    ⟨5, none, (some 49), (.ld 1 false), [.t 48], []⟩,
    ⟨6, none, (some 50), (.callp 53), [.t 46, .t 49], []⟩,
    ⟨7, none, (some 51), .mov, [.t 9], []⟩,
    ⟨8, none, (some 52), (.conv .u64), [.t 51], []⟩,
    ⟨9, none, (some 53), (.bin .gt), [.t 50, .t 52], []⟩,
    ⟨10, none, (some 43), .mov, [.t 53], []⟩] [7, 8, 43] [7, 8]
def R29_9 : ACode := .reg none [
    ⟨0, none, (some 6), .mov, [.c (.bool true)], []⟩] [6] []
def R29_10 : ACode := .reg none [
    ⟨0, none, (some 54), (.fld 13), [.t 7], []⟩,
    ⟨1, none, (some 55), (.ld 2 true), [.t 54], []⟩,
    ⟨2, none, (some 56), (.fld 13), [.t 8], []⟩,
    ⟨3, none, (some 57), (.ld 2 true), [.t 56], []⟩,
    ⟨4, none, (some 58), (.callp 54), [.t 55, .t 57], []⟩,
    ⟨5, none, (some 59), .not, [.t 58], []⟩,
    ⟨6, none, (some 6), .mov, [.t 59], []⟩] [6] []
def C29 : ACode := (.seq R29_0 (.seq (.seq R29_1 (.cond (.t 12) (.seq R29_2 .ret) .skip)) (.seq R29_3 (.seq (.block 0 (.seq R29_4 (.cond (.t 19) (.seq R29_5 .ret) (.seq R29_6 (.cond (.t 27) (.seq R29_7 .ret) (.seq R29_8 (.cond (.t 43) (.seq R29_9 .ret) .skip))))))) (.seq R29_10 .ret)))))
def F29 : AFn := ⟨3, 60, [.tmp 6], C29⟩
theorem ok29 : fnOk Try.prog Try.f29 F29 = true := by kernel_rfl
theorem at29 : Try.prog.funcs[29]? = some Try.f29 := by kernel_rfl
/-! seismonet/rule.Timely -/
def R30_0 : ACode := .reg none [
    ⟨0, none, (some 3), (.boxl 3), [.t 0], []⟩,
    ⟨1, none, (some 4), (.boxl 4), [.t 1], []⟩,
    ⟨2, none, (some 6), .mov, [.c (.bool false)], []⟩] [2, 3, 4] [3, 4]
def R30_1 : ACode := .reg none [
    ⟨0, none, (some 9), (.ld 3 true), [.t 3], []⟩,
    ⟨1, none, (some 10), (.ld 25 true), [.t 4], []⟩,
    ⟨2, none, (some 11), (.callp 28), [.t 9, .t 10], []⟩,
    ⟨3, none, (some 7), .mov, [.t 11], []⟩] [2, 3, 4, 7] [3, 4]
def R30_2 : ACode := .reg none [
    ⟨0, none, (some 12), .mov, [.t 7], []⟩,
    ⟨1, none, (some 13), (.bin .eq), [.t 12, .c (.int .i64 0)], []⟩] [2, 3, 4, 7, 13] [3, 4]
def R30_3 : ACode := .reg none [
    ⟨0, none, (some 6), .mov, [.c (.bool false)], []⟩] [6] []
def R30_4 : ACode := .reg none [
    ⟨0, none, (some 14), .mov, [.t 2], []⟩,
    ⟨1, none, (some 15), (.fld 9), [.t 4], []⟩,
    ⟨2, none, (some 16), (.fld 1), [.t 15], []⟩,
    ⟨3, none, (some 17), (.fld 3), [.t 16], []⟩,
    ⟨4, none, (some 18), (.ld 1 false), [.t 17], []⟩,
    ⟨5, none, (some 19), (.bin .sub), [.t 14, .t 18], []⟩,
    ⟨6, none, (some 8), .mov, [.t 19], []⟩] [3, 7, 8] [3]
def R30_5 : ACode := .reg none [
    ⟨0, none, (some 20), .mov, [.t 8], []⟩,
    ⟨1, none, (some 21), (.bin .ge), [.t 20, .c (.int .i64 0)], []⟩,
    ⟨2, none, (some 22), .mov, [.t 21], []⟩,
    ⟨3, (some (22, true)), (some 23), .mov, [.t 8], []⟩,
    ⟨4, (some (22, true)), (some 24), (.fld 0), [.t 3], []⟩,
    ⟨5, (some (22, true)), (some 25), (.ld 1 false), [.t 24], []⟩,
    ⟨6, (some (22, true)), (some 26), .mov, [.t 7], []⟩,
    ⟨7, (some (22, true)), (some 27), (.bin .sub), [.t 26, .c (.int .i64 1)], []⟩,
    ⟨8, (some (22, true)), (some 28), (.ix 4), [.t 25, .t 27], []⟩,
    ⟨9, (some (22, true)), (some 29), (.fld 3), [.t 28], []⟩,
    ⟨10, (some (22, true)), (some 30), (.ldh 1 false), [.t 29], []⟩,
    ⟨11, (some (22, true)), (some 31), (.bin .le), [.t 23, .t 30], []⟩,
    ⟨12, none, (some 32), .pick, [.t 22, .t 31, .c (.bool false)], []⟩,
    ⟨13, none, (some 6), .mov, [.t 32], []⟩] [6] []
def C30 : ACode := (.seq R30_0 (.seq R30_1 (.seq (.seq R30_2 (.cond (.t 13) (.seq R30_3 .ret) .skip)) (.seq R30_4 (.seq R30_5 .ret)))))
def F30 : AFn := ⟨3, 33, [.tmp 6], C30⟩
theorem ok30 : fnOk Try.prog Try.f30 F30 = true := by kernel_rfl
theorem at30 : Try.prog.funcs[30]? = some Try.f30 := by kernel_rfl
/-! seismonet/seismonetkeep.Source -/
def R31_0 : ACode := .reg none [
    ⟨0, none, (some 2), (.newl 2 [.str ⟨#[]⟩, .str ⟨#[]⟩, .str ⟨#[]⟩, .str ⟨#[]⟩]), [], []⟩] [0, 2] [2]
def R31_1 : ACode := .reg none [
    ⟨0, none, (some 3), (.bslice 6 1 [.str ⟨#[]⟩] [0, 1, 2, 3, 4, 5]), [.c (.str ⟨#[83, 49]⟩), .c (.str ⟨#[83, 50]⟩), .c (.str ⟨#[83, 51]⟩), .c (.str ⟨#[83, 52]⟩), .c (.str ⟨#[83, 53]⟩), .c (.str ⟨#[83, 54]⟩)], []⟩,
    ⟨1, none, (some 4), .mov, [.t 0], []⟩,
    ⟨2, none, (some 5), (.callp 21), [.t 4, .c (.int .i64 6)], []⟩,
    ⟨3, none, (some 6), (.ix 1), [.t 3, .t 5], []⟩,
    ⟨4, none, (some 7), (.ldh 1 false), [.t 6], []⟩,
    ⟨5, none, (some 8), (.build [.str ⟨#[]⟩, .str ⟨#[]⟩, .str ⟨#[]⟩, .str ⟨#[]⟩] [(0, 1), (1, 1), (2, 1), (3, 1)]), [.c (.str ⟨#[65, 66]⟩), .t 7, .c (.str ⟨#[48, 48]⟩), .c (.str ⟨#[66, 72, 90]⟩)], []⟩,
    ⟨6, none, none, (.st 4), [.t 2, .t 8], []⟩] [2] [2]
def C31 : ACode := (.seq R31_0 (.seq R31_1 .ret))
def F31 : AFn := ⟨1, 9, [.cell 2 4 true false], C31⟩
theorem ok31 : fnOk Try.prog Try.f31 F31 = true := by kernel_rfl
theorem at31 : Try.prog.funcs[31]? = some Try.f31 := by kernel_rfl
/-! seismonet/seismonetlaw36.sample -/
def R32_0 : ACode := .reg none [
    ⟨0, none, (some 0), (.newl 0 [.nils, .int .i64 0, .int .i64 0]), [], []⟩] [0] [0]
def R32_1 : ACode := .reg none [
    ⟨0, none, (some 1), (.build [.int .i64 0, .int .i64 0, .int .i64 0, .int .i64 0] [(0, 1), (1, 1), (2, 1), (3, 1)]), [.c (.int .i64 (-1000)), .c (.int .i64 1), .c (.int .i64 10000), .c (.int .i64 100000)], []⟩,
    ⟨1, none, (some 2), (.bslice 1 4 [.int .i64 0, .int .i64 0, .int .i64 0, .int .i64 0] [0]), [.t 1], []⟩,
    ⟨2, none, (some 3), (.build [.nils, .int .i64 0, .int .i64 0] [(0, 1)]), [.t 2], []⟩,
    ⟨3, none, none, (.st 3), [.t 0, .t 3], []⟩] [0] [0]
def C32 : ACode := (.seq R32_0 (.seq R32_1 .ret))
def F32 : AFn := ⟨0, 4, [.cell 0 3 true false], C32⟩
theorem ok32 : fnOk Try.prog Try.f32 F32 = true := by kernel_rfl
theorem at32 : Try.prog.funcs[32]? = some Try.f32 := by kernel_rfl
/-! seismonet/alert.shared -/
def R33_0 : ACode := .reg none [
    ⟨0, none, (some 2), (.boxl 2), [.t 0], []⟩,
    ⟨1, none, (some 3), .boxh, [.t 1], []⟩,
    ⟨2, none, (some 4), .mov, [.c (.bool false)], []⟩] [2, 3] [2]
def R33_1 : ACode := .reg none [
    ⟨0, none, (some 5), (.fld 9), [.t 2], []⟩,
    ⟨1, none, (some 6), (.fld 0), [.t 5], []⟩,
    ⟨2, none, (some 7), (.ld 1 false), [.t 6], []⟩,
    ⟨3, none, (some 8), (.mkf 56 0), [.t 3], []⟩,
    ⟨4, none, (some 9), (.callp 55), [.t 7, .t 8], []⟩,
    ⟨5, none, (some 4), .mov, [.t 9], []⟩] [4] []
def C33 : ACode := (.seq R33_0 (.seq R33_1 .ret))
def F33 : AFn := ⟨2, 10, [.tmp 4], C33⟩
theorem ok33 : fnOk Try.prog Try.f33 F33 = true := by kernel_rfl
theorem at33 : Try.prog.funcs[33]? = some Try.f33 := by kernel_rfl
/-! slices.DeleteFunc[[]seismonet/api.Alert,seismonet/api.Alert] -/
def R34_0 : ACode := .reg none [
    ⟨0, none, (some 4), .mov, [.c (.nils)], []⟩] [0, 1] []
def R34_1 : ACode := .reg none [
    ⟨0, none, (some 8), .mov, [.t 0], []⟩,
    ⟨1, none, (some 9), .mov, [.t 1], []⟩,
    ⟨2, none, (some 10), (.callp 58), [.t 8, .t 9], []⟩,
    ⟨3, none, (some 5), .mov, [.t 10], []⟩] [0, 1, 5] []
def R34_2 : ACode := .reg none [
    ⟨0, none, (some 11), .mov, [.t 5], []⟩,
    ⟨1, none, (some 12), (.bin .eq), [.t 11, .c (.int .i64 (-1))], []⟩] [0, 1, 5, 12] []
def R34_3 : ACode := .reg none [
    ⟨0, none, (some 13), .mov, [.t 0], []⟩,
    ⟨1, none, (some 4), .mov, [.t 13], []⟩] [4] []
def R34_4 : ACode := .reg none [
    ⟨0, none, (some 14), .mov, [.t 5], []⟩,
    ⟨1, none, (some 15), (.bin .add), [.t 14, .c (.int .i64 1)], []⟩,
    ⟨2, none, (some 6), .mov, [.t 15], []⟩] [0, 1, 5, 6] []
def R34_5 : ACode := .reg none [
    ⟨0, none, (some 16), .mov, [.t 6], []⟩,
    ⟨1, none, (some 17), .mov, [.t 0], []⟩,
    ⟨2, none, (some 18), .len, [.t 17], []⟩,
    ⟨3, none, (some 19), (.bin .lt), [.t 16, .t 18], []⟩] [0, 1, 5, 6, 19] []
def R34_7 : ACode := .reg none [
    ⟨0, none, (some 22), .mov, [.t 0], []⟩,
    ⟨1, none, (some 23), .mov, [.t 6], []⟩,
    ⟨2, none, (some 24), (.ix 38), [.t 22, .t 23], []⟩,
    ⟨3, none, (some 25), (.ldh 38 true), [.t 24], []⟩,
    ⟨4, none, (some 7), (.newl 7 [.int .i64 0, .bool false, .str ⟨#[]⟩, .str ⟨#[]⟩, .str ⟨#[]⟩, .str ⟨#[]⟩, .int .i64 0, .int .i64 0, .int .i64 0, .int .i64 0, .int .i64 0, .int .i64 0, .str ⟨#[]⟩, .str ⟨#[]⟩, .str ⟨#[]⟩, .str ⟨#[]⟩, .int .i64 0, .int .i64 0, .int .i64 0, .int .i64 0, .int .i64 0, .nils, .int .i64 0, .int .i64 0, .int .i64 0, .int .i64 0, .int .i64 0, .int .i64 0, .int .i64 0, .int .i64 0, .int .i64 0, .int .i64 0, .int .i64 0, .int .i64 0, .int .i64 0, .int .i64 0, .int .i64 0, .int .i64 0]), [], []⟩,
    ⟨5, none, none, (.st 38), [.t 7, .t 25], []⟩] [0, 1, 5, 6, 7] [7]
def R34_8 : ACode := .reg none [
    ⟨0, none, (some 26), .mov, [.t 1], []⟩,
    ⟨1, none, (some 27), (.ld 38 true), [.t 7], []⟩,
    ⟨2, none, (some 28), .callv, [.t 26, .t 27], []⟩,
    ⟨3, none, (some 29), .not, [.t 28], []⟩] [0, 1, 5, 6, 7, 29] [7]
def R34_9 : ACode := .reg none [
    ⟨0, none, (some 30), .mov, [.t 0], []⟩,
    ⟨1, none, (some 31), .mov, [.t 5], []⟩,
    ⟨2, none, (some 32), (.ld 38 true), [.t 7], []⟩,
    ⟨3, none, (some 33), (.ix 38), [.t 30, .t 31], []⟩,
    ⟨4, none, none, (.sth 38), [.t 33, .t 32], []⟩] [0, 1, 5, 6] []
def R34_10 : ACode := .reg none [
    ⟨0, none, (some 34), .mov, [.t 5], []⟩,
    ⟨1, none, (some 35), (.bin .add), [.t 34, .c (.int .i64 1)], []⟩,
    ⟨2, none, (some 5), .mov, [.t 35], []⟩] [0, 1, 5, 6] []
def R34_6 : ACode := .reg none [
    ⟨0, none, (some 20), .mov, [.t 6], []⟩,
    ⟨1, none, (some 21), (.bin .add), [.t 20, .c (.int .i64 1)], []⟩,
    ⟨2, none, (some 6), .mov, [.t 21], []⟩] [0, 1, 5, 6] []
def R34_11 : ACode := .reg none [
    ⟨0, none, (some 36), .mov, [.t 0], []⟩,
    ⟨1, none, (some 37), .mov, [.t 5], []⟩,
    ⟨2, none, (some 38), (.slc 38 true false false), [.t 36, .t 37], []⟩,
    ⟨3, none, none, (.clr [.int .i64 0, .bool false, .str ⟨#[]⟩, .str ⟨#[]⟩, .str ⟨#[]⟩, .str ⟨#[]⟩, .int .i64 0, .int .i64 0, .int .i64 0, .int .i64 0, .int .i64 0, .int .i64 0, .str ⟨#[]⟩, .str ⟨#[]⟩, .str ⟨#[]⟩, .str ⟨#[]⟩, .int .i64 0, .int .i64 0, .int .i64 0, .int .i64 0, .int .i64 0, .nils, .int .i64 0, .int .i64 0, .int .i64 0, .int .i64 0, .int .i64 0, .int .i64 0, .int .i64 0, .int .i64 0, .int .i64 0, .int .i64 0, .int .i64 0, .int .i64 0, .int .i64 0, .int .i64 0, .int .i64 0, .int .i64 0]), [.t 38], []⟩] [0, 5] []
def R34_12 : ACode := .reg none [
    ⟨0, none, (some 39), .mov, [.t 0], []⟩,
    ⟨1, none, (some 40), .mov, [.t 5], []⟩,
    ⟨2, none, (some 41), (.slc 38 false true false), [.t 39, .t 40], []⟩,
    ⟨3, none, (some 4), .mov, [.t 41], []⟩] [4] []
def C34 : ACode := (.seq R34_0 (.seq R34_1 (.seq (.seq R34_2 (.cond (.t 12) (.seq R34_3 .ret) .skip)) (.seq (.seq R34_4 (.block 0 (.loop (.seq (.seq R34_5 (.cond (.t 19) .skip (.exit 0))) (.seq (.block 1 (.seq R34_7 (.seq R34_8 (.cond (.t 29) (.seq R34_9 R34_10) .skip)))) R34_6))))) (.seq R34_11 (.seq R34_12 .ret))))))
def F34 : AFn := ⟨2, 42, [.tmp 4], C34⟩
theorem ok34 : fnOk Try.prog Try.f34 F34 = true := by kernel_rfl
theorem at34 : Try.prog.funcs[34]? = some Try.f34 := by kernel_rfl
/-! seismonet/alert.Open$1 -/
def R35_0 : ACode := .reg none [
    ⟨0, none, (some 1), (.boxl 1), [.t 0], []⟩,
    ⟨1, none, (some 2), .mov, [.c (.bool false)], []⟩] [1] [1]
def R35_1 : ACode := .reg none [
    ⟨0, none, (some 3), (.fld 1), [.t 1], []⟩,
    ⟨1, none, (some 4), (.ld 1 false), [.t 3], []⟩,
    ⟨2, none, (some 2), .mov, [.t 4], []⟩] [2] []
def C35 : ACode := (.seq R35_0 (.seq R35_1 .ret))
def F35 : AFn := ⟨1, 5, [.tmp 2], C35⟩
theorem ok35 : fnOk Try.prog Try.f35 F35 = true := by kernel_rfl
theorem at35 : Try.prog.funcs[35]? = some Try.f35 := by kernel_rfl
/-! seismonet/seismonetref33.Same -/
def R36_0 : ACode := .reg none [
    ⟨0, none, (some 2), (.boxl 2), [.t 0], []⟩,
    ⟨1, none, (some 3), (.boxl 3), [.t 1], []⟩,
    ⟨2, none, (some 4), .mov, [.c (.bool false)], []⟩] [2, 3] [2, 3]
def R36_1 : ACode := .reg none [
    ⟨0, none, (some 5), (.fld 0), [.t 2], []⟩,
    ⟨1, none, (some 6), (.ld 1 false), [.t 5], []⟩,
    ⟨2, none, (some 7), (.fld 0), [.t 3], []⟩,
    ⟨3, none, (some 8), (.ld 1 false), [.t 7], []⟩,
    ⟨4, none, (some 9), (.callp 59), [.t 6, .t 8], []⟩,
    ⟨5, none, (some 10), .mov, [.t 9], []⟩,
    ⟨6, (some (10, true)), (some 11), (.fld 1), [.t 2], []⟩,
    ⟨7, (some (10, true)), (some 12), (.ld 12 true), [.t 11], []⟩,
    ⟨8, (some (10, true)), (some 13), (.fld 1), [.t 3], []⟩,
    ⟨9, (some (10, true)), (some 14), (.ld 12 true), [.t 13], []⟩,
    ⟨10, (some (10, true)), (some 15), (.eqs false [6, 6, 6, 6, 6, 6, 6, 6, 6, 6, 6, 6]), [.t 12, .t 14], []⟩,
    ⟨11, none, (some 16), .pick, [.t 10, .t 15, .c (.bool false)], []⟩,
    ⟨12, none, (some 17), .mov, [.t 16], []⟩,
    ⟨13, (some (17, true)), (some 18), (.fld 13), [.t 2], []⟩,
    ⟨14, (some (17, true)), (some 19), (.ld 2 true), [.t 18], []⟩,
    ⟨15, (some (17, true)), (some 20), (.fld 13), [.t 3], []⟩,
    ⟨16, (some (17, true)), (some 21), (.ld 2 true), [.t 20], []⟩,
    ⟨17, (some (17, true)), (some 22), (.eqs false [6, 6]), [.t 19, .t 21], []⟩,
    ⟨18, none, (some 23), .pick, [.t 17, .t 22, .c (.bool false)], []⟩,
    ⟨19, none, (some 24), .mov, [.t 23], []⟩,
    ⟨20, (some (24, true)), (some 25), (.fld 15), [.t 2], []⟩,
    ⟨21, (some (24, true)), (some 26), (.ld 1 false), [.t 25], []⟩,
    ⟨22, (some (24, true)), (some 27), (.fld 15), [.t 3], []⟩,
    ⟨23, (some (24, true)), (some 28), (.ld 1 false), [.t 27], []⟩,
    ⟨24, (some (24, true)), (some 29), (.bin .eq), [.t 26, .t 28], []⟩,
    ⟨25, none, (some 30), .pick, [.t 24, .t 29, .c (.bool false)], []⟩,
    ⟨26, none, (some 4), .mov, [.t 30], []⟩] [4] []
def C36 : ACode := (.seq R36_0 (.seq R36_1 .ret))
def F36 : AFn := ⟨2, 31, [.tmp 4], C36⟩
theorem ok36 : fnOk Try.prog Try.f36 F36 = true := by kernel_rfl
theorem at36 : Try.prog.funcs[36]? = some Try.f36 := by kernel_rfl
/-! seismonet/seismonetref36.Errors -/
def R37_0 : ACode := .reg none [
    ⟨0, none, (some 5), (.boxl 5), [.t 0], []⟩,
    ⟨1, none, (some 10), .mov, [.c (.int .i64 0)], []⟩] [1, 2, 3, 4, 5] [5]
def R37_1 : ACode := .reg none [
    ⟨0, none, (some 12), (.ld 3 true), [.t 5], []⟩,
    ⟨1, none, (some 13), (.callp 60), [.t 12], []⟩,
    ⟨2, none, (some 14), (.bin .ne), [.t 13, .c (.int .i64 0)], []⟩] [1, 2, 3, 4, 14] []
def R37_2 : ACode := .reg none [
    ⟨0, none, (some 10), .mov, [.c (.int .i64 27)], []⟩] [10] []
def R37_3 : ACode := .reg none [
    ⟨0, none, (some 15), .mov, [.t 1], []⟩,
    ⟨1, none, (some 16), (.callp 61), [.t 15], []⟩,
    ⟨2, none, (some 17), .not, [.t 16], []⟩,
    ⟨3, none, (some 18), .mov, [.t 17], []⟩,
    ⟨4, (some (18, false)), (some 19), .mov, [.t 3], []⟩,
    ⟨5, (some (18, false)), (some 20), (.call 62), [.t 19], []⟩,
    ⟨6, (some (18, false)), (some 21), .not, [.t 20], []⟩,
    ⟨7, none, (some 22), .pick, [.t 18, .c (.bool true), .t 21], []⟩,
    ⟨8, none, (some 23), .mov, [.t 22], []⟩,
    ⟨9, (some (23, false)), (some 24), .mov, [.t 2], []⟩,
    ⟨10, (some (23, false)), (some 25), (.bin .lt), [.t 24, .c (.int .i64 0)], []⟩,
    ⟨11, none, (some 26), .pick, [.t 23, .c (.bool true), .t 25], []⟩,
    ⟨12, none, (some 27), .mov, [.t 26], []⟩,
    ⟨13, (some (27, false)), (some 28), .mov, [.t 1], []⟩,
    ⟨14, (some (27, false)), (some 29), .len, [.t 28], []⟩,
    ⟨15, (some (27, false)), (some 30), (.bin .gt), [.t 29, .c (.int .i64 0)], []⟩,
    ⟨16, (some (27, false)), (some 31), .mov, [.t 30], []⟩,
    ⟨17, (some (31, true)), (some 32), .mov, [.t 2], []⟩,
    ⟨18, (some (31, true)), (some 33), .mov, [.t 1], []⟩,
    ⟨19, (some (31, true)), (some 34), .mov, [.t 1], []⟩,
    ⟨20, (some (31, true)), (some 35), .len, [.t 34], []⟩,
    ⟨21, (some (31, true)), (some 36), (.bin .sub), [.t 35, .c (.int .i64 1)], []⟩,
    ⟨22, (some (31, true)), (some 37), (.ix 38), [.t 33, .t 36], []⟩,
    ⟨23, (some (31, true)), (some 38), (.fld 0), [.t 37], []⟩,
    ⟨24, (some (31, true)), (some 39), (.ldh 1 false), [.t 38], []⟩,
    ⟨25, (some (31, true)), (some 40), (.bin .le), [.t 32, .t 39], []⟩,
    ⟨26, (some (27, false)), (some 41), .pick, [.t 31, .t 40, .c (.bool false)], []⟩,
    ⟨27, none, (some 42), .pick, [.t 27, .c (.bool true), .t 41], []⟩] [1, 4, 42] []
def R37_4 : ACode := .reg none [
    ⟨0, none, (some 10), .mov, [.c (.int .i64 1)], []⟩] [10] []
def R37_5 : ACode := .reg none [
    ⟨0, none, (some 43), .mov, [.t 4], []⟩,
    ⟨1, none, (some 44), (.bin .lt), [.t 43, .c (.int .i64 0)], []⟩,
    ⟨2, none, (some 45), .mov, [.t 44], []⟩,
    ⟨3, (some (45, false)), (some 46), .mov, [.t 4], []⟩,
    ⟨4, (some (45, false)), (some 47), (.bin .gt), [.t 46, .c (.int .i64 18014398509481984)], []⟩,
    ⟨5, none, (some 48), .pick, [.t 45, .c (.bool true), .t 47], []⟩] [1, 4, 48] []
def R37_6 : ACode := .reg none [
    ⟨0, none, (some 10), .mov, [.c (.int .i64 2)], []⟩] [10] []
def R37_7 : ACode := .reg none [
    ⟨0, none, (some 11), .mov, [.c (.int .i64 0)], []⟩] [1, 4, 11] []
def R37_8 : ACode := .reg none [
    ⟨0, none, (some 49), .mov, [.t 11], []⟩,
    ⟨1, none, (some 50), .mov, [.t 1], []⟩,
    ⟨2, none, (some 51), .len, [.t 50], []⟩,
    ⟨3, none, (some 52), (.bin .lt), [.t 49, .t 51], []⟩] [1, 4, 11, 52] []
def R37_10 : ACode := .reg none [
    ⟨0, none, (some 55), .mov, [.t 4], []⟩,
    ⟨1, none, (some 56), .mov, [.t 1], []⟩,
    ⟨2, none, (some 57), .mov, [.t 11], []⟩,
    ⟨3, none, (some 58), (.ix 38), [.t 56, .t 57], []⟩,
    ⟨4, none, (some 59), (.fld 37), [.t 58], []⟩,
    ⟨5, none, (some 60), (.ldh 1 false), [.t 59], []⟩,
    ⟨6, none, (some 61), (.bin .lt), [.t 55, .t 60], []⟩] [1, 4, 11, 61] []
def R37_11 : ACode := .reg none [
    ⟨0, none, (some 10), .mov, [.c (.int .i64 9)], []⟩] [10] []
def R37_9 : ACode := .reg none [
    ⟨0, none, (some 53), .mov, [.t 11], []⟩,
    ⟨1, none, (some 54), (.bin .add), [.t 53, .c (.int .i64 1)], []⟩,
    ⟨2, none, (some 11), .mov, [.t 54], []⟩] [1, 4, 11] []
def R37_12 : ACode := .reg none [
    ⟨0, none, (some 10), .mov, [.c (.int .i64 0)], []⟩] [10] []
def C37 : ACode := (.seq R37_0 (.seq (.seq R37_1 (.cond (.t 14) (.seq R37_2 .ret) .skip)) (.seq (.seq R37_3 (.cond (.t 42) (.seq R37_4 .ret) .skip)) (.seq (.seq R37_5 (.cond (.t 48) (.seq R37_6 .ret) .skip)) (.seq (.seq R37_7 (.block 0 (.loop (.seq (.seq R37_8 (.cond (.t 52) .skip (.exit 0))) (.seq (.block 1 (.seq R37_10 (.cond (.t 61) (.seq R37_11 .ret) .skip))) R37_9))))) (.seq R37_12 .ret))))))
def F37 : AFn := ⟨5, 62, [.tmp 10], C37⟩
theorem ok37 : fnOk Try.prog Try.f37 F37 = true := by kernel_rfl
theorem at37 : Try.prog.funcs[37]? = some Try.f37 := by kernel_rfl
/-! seismonet/seismonetref36.Follow -/
def R38_0 : ACode := .reg none [
    ⟨0, none, (some 4), .mov, [.c (.nils)], []⟩] [0, 1] []
def R38_1 : ACode := .reg none [
    ⟨0, none, (some 5), .mov, [.c (.nils)], []⟩] [0, 1, 5] []
def R38_2 : ACode := .reg none [
    ⟨0, none, (some 6), .mov, [.c (.int .i64 0)], []⟩] [0, 1, 5, 6] []
def R38_3 : ACode := .reg none [
    ⟨0, none, (some 10), .mov, [.t 6], []⟩,
    ⟨1, none, (some 11), .mov, [.t 0], []⟩,
    ⟨2, none, (some 12), .len, [.t 11], []⟩,
    ⟨3, none, (some 13), (.bin .lt), [.t 10, .t 12], []⟩] [0, 1, 5, 6, 13] []
def R38_5 : ACode := .reg none [
    ⟨0, none, (some 7), .mov, [.c (.int .i64 (-1))], []⟩] [0, 1, 5, 6, 7] []
def R38_6 : ACode := .reg none [
    ⟨0, none, (some 16), .mov, [.t 0], []⟩,
    ⟨1, none, (some 17), .mov, [.t 6], []⟩,
    ⟨2, none, (some 18), (.ix 38), [.t 16, .t 17], []⟩,
    ⟨3, none, (some 19), (.fld 1), [.t 18], []⟩,
    ⟨4, none, (some 20), (.ldh 1 false), [.t 19], []⟩,
    ⟨5, none, (some 21), .not, [.t 20], []⟩] [0, 1, 5, 6, 7, 21] []
def R38_7 : ACode := .reg none [
    ⟨0, none, (some 22), .mov, [.t 1], []⟩,
    ⟨1, none, (some 23), .mov, [.t 0], []⟩,
    ⟨2, none, (some 24), .mov, [.t 6], []⟩,
    ⟨3, none, (some 25), (.ix 38), [.t 23, .t 24], []⟩,
    ⟨4, none, (some 26), (.fld 2), [.t 25], []⟩,
    ⟨5, none, (some 27), (.ldh 9 true), [.t 26], []⟩,
    ⟨6, none, (some 28), (.callp 63), [.t 22, .t 27], []⟩,
    ⟨7, none, (some 7), .mov, [.t 28], []⟩] [0, 1, 5, 6, 7] []
def R38_8 : ACode := .reg none [
    ⟨0, none, (some 29), .mov, [.t 5], []⟩,
    ⟨1, none, (some 30), .mov, [.t 7], []⟩,
    ⟨2, none, (some 31), (.callp 41), [.t 29, .t 30], []⟩] [0, 1, 5, 6, 7, 31] []
def R38_9 : ACode := .reg none [
    ⟨0, none, (some 7), .mov, [.c (.int .i64 (-1))], []⟩] [0, 1, 5, 6, 7] []
def R38_10 : ACode := .reg none [
    ⟨0, none, (some 32), .mov, [.t 5], []⟩,
    ⟨1, none, (some 33), .mov, [.t 7], []⟩,
    ⟨2, none, (some 34), (.bslice 1 1 [.int .i64 0] [0]), [.t 33], []⟩,
    ⟨3, none, (some 35), (.appm [.int .i64 0] 17592186044416), [.t 32, .t 34], []⟩,
    ⟨4, none, (some 5), .mov, [.t 35], []⟩] [0, 1, 5, 6] []
def R38_4 : ACode := .reg none [
    ⟨0, none, (some 14), .mov, [.t 6], []⟩,
    ⟨1, none, (some 15), (.bin .add), [.t 14, .c (.int .i64 1)], []⟩,
    ⟨2, none, (some 6), .mov, [.t 15], []⟩] [0, 1, 5, 6] []
def R38_11 : ACode := .reg none [
    ⟨0, none, (some 8), .mov, [.c (.int .i64 0)], []⟩] [0, 1, 5, 8] []
def R38_12 : ACode := .reg none [
    ⟨0, none, (some 36), .mov, [.t 8], []⟩,
    ⟨1, none, (some 37), .mov, [.t 0], []⟩,
    ⟨2, none, (some 38), .len, [.t 37], []⟩,
    ⟨3, none, (some 39), (.bin .lt), [.t 36, .t 38], []⟩] [0, 1, 5, 8, 39] []
def R38_14 : ACode := .reg none [
    ⟨0, none, (some 9), .mov, [.c (.int .i64 0)], []⟩] [0, 1, 5, 8, 9] []
def R38_15 : ACode := .reg none [
    ⟨0, none, (some 42), .mov, [.t 9], []⟩,
    ⟨1, none, (some 43), .mov, [.t 1], []⟩,
    ⟨2, none, (some 44), .len, [.t 43], []⟩,
    ⟨3, none, (some 45), (.bin .lt), [.t 42, .t 44], []⟩,
    ⟨4, none, (some 46), .mov, [.t 45], []⟩,
    ⟨5, (some (46, true)), (some 47), .mov, [.t 5], []⟩,
    ⟨6, (some (46, true)), (some 48), .mov, [.t 8], []⟩,
    ⟨7, (some (46, true)), (some 49), (.ix 1), [.t 47, .t 48], []⟩,
    ⟨8, (some (46, true)), (some 50), (.ldh 1 false), [.t 49], []⟩,
    ⟨9, (some (46, true)), (some 51), (.bin .lt), [.t 50, .c (.int .i64 0)], []⟩,
    ⟨10, none, (some 52), .pick, [.t 46, .t 51, .c (.bool false)], []⟩,
    ⟨11, none, (some 53), .mov, [.t 52], []⟩,
    ⟨12, (some (53, true)), (some 54), .mov, [.t 0], []⟩,
    ⟨13, (some (53, true)), (some 55), .mov, [.t 8], []⟩,
    ⟨14, (some (53, true)), (some 56), (.ix 38), [.t 54, .t 55], []⟩,
    ⟨15, (some (53, true)), (some 57), (.fld 1), [.t 56], []⟩,
    ⟨16, (some (53, true)), (some 58), (.ldh 1 false), [.t 57], []⟩,
    ⟨17, (some (53, true)), (some 59), .not, [.t 58], []⟩,
    ⟨18, none, (some 60), .pick, [.t 53, .t 59, .c (.bool false)], []⟩] [0, 1, 5, 8, 9, 60] []
def R38_17 : ACode := .reg (some [0, 0, 3, 7, 15, 31, 31, 127, 255, 511, 1023, 2047, 31, 31, 12319, 28703, 61471, 127007, 262143, 524287]) [
    ⟨0, none, (some 63), .mov, [.t 5], []⟩,
    ⟨1, none, (some 64), .mov, [.t 9], []⟩,
    ⟨2, none, (some 65), (.callp 41), [.t 63, .t 64], []⟩,
    ⟨3, none, (some 66), .not, [.t 65], []⟩,
    ⟨4, none, (some 67), .mov, [.t 66], []⟩,
    ⟨5, (some (67, true)), (some 68), .mov, [.t 0], []⟩,
    ⟨6, (some (67, true)), (some 69), .mov, [.t 8], []⟩,
    ⟨7, (some (67, true)), (some 70), (.ix 38), [.t 68, .t 69], []⟩,
    ⟨8, (some (67, true)), (some 71), (.fld 12), [.t 70], []⟩,
    ⟨9, (some (67, true)), (some 72), (.fld 9), [.t 71], []⟩,
    ⟨10, (some (67, true)), (some 73), (.fld 0), [.t 72], []⟩,
    ⟨11, (some (67, true)), (some 74), (.ldh 1 false), [.t 73], []⟩,
    ⟨12, (some (67, true)), (some 75), .mov, [.t 1], []⟩,
    ⟨13, (some (67, true)), (some 76), .mov, [.t 9], []⟩,
    ⟨14, (some (67, true)), (some 77), (.ix 25), [.t 75, .t 76], []⟩,
    ⟨15, (some (67, true)), (some 78), (.fld 9), [.t 77], []⟩,
    ⟨16, (some (67, true)), (some 79), (.fld 0), [.t 78], []⟩,
    ⟨17, (some (67, true)), (some 80), (.ldh 1 false), [.t 79], []⟩,
    ⟨18, (some (67, true)), (some 81), (.callp 64), [.t 74, .t 80], []⟩,
    ⟨19, none, (some 82), .pick, [.t 67, .t 81, .c (.bool false)], []⟩] [0, 1, 5, 8, 9, 82] []
def R38_18 : ACode := .reg none [
    ⟨0, none, (some 83), .mov, [.t 5], []⟩,
    ⟨1, none, (some 84), .mov, [.t 8], []⟩,
    ⟨2, none, (some 85), .mov, [.t 9], []⟩,
    ⟨3, none, (some 86), (.ix 1), [.t 83, .t 84], []⟩,
    ⟨4, none, none, (.sth 1), [.t 86, .t 85], []⟩] [0, 1, 5, 8, 9] []
def R38_16 : ACode := .reg none [
    ⟨0, none, (some 61), .mov, [.t 9], []⟩,
    ⟨1, none, (some 62), (.bin .add), [.t 61, .c (.int .i64 1)], []⟩,
    ⟨2, none, (some 9), .mov, [.t 62], []⟩] [0, 1, 5, 8, 9] []
def R38_13 : ACode := .reg none [
    ⟨0, none, (some 40), .mov, [.t 8], []⟩,
    ⟨1, none, (some 41), (.bin .add), [.t 40, .c (.int .i64 1)], []⟩,
    ⟨2, none, (some 8), .mov, [.t 41], []⟩] [0, 1, 5, 8] []
def R38_19 : ACode := .reg none [
    ⟨0, none, (some 87), .mov, [.t 5], []⟩,
    ⟨1, none, (some 4), .mov, [.t 87], []⟩] [4] []
def C38 : ACode := (.seq R38_0 (.seq R38_1 (.seq (.seq R38_2 (.block 0 (.loop (.seq (.seq R38_3 (.cond (.t 13) .skip (.exit 0))) (.seq (.block 1 (.seq R38_5 (.seq (.seq R38_6 (.cond (.t 21) R38_7 .skip)) (.seq (.seq R38_8 (.cond (.t 31) R38_9 .skip)) R38_10)))) R38_4))))) (.seq (.seq R38_11 (.block 2 (.loop (.seq (.seq R38_12 (.cond (.t 39) .skip (.exit 2))) (.seq (.block 3 (.seq R38_14 (.block 4 (.loop (.seq (.seq R38_15 (.cond (.t 60) .skip (.exit 4))) (.seq (.block 5 (.seq R38_17 (.cond (.t 82) R38_18 .skip))) R38_16)))))) R38_13))))) (.seq R38_19 (.seq (.frz 4) .ret))))))
def F38 : AFn := ⟨2, 88, [.tmp 4], C38⟩
theorem ok38 : fnOk Try.prog Try.f38 F38 = true := by kernel_rfl
theorem at38 : Try.prog.funcs[38]? = some Try.f38 := by kernel_rfl
/-! seismonet/seismonetref35.Level -/
def R39_0 : ACode := .reg none [
    ⟨0, none, (some 2), (.boxl 2), [.t 0], []⟩,
    ⟨1, none, (some 3), (.boxl 3), [.t 1], []⟩,
    ⟨2, none, (some 4), .mov, [.c (.int .i64 0)], []⟩] [2, 3] [2, 3]
def R39_1 : ACode := .reg none [
    ⟨0, none, (some 5), .mov, [.c (.int .i64 0)], []⟩] [2, 3, 5] [2, 3]
def R39_2 : ACode := .reg none [
    ⟨0, none, (some 6), .mov, [.c (.int .i64 0)], []⟩] [2, 3, 5, 6] [2, 3]
def R39_3 : ACode := .reg none [
    ⟨0, none, (some 7), .mov, [.t 6], []⟩,
    ⟨1, none, (some 8), (.fld 0), [.t 2], []⟩,
    ⟨2, none, (some 9), (.ld 1 false), [.t 8], []⟩,
    ⟨3, none, (some 10), .len, [.t 9], []⟩,
    ⟨4, none, (some 11), (.bin .lt), [.t 7, .t 10], []⟩,
    ⟨5, none, (some 12), .mov, [.t 11], []⟩,
    ⟨6, (some (12, true)), (some 13), (.ld 3 true), [.t 2], []⟩,
    ⟨7, (some (12, true)), (some 14), (.callp 60), [.t 13], []⟩,
    ⟨8, (some (12, true)), (some 15), (.bin .eq), [.t 14, .c (.int .i64 0)], []⟩,
    ⟨9, none, (some 16), .pick, [.t 12, .t 15, .c (.bool false)], []⟩] [2, 3, 5, 6, 16] [2, 3]
def R39_5 : ACode := .reg (some [0, 1, 0, 7, 15, 0, 63]) [
    ⟨0, none, (some 19), (.fld 0), [.t 2], []⟩,
    ⟨1, none, (some 20), (.ld 1 false), [.t 19], []⟩,
    ⟨2, none, (some 21), .mov, [.t 6], []⟩,
    ⟨3, none, (some 22), (.ix 4), [.t 20, .t 21], []⟩,
    ⟨4, none, (some 23), (.ldh 4 true), [.t 22], []⟩,
    ⟨5, none, (some 24), (.ld 25 true), [.t 3], []⟩,
    ⟨6, none, (some 25), (.callp 65), [.t 23, .t 24], []⟩] [2, 3, 5, 6, 25] [2, 3]
def R39_6 : ACode := .reg none [
    ⟨0, none, (some 26), .mov, [.t 6], []⟩,
    ⟨1, none, (some 27), (.bin .add), [.t 26, .c (.int .i64 1)], []⟩,
    ⟨2, none, (some 5), .mov, [.t 27], []⟩] [2, 3, 5, 6] [2, 3]
def R39_4 : ACode := .reg none [
    ⟨0, none, (some 17), .mov, [.t 6], []⟩,
    ⟨1, none, (some 18), (.bin .add), [.t 17, .c (.int .i64 1)], []⟩,
    ⟨2, none, (some 6), .mov, [.t 18], []⟩] [2, 3, 5, 6] [2, 3]
def R39_7 : ACode := .reg none [
    ⟨0, none, (some 28), .mov, [.t 5], []⟩,
    ⟨1, none, (some 4), .mov, [.t 28], []⟩] [4] []
def C39 : ACode := (.seq R39_0 (.seq R39_1 (.seq (.seq R39_2 (.block 0 (.loop (.seq (.seq R39_3 (.cond (.t 16) .skip (.exit 0))) (.seq (.block 1 (.seq R39_5 (.cond (.t 25) R39_6 .skip))) R39_4))))) (.seq R39_7 .ret))))
def F39 : AFn := ⟨2, 29, [.tmp 4], C39⟩
theorem ok39 : fnOk Try.prog Try.f39 F39 = true := by kernel_rfl
theorem at39 : Try.prog.funcs[39]? = some Try.f39 := by kernel_rfl
/-! seismonet/seismonetref35.Moved -/
def R40_0 : ACode := .reg none [
    ⟨0, none, (some 3), (.boxl 3), [.t 0], []⟩,
    ⟨1, none, (some 4), (.boxl 4), [.t 1], []⟩,
    ⟨2, none, (some 5), (.boxl 5), [.t 2], []⟩,
    ⟨3, none, (some 6), .mov, [.c (.bool false)], []⟩] [3, 4, 5] [3, 4, 5]
def R40_1 : ACode := .reg none [
    ⟨0, none, (some 9), (.ld 3 true), [.t 3], []⟩,
    ⟨1, none, (some 10), (.callp 60), [.t 9], []⟩,
    ⟨2, none, (some 11), (.bin .ne), [.t 10, .c (.int .i64 0)], []⟩] [3, 4, 5, 11] [3, 4, 5]
def R40_2 : ACode := .reg none [
    ⟨0, none, (some 6), .mov, [.c (.bool false)], []⟩] [6] []
def R40_3 : ACode := .reg (some [0, 1, 3, 0, 8, 24, 0, 0, 199, 511]) [
    ⟨0, none, (some 12), (.fld 9), [.t 4], []⟩,
    ⟨1, none, (some 13), (.fld 1), [.t 12], []⟩,
    ⟨2, none, (some 14), (.ld 12 true), [.t 13], []⟩,
    ⟨3, none, (some 15), (.fld 9), [.t 5], []⟩,
    ⟨4, none, (some 16), (.fld 1), [.t 15], []⟩,
    ⟨5, none, (some 17), (.ld 12 true), [.t 16], []⟩,
    ⟨6, none, (some 7), (.newl 7 [.int .i64 0, .int .i64 0, .int .i64 0, .int .i64 0, .int .i64 0, .int .i64 0, .int .i64 0, .int .i64 0, .int .i64 0, .int .i64 0, .int .i64 0, .int .i64 0]), [], []⟩,
    ⟨7, none, (some 8), (.newl 8 [.int .i64 0, .int .i64 0, .int .i64 0, .int .i64 0, .int .i64 0, .int .i64 0, .int .i64 0, .int .i64 0, .int .i64 0, .int .i64 0, .int .i64 0, .int .i64 0]), [], []⟩,
    ⟨8, none, none, (.st 12), [.t 7, .t 14], [(.t 16, 12, true)]⟩,
    ⟨9, none, none, (.st 12), [.t 8, .t 17], []⟩] [3, 4, 5, 7, 8] [3, 4, 5, 7, 8]
def R40_4 : ACode := .reg (some [0, 0, 3, 0, 0, 31, 63, 127, 255, 511, 1023, 255, 2303, 6399, 16383, 32767, 65535]) [
    ⟨0, none, (some 18), (.ld 3 true), [.t 3], []⟩,
    ⟨1, none, (some 19), (.ld 25 true), [.t 4], []⟩,
    ⟨3, none, (some 21), (.ld 3 true), [.t 3], []⟩,
    ⟨4, none, (some 22), (.ld 25 true), [.t 5], []⟩,
    ⟨2, none, (some 20), (.callp 39), [.t 18, .t 19], []⟩,
    ⟨5, none, (some 23), (.callp 39), [.t 21, .t 22], []⟩,
    ⟨6, none, (some 24), (.bin .ne), [.t 20, .t 23], []⟩,
    ⟨7, none, (some 25), .mov, [.t 24], []⟩,
    ⟨8, (some (25, false)), (some 26), (.fld 9), [.t 4], []⟩,
    ⟨9, (some (25, false)), (some 27), (.fld 13), [.t 26], []⟩,
    ⟨10, (some (25, false)), (some 28), (.ld 2 true), [.t 27], []⟩,
    ⟨11, (some (25, false)), (some 29), (.fld 9), [.t 5], []⟩,
    ⟨12, (some (25, false)), (some 30), (.fld 13), [.t 29], []⟩,
    ⟨13, (some (25, false)), (some 31), (.ld 2 true), [.t 30], []⟩,
    ⟨14, (some (25, false)), (some 32), (.callp 66), [.t 28, .t 31], []⟩,
    ⟨15, (some (25, false)), (some 33), .not, [.t 32], []⟩,
    ⟨16, none, (some 34), .pick, [.t 25, .c (.bool true), .t 33], []⟩] [3, 7, 8, 34] [3, 7, 8]
def R40_5 : ACode := .reg none [
    ⟨0, none, (some 6), .mov, [.c (.bool true)], []⟩] [6] []
def R40_6 : ACode := .reg (some [0, 1, 3, 7, 15, 31, 15, 79, 255, 15, 527, 15, 2063, 7695, 16383, 32767]) [
    ⟨0, none, (some 35), (.fld 1), [.t 3], []⟩,
    ⟨1, none, (some 36), (.ld 1 false), [.t 35], []⟩,
    ⟨2, none, (some 37), (.bin .le), [.t 36, .c (.int .i64 4194304)], []⟩,
    ⟨3, none, (some 38), .mov, [.t 37], []⟩,
    ⟨4, (some (38, true)), (some 39), (.fld 0), [.t 7], []⟩,
    ⟨5, (some (38, true)), (some 40), (.ld 3 true), [.t 39], []⟩,
    ⟨6, (some (38, true)), (some 41), (.fld 0), [.t 8], []⟩,
    ⟨7, (some (38, true)), (some 42), (.ld 3 true), [.t 41], []⟩,
    ⟨9, (some (38, true)), (some 44), (.fld 1), [.t 3], []⟩,
    ⟨10, (some (38, true)), (some 45), (.ld 1 false), [.t 44], []⟩,
    ⟨11, (some (38, true)), (some 46), (.fld 1), [.t 3], []⟩,
    ⟨12, (some (38, true)), (some 47), (.ld 1 false), [.t 46], []⟩,
    ⟨13, (some (38, true)), (some 48), (.bin .mul), [.t 45, .t 47], []⟩,
    ⟨8, (some (38, true)), (some 43), (.callp 67), [.t 40, .t 42], []⟩,
    ⟨14, (some (38, true)), (some 49), (.bin .gt), [.t 43, .t 48], []⟩,
    ⟨15, none, (some 50), .pick, [.t 38, .t 49, .c (.bool false)], []⟩] [3, 7, 8, 50] [3, 7, 8]
def R40_7 : ACode := .reg none [
    ⟨0, none, (some 6), .mov, [.c (.bool true)], []⟩] [6] []
def R40_8 : ACode := .reg none [
    ⟨0, none, (some 51), (.fld 3), [.t 7], []⟩,
    ⟨1, none, (some 52), (.ld 1 false), [.t 51], []⟩,
    ⟨2, none, (some 53), (.fld 3), [.t 8], []⟩,
    ⟨3, none, (some 54), (.ld 1 false), [.t 53], []⟩,
    ⟨4, none, (some 55), (.bin .sub), [.t 52, .t 54], []⟩,
    ⟨5, none, (some 56), (.fld 3), [.t 8], []⟩,
    ⟨6, none, (some 57), (.ld 1 false), [.t 56], []⟩,
    ⟨7, none, (some 58), (.fld 3), [.t 7], []⟩,
    ⟨8, none, (some 59), (.ld 1 false), [.t 58], []⟩,
    ⟨9, none, (some 60), (.bin .sub), [.t 57, .t 59], []⟩,
    ⟨10, none, (some 61), .mx, [.t 55, .t 60], []⟩,
    ⟨11, none, (some 62), (.fld 1), [.t 3], []⟩,
    ⟨12, none, (some 63), (.ld 1 false), [.t 62], []⟩,
    ⟨13, none, (some 64), (.bin .gt), [.t 61, .t 63], []⟩,
    ⟨14, none, (some 6), .mov, [.t 64], []⟩] [6] []
def C40 : ACode := (.seq R40_0 (.seq (.seq R40_1 (.cond (.t 11) (.seq R40_2 .ret) .skip)) (.seq R40_3 (.seq (.seq R40_4 (.cond (.t 34) (.seq R40_5 .ret) .skip)) (.seq (.seq R40_6 (.cond (.t 50) (.seq R40_7 .ret) .skip)) (.seq R40_8 .ret))))))
def F40 : AFn := ⟨3, 65, [.tmp 6], C40⟩
theorem ok40 : fnOk Try.prog Try.f40 F40 = true := by kernel_rfl
theorem at40 : Try.prog.funcs[40]? = some Try.f40 := by kernel_rfl
/-! seismonet/seismonetref36.in -/
def R41_0 : ACode := .reg none [
    ⟨0, none, (some 4), .mov, [.c (.bool false)], []⟩] [0, 1] []
def R41_1 : ACode := .reg none [
    ⟨0, none, (some 5), .mov, [.c (.int .i64 0)], []⟩] [0, 1, 5] []
def R41_2 : ACode := .reg none [
    ⟨0, none, (some 6), .mov, [.t 5], []⟩,
    ⟨1, none, (some 7), .mov, [.t 0], []⟩,
    ⟨2, none, (some 8), .len, [.t 7], []⟩,
    ⟨3, none, (some 9), (.bin .lt), [.t 6, .t 8], []⟩] [0, 1, 5, 9] []
def R41_4 : ACode := .reg none [
    ⟨0, none, (some 12), .mov, [.t 0], []⟩,
    ⟨1, none, (some 13), .mov, [.t 5], []⟩,
    ⟨2, none, (some 14), (.ix 1), [.t 12, .t 13], []⟩,
    ⟨3, none, (some 15), (.ldh 1 false), [.t 14], []⟩,
    ⟨4, none, (some 16), .mov, [.t 1], []⟩,
    ⟨5, none, (some 17), (.bin .eq), [.t 15, .t 16], []⟩] [0, 1, 5, 17] []
def R41_5 : ACode := .reg none [
    ⟨0, none, (some 4), .mov, [.c (.bool true)], []⟩] [4] []
def R41_3 : ACode := .reg none [
    ⟨0, none, (some 10), .mov, [.t 5], []⟩,
    ⟨1, none, (some 11), (.bin .add), [.t 10, .c (.int .i64 1)], []⟩,
    ⟨2, none, (some 5), .mov, [.t 11], []⟩] [0, 1, 5] []
def R41_6 : ACode := .reg none [
    ⟨0, none, (some 4), .mov, [.c (.bool false)], []⟩] [4] []
def C41 : ACode := (.seq R41_0 (.seq (.seq R41_1 (.block 0 (.loop (.seq (.seq R41_2 (.cond (.t 9) .skip (.exit 0))) (.seq (.block 1 (.seq R41_4 (.cond (.t 17) (.seq R41_5 .ret) .skip))) R41_3))))) (.seq R41_6 .ret)))
def F41 : AFn := ⟨2, 18, [.tmp 4], C41⟩
theorem ok41 : fnOk Try.prog Try.f41 F41 = true := by kernel_rfl
theorem at41 : Try.prog.funcs[41]? = some Try.f41 := by kernel_rfl
/-! seismonet/seismonetref35.Timely -/
def R42_0 : ACode := .reg none [
    ⟨0, none, (some 3), (.boxl 3), [.t 0], []⟩,
    ⟨1, none, (some 4), (.boxl 4), [.t 1], []⟩,
    ⟨2, none, (some 6), .mov, [.c (.bool false)], []⟩] [2, 3, 4] [3, 4]
def R42_1 : ACode := .reg none [
    ⟨0, none, (some 9), (.ld 3 true), [.t 3], []⟩,
    ⟨1, none, (some 10), (.ld 25 true), [.t 4], []⟩,
    ⟨2, none, (some 11), (.callp 39), [.t 9, .t 10], []⟩,
    ⟨3, none, (some 7), .mov, [.t 11], []⟩] [2, 3, 4, 7] [3, 4]
def R42_2 : ACode := .reg none [
    ⟨0, none, (some 12), .mov, [.t 7], []⟩,
    ⟨1, none, (some 13), (.bin .eq), [.t 12, .c (.int .i64 0)], []⟩] [2, 3, 4, 7, 13] [3, 4]
def R42_3 : ACode := .reg none [
    ⟨0, none, (some 6), .mov, [.c (.bool false)], []⟩] [6] []
def R42_4 : ACode := .reg none [
    ⟨0, none, (some 14), .mov, [.t 2], []⟩,
    ⟨1, none, (some 15), (.fld 9), [.t 4], []⟩,
    ⟨2, none, (some 16), (.fld 1), [.t 15], []⟩,
    ⟨3, none, (some 17), (.fld 3), [.t 16], []⟩,
    ⟨4, none, (some 18), (.ld 1 false), [.t 17], []⟩,
    ⟨5, none, (some 19), (.bin .sub), [.t 14, .t 18], []⟩,
    ⟨6, none, (some 8), .mov, [.t 19], []⟩] [3, 7, 8] [3]
def R42_5 : ACode := .reg none [
    ⟨0, none, (some 20), .mov, [.t 8], []⟩,
    ⟨1, none, (some 21), (.bin .ge), [.t 20, .c (.int .i64 0)], []⟩,
    ⟨2, none, (some 22), .mov, [.t 21], []⟩,
    ⟨3, (some (22, true)), (some 23), .mov, [.t 8], []⟩,
    ⟨4, (some (22, true)), (some 24), (.fld 0), [.t 3], []⟩,
    ⟨5, (some (22, true)), (some 25), (.ld 1 false), [.t 24], []⟩,
    ⟨6, (some (22, true)), (some 26), .mov, [.t 7], []⟩,
    ⟨7, (some (22, true)), (some 27), (.bin .sub), [.t 26, .c (.int .i64 1)], []⟩,
    ⟨8, (some (22, true)), (some 28), (.ix 4), [.t 25, .t 27], []⟩,
    ⟨9, (some (22, true)), (some 29), (.fld 3), [.t 28], []⟩,
    ⟨10, (some (22, true)), (some 30), (.ldh 1 false), [.t 29], []⟩,
    ⟨11, (some (22, true)), (some 31), (.bin .le), [.t 23, .t 30], []⟩,
    ⟨12, none, (some 32), .pick, [.t 22, .t 31, .c (.bool false)], []⟩,
    ⟨13, none, (some 6), .mov, [.t 32], []⟩] [6] []
def C42 : ACode := (.seq R42_0 (.seq R42_1 (.seq (.seq R42_2 (.cond (.t 13) (.seq R42_3 .ret) .skip)) (.seq R42_4 (.seq R42_5 .ret)))))
def F42 : AFn := ⟨3, 33, [.tmp 6], C42⟩
theorem ok42 : fnOk Try.prog Try.f42 F42 = true := by kernel_rfl
theorem at42 : Try.prog.funcs[42]? = some Try.f42 := by kernel_rfl
/-! (*seismonet/seismonetkeep.Src).Place -/
def R43_0 : ACode := .reg none [
    ⟨0, none, (some 4), (.newl 4 [.int .i64 0, .int .i64 0, .int .i64 0]), [], []⟩] [0, 1, 4] [4]
def R43_1 : ACode := .reg none [
    ⟨0, none, (some 5), .mov, [.t 0], []⟩,
    ⟨1, none, (some 6), .mov, [.t 1], []⟩,
    ⟨2, none, (some 7), (.bin .mul), [.c (.int .i64 2), .t 6], []⟩,
    ⟨3, none, (some 8), (.bin .add), [.t 7, .c (.int .i64 1)], []⟩,
    ⟨4, none, (some 9), (.call 9), [.t 5, .t 8], []⟩,
    ⟨5, none, (some 10), .mov, [.t 1], []⟩,
    ⟨6, none, (some 11), (.bin .sub), [.t 9, .t 10], []⟩,
    ⟨7, none, (some 12), .mov, [.t 0], []⟩,
    ⟨8, none, (some 13), .mov, [.t 1], []⟩,
    ⟨9, none, (some 14), (.bin .mul), [.c (.int .i64 2), .t 13], []⟩,
    ⟨10, none, (some 15), (.bin .add), [.t 14, .c (.int .i64 1)], []⟩,
    ⟨11, none, (some 16), (.call 9), [.t 12, .t 15], []⟩,
    ⟨12, none, (some 17), .mov, [.t 1], []⟩,
    ⟨13, none, (some 18), (.bin .sub), [.t 16, .t 17], []⟩,
    ⟨14, none, (some 19), .mov, [.t 0], []⟩,
    ⟨15, none, (some 20), .mov, [.t 1], []⟩,
    ⟨16, none, (some 21), (.bin .add), [.t 20, .c (.int .i64 1)], []⟩,
    ⟨17, none, (some 22), (.call 9), [.t 19, .t 21], []⟩,
    ⟨18, none, (some 23), (.build [.int .i64 0, .int .i64 0, .int .i64 0] [(0, 1), (1, 1), (2, 1)]), [.t 11, .t 18, .t 22], []⟩,
    ⟨19, none, none, (.st 3), [.t 4, .t 23], []⟩] [4] [4]
def C43 : ACode := (.seq R43_0 (.seq R43_1 .ret))
def F43 : AFn := ⟨2, 24, [.cell 4 3 true false], C43⟩
theorem ok43 : fnOk Try.prog Try.f43 F43 = true := by kernel_rfl
theorem at43 : Try.prog.funcs[43]? = some Try.f43 := by kernel_rfl
/-! seismonet/rule.Validate -/
def R44_0 : ACode := .reg none [
    ⟨0, none, (some 1), (.boxl 1), [.t 0], []⟩,
    ⟨1, none, (some 2), .mov, [.c (.int .i64 0)], []⟩] [1] [1]
def R44_1 : ACode := .reg none [
    ⟨0, none, (some 5), (.fld 0), [.t 1], []⟩,
    ⟨1, none, (some 6), (.ld 1 false), [.t 5], []⟩,
    ⟨2, none, (some 7), .len, [.t 6], []⟩,
    ⟨3, none, (some 8), (.bin .lt), [.t 7, .c (.int .i64 1)], []⟩,
    ⟨4, none, (some 9), .mov, [.t 8], []⟩,
    ⟨5, (some (9, false)), (some 10), (.fld 0), [.t 1], []⟩,
    ⟨6, (some (9, false)), (some 11), (.ld 1 false), [.t 10], []⟩,
    ⟨7, (some (9, false)), (some 12), .len, [.t 11], []⟩,
    ⟨8, (some (9, false)), (some 13), (.bin .gt), [.t 12, .c (.int .i64 8)], []⟩,
    ⟨9, none, (some 14), .pick, [.t 9, .c (.bool true), .t 13], []⟩,
    ⟨10, none, (some 15), .mov, [.t 14], []⟩,
    ⟨11, (some (15, false)), (some 16), (.fld 1), [.t 1], []⟩,
    ⟨12, (some (15, false)), (some 17), (.ld 1 false), [.t 16], []⟩,
    ⟨13, (some (15, false)), (some 18), (.fld 2), [.t 1], []⟩,
    ⟨14, (some (15, false)), (some 19), (.ld 1 false), [.t 18], []⟩,
    ⟨15, (some (15, false)), (some 20), .mn, [.t 17, .t 19], []⟩,
    ⟨16, (some (15, false)), (some 21), (.bin .lt), [.t 20, .c (.int .i64 0)], []⟩,
    ⟨17, none, (some 22), .pick, [.t 15, .c (.bool true), .t 21], []⟩,
    ⟨18, none, (some 23), .mov, [.t 22], []⟩,
    ⟨19, (some (23, false)), (some 24), (.fld 1), [.t 1], []⟩,
    ⟨20, (some (23, false)), (some 25), (.ld 1 false), [.t 24], []⟩,
    ⟨21, (some (23, false)), (some 26), (.fld 2), [.t 1], []⟩,
    ⟨22, (some (23, false)), (some 27), (.ld 1 false), [.t 26], []⟩,
    ⟨23, (some (23, false)), (some 28), .mx, [.t 25, .t 27], []⟩,
    ⟨24, (some (23, false)), (some 29), (.bin .gt), [.t 28, .c (.int .i64 9007199254740992)], []⟩,
    ⟨25, none, (some 30), .pick, [.t 23, .c (.bool true), .t 29], []⟩] [1, 30] [1]
def R44_2 : ACode := .reg none [
    ⟨0, none, (some 2), .mov, [.c (.int .i64 27)], []⟩] [2] []
def R44_3 : ACode := .reg none [
    ⟨0, none, (some 31), (.fld 0), [.t 1], []⟩,
    ⟨1, none, (some 32), (.ld 1 false), [.t 31], []⟩,
    ⟨2, none, (some 33), .len, [.t 32], []⟩,
    ⟨3, none, (some 34), .mov, [.c (.int .i64 0)], []⟩] [32, 33, 34] []
def R44_4 : ACode := .reg none [
    ⟨0, none, (some 35), (.bin .lt), [.t 34, .t 33], []⟩] [32, 33, 34, 35] []
def R44_5 : ACode := .reg none [
    ⟨0, none, (some 36), (.ix 4), [.t 32, .t 34], []⟩,
    ⟨1, none, (some 37), (.ldh 4 true), [.t 36], []⟩,
    ⟨2, none, (some 4), (.newl 4 [.int .i64 0, .int .i64 0, .int .i64 0, .int .i64 0]), [], []⟩,
    ⟨3, none, none, (.st 4), [.t 4, .t 37], []⟩] [4, 32, 33, 34] [4]
def R44_6 : ACode := .reg none [
    ⟨0, none, (some 38), (.ld 4 true), [.t 4], []⟩,
    ⟨1, none, (some 39), (.callp 68), [.t 38], []⟩,
    ⟨2, none, (some 40), .not, [.t 39], []⟩] [32, 33, 34, 40] []
def R44_7 : ACode := .reg none [
    ⟨0, none, (some 2), .mov, [.c (.int .i64 27)], []⟩] [2] []
def R44_8 : ACode := .reg none [
    ⟨0, none, (some 41), (.bin .add), [.t 34, .c (.int .i64 1)], []⟩,
    ⟨1, none, (some 34), .mov, [.t 41], []⟩] [32, 33, 34] []
def R44_9 : ACode := .reg none [
    ⟨0, none, (some 2), .mov, [.c (.int .i64 0)], []⟩] [2] []
def C44 : ACode := (.seq R44_0 (.seq (.seq R44_1 (.cond (.t 30) (.seq R44_2 .ret) .skip)) (.seq (.seq R44_3 (.block 0 (.loop (.seq R44_4 (.seq (.cond (.t 35) .skip (.exit 0)) (.seq (.block 1 (.seq R44_5 (.seq R44_6 (.cond (.t 40) (.seq R44_7 .ret) .skip)))) R44_8)))))) (.seq R44_9 .ret))))
def F44 : AFn := ⟨1, 42, [.tmp 2], C44⟩
theorem ok44 : fnOk Try.prog Try.f44 F44 = true := by kernel_rfl
theorem at44 : Try.prog.funcs[44]? = some Try.f44 := by kernel_rfl
/-! seismonet/event.Valid -/
def R45_0 : ACode := .reg none [
    ⟨0, none, (some 2), .mov, [.c (.bool false)], []⟩] [0] []
def R45_1 : ACode := .reg none [
    ⟨0, none, (some 11), (.mml 11 true [1, 1, 1, 1, 6, 6, 6, 6, 6]), [], []⟩,
    ⟨1, none, (some 3), .mov, [.t 11], []⟩] [0, 3] [11]
def R45_2 : ACode := .reg none [
    ⟨0, none, (some 12), .mov, [.t 0], []⟩,
    ⟨1, none, (some 13), .len, [.t 12], []⟩,
    ⟨2, none, (some 14), .mov, [.c (.int .i64 0)], []⟩] [0, 3, 12, 13, 14] [11]
def R45_3 : ACode := .reg none [
    ⟨0, none, (some 15), (.bin .lt), [.t 14, .t 13], []⟩] [0, 3, 12, 13, 14, 15] [11]
def R45_4 : ACode := .reg none [
    ⟨0, none, (some 16), .mov, [.t 14], []⟩,
    ⟨1, none, (some 17), (.ix 25), [.t 12, .t 14], []⟩,
    ⟨2, none, (some 18), (.ldh 25 true), [.t 17], []⟩,
    ⟨3, none, (some 5), (.newl 5 [.str ⟨#[]⟩, .str ⟨#[]⟩, .str ⟨#[]⟩, .str ⟨#[]⟩, .int .i64 0, .int .i64 0, .int .i64 0, .int .i64 0, .int .i64 0, .nils, .int .i64 0, .int .i64 0, .int .i64 0, .int .i64 0, .int .i64 0, .int .i64 0, .int .i64 0, .int .i64 0, .int .i64 0, .int .i64 0, .int .i64 0, .int .i64 0, .int .i64 0, .int .i64 0, .int .i64 0]), [], []⟩,
    ⟨4, none, (some 4), .mov, [.t 16], []⟩,
    ⟨5, none, none, (.st 25), [.t 5, .t 18], []⟩] [0, 3, 4, 5, 12, 13, 14] [5, 11]
def R45_5 : ACode := .reg none [
    ⟨0, none, (some 19), (.fld 9), [.t 5], []⟩,
    ⟨1, none, (some 20), (.fld 0), [.t 19], []⟩,
    ⟨2, none, (some 21), (.ld 1 false), [.t 20], []⟩,
    ⟨3, none, (some 6), .mov, [.t 21], []⟩] [0, 3, 4, 5, 6, 12, 13, 14] [5, 11]
def R45_6 : ACode := .reg (some [0, 1, 3, 7, 15, 31, 63, 127, 255, 511, 1023, 511, 2559, 8191, 16383, 32767, 65535, 131071, 262143, 524287, 524287, 1572863, 4194303, 8388607, 16777215, 524287, 34078719, 134217727, 268435455, 536870911, 1073741823]) [
    ⟨0, none, (some 22), .mov, [.t 6], []⟩,
    ⟨1, none, (some 23), .len, [.t 22], []⟩,
    ⟨2, none, (some 24), (.bin .eq), [.t 23, .c (.int .i64 0)], []⟩,
    ⟨3, none, (some 25), .mov, [.t 24], []⟩,
    ⟨4, (some (25, false)), (some 26), .mov, [.t 6], []⟩,
    ⟨5, (some (25, false)), (some 27), (.callp 69), [.t 26], []⟩,
    ⟨6, (some (25, false)), (some 28), .not, [.t 27], []⟩,
    ⟨7, none, (some 29), .pick, [.t 25, .c (.bool true), .t 28], []⟩,
    ⟨8, none, (some 30), .mov, [.t 29], []⟩,
    ⟨9, (some (30, false)), (some 31), (.fld 0), [.t 5], []⟩,
    ⟨10, (some (30, false)), (some 32), (.ld 9 true), [.t 31], []⟩,
    ⟨11, (some (30, false)), (some 33), .mov, [.t 6], []⟩,
    ⟨12, (some (30, false)), (some 34), (.callp 70), [.t 33], []⟩,
    ⟨13, (some (30, false)), (some 35), (.eqs true [1, 1, 1, 1, 6, 6, 6, 6, 6]), [.t 32, .t 34], []⟩,
    ⟨14, none, (some 36), .pick, [.t 30, .c (.bool true), .t 35], []⟩,
    ⟨15, none, (some 37), .mov, [.t 36], []⟩,
    ⟨16, (some (37, false)), (some 38), .mov, [.t 4], []⟩,
    ⟨17, (some (37, false)), (some 39), (.bin .gt), [.t 38, .c (.int .i64 0)], []⟩,
    ⟨18, (some (37, false)), (some 40), .mov, [.t 39], []⟩,
    ⟨19, (some (40, true)), (some 41), .mov, [.t 0], []⟩,
    ⟨20, (some (40, true)), (some 42), .mov, [.t 4], []⟩,
    ⟨21, (some (40, true)), (some 43), (.bin .sub), [.t 42, .c (.int .i64 1)], []⟩,
    ⟨22, (some (40, true)), (some 44), (.ix 25), [.t 41, .t 43], []⟩,
    ⟨23, (some (40, true)), (some 45), (.fld 0), [.t 44], []⟩,
    ⟨24, (some (40, true)), (some 46), (.ldh 9 true), [.t 45], []⟩,
    ⟨25, (some (40, true)), (some 47), (.fld 0), [.t 5], []⟩,
    ⟨26, (some (40, true)), (some 48), (.ld 9 true), [.t 47], []⟩,
    ⟨27, (some (40, true)), (some 49), (.callp 71), [.t 46, .t 48], []⟩,
    ⟨28, (some (40, true)), (some 50), (.bin .ge), [.t 49, .c (.int .i64 0)], []⟩,
    ⟨29, (some (37, false)), (some 51), .pick, [.t 40, .t 50, .c (.bool false)], []⟩,
    ⟨30, none, (some 52), .pick, [.t 37, .c (.bool true), .t 51], []⟩] [0, 3, 6, 12, 13, 14, 52] [11]
def R45_7 : ACode := .reg none [
    ⟨0, none, (some 2), .mov, [.c (.bool false)], []⟩] [2] []
def R45_8 : ACode := .reg none [
    ⟨0, none, (some 53), .mov, [.t 6], []⟩,
    ⟨1, none, (some 54), .len, [.t 53], []⟩,
    ⟨2, none, (some 55), .mov, [.c (.int .i64 0)], []⟩] [0, 3, 12, 13, 14, 53, 54, 55] [11]
def R45_9 : ACode := .reg none [
    ⟨0, none, (some 56), (.bin .lt), [.t 55, .t 54], []⟩] [0, 3, 12, 13, 14, 53, 54, 55, 56] [11]
def R45_10 : ACode := .reg none [
    ⟨0, none, (some 57), (.ix 9), [.t 53, .t 55], []⟩,
    ⟨1, none, (some 58), (.ldh 9 true), [.t 57], []⟩,
    ⟨2, none, (some 8), (.newl 8 [.str ⟨#[]⟩, .str ⟨#[]⟩, .str ⟨#[]⟩, .str ⟨#[]⟩, .int .i64 0, .int .i64 0, .int .i64 0, .int .i64 0, .int .i64 0]), [], []⟩,
    ⟨3, none, none, (.st 9), [.t 8, .t 58], []⟩] [0, 3, 8, 12, 13, 14, 53, 54, 55] [8, 11]
def R45_11 : ACode := .reg none [
    ⟨0, none, (some 60), .mov, [.t 3], []⟩,
    ⟨1, none, (some 61), (.ld 9 true), [.t 8], []⟩,
    ⟨2, none, (some 62), (.lkl true [1, 1, 1, 1, 6, 6, 6, 6, 6] (.agg []) true), [.t 60, .t 61], []⟩,
    ⟨3, none, (some 59), .mov, [.t 62], []⟩,
    ⟨4, none, (some 63), (.ext 0), [.t 59], []⟩,
    ⟨5, none, (some 64), (.ext 1), [.t 59], []⟩,
    ⟨6, none, (some 9), (.newl 9 []), [], []⟩,
    ⟨7, none, none, (.st 0), [.t 9, .t 63], []⟩,
    ⟨8, none, (some 10), .mov, [.t 64], []⟩] [0, 3, 8, 10, 12, 13, 14, 53, 54, 55] [8, 11]
def R45_12 : ACode := .reg none [
    ⟨0, none, (some 65), .mov, [.t 10], []⟩] [0, 3, 8, 12, 13, 14, 53, 54, 55, 65] [8, 11]
def R45_13 : ACode := .reg none [
    ⟨0, none, (some 2), .mov, [.c (.bool false)], []⟩] [2] []
def R45_14 : ACode := .reg none [
    ⟨0, none, (some 66), .mov, [.t 3], []⟩,
    ⟨1, none, (some 67), (.ld 9 true), [.t 8], []⟩,
    ⟨2, none, (some 68), (.build [] []), [], []⟩,
    ⟨3, none, none, (.upl true [1, 1, 1, 1, 6, 6, 6, 6, 6]), [.t 66, .t 67, .t 68], []⟩] [0, 3, 12, 13, 14, 53, 54, 55] [11]
def R45_15 : ACode := .reg none [
    ⟨0, none, (some 69), (.bin .add), [.t 55, .c (.int .i64 1)], []⟩,
    ⟨1, none, (some 55), .mov, [.t 69], []⟩] [0, 3, 12, 13, 14, 53, 54, 55] [11]
def R45_16 : ACode := .reg none [
    ⟨0, none, (some 70), (.bin .add), [.t 14, .c (.int .i64 1)], []⟩,
    ⟨1, none, (some 14), .mov, [.t 70], []⟩] [0, 3, 12, 13, 14] [11]
def R45_17 : ACode := .reg none [
    ⟨0, none, (some 2), .mov, [.c (.bool true)], []⟩] [2] []
def C45 : ACode := (.seq R45_0 (.seq R45_1 (.seq (.seq R45_2 (.block 0 (.loop (.seq R45_3 (.seq (.cond (.t 15) .skip (.exit 0)) (.seq (.block 1 (.seq R45_4 (.seq R45_5 (.seq (.seq R45_6 (.cond (.t 52) (.seq R45_7 .ret) .skip)) (.seq R45_8 (.block 2 (.loop (.seq R45_9 (.seq (.cond (.t 56) .skip (.exit 2)) (.seq (.block 3 (.seq R45_10 (.seq (.seq R45_11 (.seq R45_12 (.cond (.t 65) (.seq R45_13 .ret) .skip))) R45_14))) R45_15)))))))))) R45_16)))))) (.seq R45_17 .ret))))
def F45 : AFn := ⟨1, 71, [.tmp 2], C45⟩
theorem ok45 : fnOk Try.prog Try.f45 F45 = true := by kernel_rfl
theorem at45 : Try.prog.funcs[45]? = some Try.f45 := by kernel_rfl
/-! slices.ContainsFunc[[]seismonet/api.Alert,seismonet/api.Alert] -/
def R46_0 : ACode := .reg none [
    ⟨0, none, (some 4), .mov, [.c (.bool false)], []⟩] [0, 1] []
def R46_1 : ACode := .reg none [
    ⟨0, none, (some 5), .mov, [.t 0], []⟩,
    ⟨1, none, (some 6), .mov, [.t 1], []⟩,
    ⟨2, none, (some 7), (.callp 58), [.t 5, .t 6], []⟩,
    ⟨3, none, (some 8), (.bin .ge), [.t 7, .c (.int .i64 0)], []⟩,
    ⟨4, none, (some 4), .mov, [.t 8], []⟩] [4] []
def C46 : ACode := (.seq R46_0 (.seq R46_1 .ret))
def F46 : AFn := ⟨2, 9, [.tmp 4], C46⟩
theorem ok46 : fnOk Try.prog Try.f46 F46 = true := by kernel_rfl
theorem at46 : Try.prog.funcs[46]? = some Try.f46 := by kernel_rfl
/-! seismonet/alert.refused$1 -/
def R47_0 : ACode := .reg none [
    ⟨0, none, (some 2), (.boxl 2), [.t 0], []⟩,
    ⟨1, none, (some 3), .mov, [.c (.bool false)], []⟩] [1, 2] [2]
def R47_1 : ACode := .reg none [
    ⟨0, none, (some 4), (.ldh 1 false), [.t 1], []⟩,
    ⟨1, none, (some 5), (.fld 37), [.t 2], []⟩,
    ⟨2, none, (some 6), (.ld 1 false), [.t 5], []⟩,
    ⟨3, none, (some 7), (.bin .lt), [.t 4, .t 6], []⟩,
    ⟨4, none, (some 3), .mov, [.t 7], []⟩] [3] []
def C47 : ACode := (.seq R47_0 (.seq R47_1 .ret))
def F47 : AFn := ⟨2, 8, [.tmp 3], C47⟩
theorem ok47 : fnOk Try.prog Try.f47 F47 = true := by kernel_rfl
theorem at47 : Try.prog.funcs[47]? = some Try.f47 := by kernel_rfl
/-! slices.Clone[[]seismonet/api.Pick,seismonet/api.Pick] -/
def R48_0 : ACode := .reg none [
    ⟨0, none, (some 2), .mov, [.c (.nils)], []⟩] [0] []
def R48_1 : ACode := .reg none [
    ⟨0, none, (some 3), .mov, [.t 0], []⟩,
    ⟨1, none, (some 4), (.isn false), [.t 3], []⟩] [0, 4] []
def R48_2 : ACode := .reg none [
    ⟨0, none, (some 2), .mov, [.c (.nils)], []⟩] [2] []
def R48_3 : ACode := .reg none [
    ⟨0, none, (some 5), (.bslice 0 9 [.str ⟨#[]⟩, .str ⟨#[]⟩, .str ⟨#[]⟩, .str ⟨#[]⟩, .int .i64 0, .int .i64 0, .int .i64 0, .int .i64 0, .int .i64 0] []), [], []⟩,
    ⟨1, none, (some 6), .mov, [.t 0], []⟩,
    ⟨2, none, (some 7), (.app 9 1353245080339), [.t 5, .t 6], []⟩,
    ⟨3, none, (some 2), .mov, [.t 7], []⟩] [2] []
def C48 : ACode := (.seq R48_0 (.seq (.seq R48_1 (.cond (.t 4) (.seq R48_2 .ret) .skip)) (.seq R48_3 .ret)))
def F48 : AFn := ⟨1, 8, [.tmp 2], C48⟩
theorem ok48 : fnOk Try.prog Try.f48 F48 = true := by kernel_rfl
theorem at48 : Try.prog.funcs[48]? = some Try.f48 := by kernel_rfl
end Go.Proofs.Ytkdphdcpofcnjaa
