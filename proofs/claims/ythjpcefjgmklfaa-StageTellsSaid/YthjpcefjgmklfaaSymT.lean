/- The seat's types, as the symbolic layer takes them; checked against the program by computation. -/
import Derived.Test.YthjpcefjgmklfaaSy2
import Derived.Test.YthjpcefjgmklfaaChecked
import Derived.KernelRfl
namespace Go.Sy
set_option linter.unusedSimpArgs false
set_option linter.unusedVariables false
def Th : Tab := [
  (2, ⟨1, 8, false, some [CT.int .i64 0], .int .i64⟩),
    (3, ⟨1, 8, false, some [CT.int .i64 0], .int .i64⟩),
    (4, ⟨1, 1, false, some [CT.bool false], .bool⟩),
    (5, ⟨1, 1, false, some [CT.int .u8 0], .int .u8⟩),
    (6, ⟨1, 1, false, some [CT.int .u8 0], .int .u8⟩),
    (7, ⟨4, 24, true, some [CT.int .i64 0, CT.int .i64 0, CT.bool false, CT.int .u8 0], .struct [(0, 2), (1, 3), (2, 4), (3, 6)]⟩),
    (8, ⟨4, 24, true, some [CT.int .i64 0, CT.int .i64 0, CT.bool false, CT.int .u8 0], .struct [(0, 2), (1, 3), (2, 4), (3, 6)]⟩),
    (9, ⟨1, 16, false, some [CT.str ⟨#[]⟩], .string⟩),
    (10, ⟨1, 16, false, some [CT.str ⟨#[]⟩], .string⟩),
    (11, ⟨1, 16, false, some [CT.str ⟨#[]⟩], .string⟩),
    (12, ⟨1, 8, false, some [CT.int .u64 0], .int .u64⟩),
    (13, ⟨2, 24, true, some [CT.str ⟨#[]⟩, CT.int .u64 0], .struct [(0, 9), (1, 12)]⟩),
    (14, ⟨2, 24, true, some [CT.str ⟨#[]⟩, CT.int .u64 0], .struct [(0, 9), (1, 12)]⟩),
    (15, ⟨1, 8, false, none, .other⟩),
    (16, ⟨1, 8, false, none, .other⟩),
    (17, ⟨1, 8, false, none, .other⟩),
    (18, ⟨1, 8, true, none, .struct [(0, 17)]⟩),
    (19, ⟨1, 8, true, none, .struct [(0, 17)]⟩),
    (21, ⟨1, 4, false, some [CT.int .i32 0], .int .i32⟩),
    (22, ⟨1, 24, false, some [CT.nils], .slice 3⟩),
    (24, ⟨1, 24, false, some [CT.nils], .slice 41⟩),
    (25, ⟨1, 24, false, some [CT.nils], .slice 9⟩),
    (26, ⟨3, 72, true, some [CT.nils, CT.nils, CT.nils], .struct [(0, 24), (1, 25), (2, 22)]⟩),
    (27, ⟨3, 72, true, some [CT.nils, CT.nils, CT.nils], .struct [(0, 24), (1, 25), (2, 22)]⟩),
    (33, ⟨1, 24, false, some [CT.nils], .slice 36⟩),
    (36, ⟨2, 16, true, some [CT.int .i64 0, CT.int .i64 0], .arr 2 3⟩),
    (39, ⟨1, 24, false, some [CT.nils], .slice 46⟩),
    (40, ⟨3, 48, true, some [CT.int .i64 0, CT.str ⟨#[]⟩, CT.nils], .struct [(0, 3), (1, 9), (2, 39)]⟩),
    (41, ⟨3, 48, true, some [CT.int .i64 0, CT.str ⟨#[]⟩, CT.nils], .struct [(0, 3), (1, 9), (2, 39)]⟩),
    (42, ⟨1, 8, false, some [CT.int .u64 0], .int .u64⟩),
    (43, ⟨2, 16, true, some [CT.int .i64 0, CT.int .i64 0], .struct [(0, 3), (1, 3)]⟩),
    (44, ⟨2, 16, true, some [CT.int .i64 0, CT.int .i64 0], .struct [(0, 3), (1, 3)]⟩),
    (45, ⟨4, 40, true, some [CT.str ⟨#[]⟩, CT.int .i64 0, CT.int .i64 0, CT.int .i64 0], .struct [(0, 9), (1, 44), (3, 3)]⟩),
    (46, ⟨4, 40, true, some [CT.str ⟨#[]⟩, CT.int .i64 0, CT.int .i64 0, CT.int .i64 0], .struct [(0, 9), (1, 44), (3, 3)]⟩),
    (49, ⟨1, 24, false, some [CT.nils], .slice 25⟩),
    (50, ⟨2, 48, true, some [CT.nils, CT.nils], .struct [(0, 22), (1, 49)]⟩),
    (51, ⟨2, 48, true, some [CT.nils, CT.nils], .struct [(0, 22), (1, 49)]⟩),
    (52, ⟨3, 32, true, some [CT.int .i64 0, CT.int .i64 0, CT.str ⟨#[]⟩], .struct [(0, 3), (1, 3), (2, 9)]⟩),
    (53, ⟨3, 32, true, some [CT.int .i64 0, CT.int .i64 0, CT.str ⟨#[]⟩], .struct [(0, 3), (1, 3), (2, 9)]⟩),
    (56, ⟨1, 8, false, none, .other⟩),
    (58, ⟨1, 8, false, some [CT.int .i64 0], .int .i64⟩),
    (65, ⟨1, 24, false, some [CT.nils], .slice 53⟩),
    (77, ⟨1, 8, false, none, .map 36 4⟩),
    (81, ⟨2, 32, true, some [CT.nils, CT.int .i64 0], .struct [(0, 22), (1, 3)]⟩),
    (82, ⟨2, 32, true, some [CT.nils, CT.int .i64 0], .struct [(0, 22), (1, 3)]⟩),
    (111, ⟨4, 40, true, none, .struct [(0, 17), (1, 17), (2, 17), (3, 9)]⟩),
    (112, ⟨4, 40, true, none, .struct [(0, 17), (1, 17), (2, 17), (3, 9)]⟩),
    (113, ⟨0, 0, true, some [], .arr 0 16⟩),
    (117, ⟨1, 4, false, some [CT.int .u32 0], .int .u32⟩),
    (118, ⟨1, 1, false, some [CT.int .u8 0], .int .u8⟩),
    (119, ⟨1, 1, false, some [CT.int .u8 0], .int .u8⟩),
    (121, ⟨1, 8, false, none, .other⟩),
    (122, ⟨1, 4, false, some [CT.int .i32 0], .int .i32⟩),
    (123, ⟨1, 4, false, some [CT.int .i32 0], .int .i32⟩),
    (124, ⟨11, 48, true, none, .struct [(0, 12), (1, 12), (2, 117), (3, 118), (4, 5), (5, 5), (6, 119), (7, 120), (8, 121), (9, 122), (10, 123)]⟩),
    (125, ⟨11, 48, true, none, .struct [(0, 12), (1, 12), (2, 117), (3, 118), (4, 5), (5, 5), (6, 119), (7, 120), (8, 121), (9, 122), (10, 123)]⟩),
    (126, ⟨1, 8, false, none, .other⟩)
]
theorem th : tabOK Go.Proofs.Try.prog Th := tabOK_of (by kernel_rfl)
theorem mix : (Go.Proofs.Try.prog).follows .mixedOrders = true := rfl
end Go.Sy
