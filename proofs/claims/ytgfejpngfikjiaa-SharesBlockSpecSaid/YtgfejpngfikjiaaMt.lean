/-
  The types and functions of the program, as the tidy machine reads them, and how each function is called.
-/
import Derived.Test.YtgfejpngfikjiaaMa
import Derived.Laws.Small
import Derived.Test.YtgfejpngfikjiaaProg
namespace Go.Proofs.Ytgfejpngfikjiaa.Tidy
open Go

def tys : List TI := [
  ⟨.other, 1, 0, .tuple []⟩,
  ⟨.func, 1, 8, .nilfunc⟩,
  ⟨.int .i64, 1, 8, .int .i64 (0)⟩,
  ⟨.int .i64, 1, 8, .int .i64 (0)⟩,
  ⟨.bool, 1, 1, .bool false⟩,
  ⟨.int .u8, 1, 1, .int .u8 (0)⟩,
  ⟨.int .u8, 1, 1, .int .u8 (0)⟩,
  ⟨.struct [(2, 0), (3, 1), (4, 2), (6, 3)], 4, 24, .agg [.int .i64 (0), .int .i64 (0), .bool false, .int .u8 (0)]⟩,
  ⟨.struct [(2, 0), (3, 1), (4, 2), (6, 3)], 4, 24, .agg [.int .i64 (0), .int .i64 (0), .bool false, .int .u8 (0)]⟩,
  ⟨.string, 1, 16, .str []⟩,
  ⟨.string, 1, 16, .str []⟩,
  ⟨.string, 1, 16, .str []⟩,
  ⟨.int .u64, 1, 8, .int .u64 (0)⟩,
  ⟨.struct [(9, 0), (12, 1)], 2, 24, .agg [.str [], .int .u64 (0)]⟩,
  ⟨.struct [(9, 0), (12, 1)], 2, 24, .agg [.str [], .int .u64 (0)]⟩,
  ⟨.ptr 164, 1, 8, .nilptr⟩,
  ⟨.ptr 167, 1, 8, .nilptr⟩,
  ⟨.ptr 176, 1, 8, .nilptr⟩,
  ⟨.struct [(17, 0)], 1, 8, .agg [.nilptr]⟩,
  ⟨.struct [(17, 0)], 1, 8, .agg [.nilptr]⟩,
  ⟨.iface, 1, 16, .niliface⟩,
  ⟨.int .i32, 1, 4, .int .i32 (0)⟩,
  ⟨.slice 39, 1, 24, .lit true 0 []⟩,
  ⟨.slice 22, 1, 24, .lit true 0 []⟩,
  ⟨.struct [(22, 0), (22, 1), (23, 2)], 3, 72, .agg [.lit true 0 [], .lit true 0 [], .lit true 0 []]⟩,
  ⟨.struct [(22, 0), (22, 1), (23, 2)], 3, 72, .agg [.lit true 0 [], .lit true 0 [], .lit true 0 []]⟩,
  ⟨.slice 4, 1, 24, .lit true 0 []⟩,
  ⟨.struct [(26, 0), (26, 1)], 2, 48, .agg [.lit true 0 [], .lit true 0 []]⟩,
  ⟨.struct [(26, 0), (26, 1)], 2, 48, .agg [.lit true 0 [], .lit true 0 []]⟩,
  ⟨.func, 1, 8, .nilfunc⟩,
  ⟨.func, 1, 8, .nilfunc⟩,
  ⟨.int .i64, 1, 8, .int .i64 (0)⟩,
  ⟨.other, 1, 0, .tuple [.bool false, .int .i64 (0)]⟩,
  ⟨.func, 1, 8, .nilfunc⟩,
  ⟨.other, 1, 0, .tuple [.agg [.lit true 0 [], .lit true 0 []], .bool false, .int .i64 (0)]⟩,
  ⟨.func, 1, 8, .nilfunc⟩,
  ⟨.func, 1, 8, .nilfunc⟩,
  ⟨.func, 1, 8, .nilfunc⟩,
  ⟨.struct [(3, 0), (3, 1)], 2, 16, .agg [.int .i64 (0), .int .i64 (0)]⟩,
  ⟨.struct [(3, 0), (3, 1)], 2, 16, .agg [.int .i64 (0), .int .i64 (0)]⟩,
  ⟨.other, 1, 0, .tuple [.agg [.int .i64 (0), .int .i64 (0)], .int .i64 (0)]⟩,
  ⟨.func, 1, 8, .nilfunc⟩,
  ⟨.func, 1, 8, .nilfunc⟩,
  ⟨.func, 1, 8, .nilfunc⟩,
  ⟨.func, 1, 8, .nilfunc⟩,
  ⟨.func, 1, 8, .nilfunc⟩,
  ⟨.slice 51, 1, 24, .lit true 0 []⟩,
  ⟨.other, 1, 0, .tuple [.agg [.lit true 0 [], .lit true 0 [], .lit true 0 []], .int .i64 (0)]⟩,
  ⟨.func, 1, 8, .nilfunc⟩,
  ⟨.func, 1, 8, .nilfunc⟩,
  ⟨.func, 1, 8, .nilfunc⟩,
  ⟨.slice 3, 1, 24, .lit true 0 []⟩,
  ⟨.func, 1, 8, .nilfunc⟩,
  ⟨.func, 1, 8, .nilfunc⟩,
  ⟨.func, 1, 8, .nilfunc⟩,
  ⟨.func, 1, 8, .nilfunc⟩,
  ⟨.other, 1, 0, .tuple [.lit true 0 [], .bool false, .int .i64 (0)]⟩,
  ⟨.func, 1, 8, .nilfunc⟩,
  ⟨.func, 1, 8, .nilfunc⟩,
  ⟨.other, 1, 0, .tuple [.lit true 0 [], .lit true 0 [], .int .i64 (0)]⟩,
  ⟨.func, 1, 8, .nilfunc⟩,
  ⟨.func, 1, 8, .nilfunc⟩,
  ⟨.func, 1, 8, .nilfunc⟩,
  ⟨.func, 1, 8, .nilfunc⟩,
  ⟨.func, 1, 8, .nilfunc⟩,
  ⟨.func, 1, 8, .nilfunc⟩,
  ⟨.func, 1, 8, .nilfunc⟩,
  ⟨.func, 1, 8, .nilfunc⟩,
  ⟨.func, 1, 8, .nilfunc⟩,
  ⟨.func, 1, 8, .nilfunc⟩,
  ⟨.func, 1, 8, .nilfunc⟩,
  ⟨.func, 1, 8, .nilfunc⟩,
  ⟨.func, 1, 8, .nilfunc⟩,
  ⟨.func, 1, 8, .nilfunc⟩,
  ⟨.other, 1, 0, .tuple [.agg [.lit true 0 [], .lit true 0 []], .int .i64 (0)]⟩,
  ⟨.func, 1, 8, .nilfunc⟩,
  ⟨.func, 1, 8, .nilfunc⟩,
  ⟨.func, 1, 8, .nilfunc⟩,
  ⟨.func, 1, 8, .nilfunc⟩,
  ⟨.slice 45, 1, 24, .lit true 0 []⟩,
  ⟨.func, 1, 8, .nilfunc⟩,
  ⟨.func, 1, 8, .nilfunc⟩,
  ⟨.func, 1, 8, .nilfunc⟩,
  ⟨.func, 1, 8, .nilfunc⟩,
  ⟨.func, 1, 8, .nilfunc⟩,
  ⟨.func, 1, 8, .nilfunc⟩,
  ⟨.other, 1, 0, .tuple [.agg [.lit true 0 [], .lit true 0 []], .bool false]⟩,
  ⟨.func, 1, 8, .nilfunc⟩,
  ⟨.ptr 102, 1, 8, .nilptr⟩,
  ⟨.other, 1, 0, .tuple [.nilptr, .int .i64 (0)]⟩,
  ⟨.func, 1, 8, .nilfunc⟩,
  ⟨.func, 1, 8, .nilfunc⟩,
  ⟨.func, 1, 8, .nilfunc⟩,
  ⟨.func, 1, 8, .nilfunc⟩,
  ⟨.func, 1, 8, .nilfunc⟩,
  ⟨.func, 1, 8, .nilfunc⟩,
  ⟨.func, 1, 8, .nilfunc⟩,
  ⟨.func, 1, 8, .nilfunc⟩,
  ⟨.func, 1, 8, .nilfunc⟩,
  ⟨.func, 1, 8, .nilfunc⟩,
  ⟨.slice 133, 1, 24, .lit true 0 []⟩,
  ⟨.struct [(3, 0), (3, 1), (100, 2)], 3, 40, .agg [.int .i64 (0), .int .i64 (0), .lit true 0 []]⟩,
  ⟨.struct [(3, 0), (3, 1), (100, 2)], 3, 40, .agg [.int .i64 (0), .int .i64 (0), .lit true 0 []]⟩,
  ⟨.func, 1, 8, .nilfunc⟩,
  ⟨.func, 1, 8, .nilfunc⟩,
  ⟨.func, 1, 8, .nilfunc⟩,
  ⟨.func, 1, 8, .nilfunc⟩,
  ⟨.func, 1, 8, .nilfunc⟩,
  ⟨.func, 1, 8, .nilfunc⟩,
  ⟨.func, 1, 8, .nilfunc⟩,
  ⟨.func, 1, 8, .nilfunc⟩,
  ⟨.func, 1, 8, .nilfunc⟩,
  ⟨.other, 1, 0, .tuple [.lit true 0 [], .lit true 0 []]⟩,
  ⟨.func, 1, 8, .nilfunc⟩,
  ⟨.func, 1, 8, .nilfunc⟩,
  ⟨.func, 1, 8, .nilfunc⟩,
  ⟨.func, 1, 8, .nilfunc⟩,
  ⟨.func, 1, 8, .nilfunc⟩,
  ⟨.func, 1, 8, .nilfunc⟩,
  ⟨.func, 1, 8, .nilfunc⟩,
  ⟨.func, 1, 8, .nilfunc⟩,
  ⟨.func, 1, 8, .nilfunc⟩,
  ⟨.other, 1, 0, .tuple [.lit true 0 [], .bool false]⟩,
  ⟨.func, 1, 8, .nilfunc⟩,
  ⟨.ptr 39, 1, 8, .nilptr⟩,
  ⟨.func, 1, 8, .nilfunc⟩,
  ⟨.func, 1, 8, .nilfunc⟩,
  ⟨.func, 1, 8, .nilfunc⟩,
  ⟨.func, 1, 8, .nilfunc⟩,
  ⟨.func, 1, 8, .nilfunc⟩,
  ⟨.func, 1, 8, .nilfunc⟩,
  ⟨.int .i64, 1, 8, .int .i64 (0)⟩,
  ⟨.struct [(3, 0), (3, 1), (131, 2), (131, 3), (131, 4)], 5, 40, .agg [.int .i64 (0), .int .i64 (0), .int .i64 (0), .int .i64 (0), .int .i64 (0)]⟩,
  ⟨.struct [(3, 0), (3, 1), (131, 2), (131, 3), (131, 4)], 5, 40, .agg [.int .i64 (0), .int .i64 (0), .int .i64 (0), .int .i64 (0), .int .i64 (0)]⟩,
  ⟨.func, 1, 8, .nilfunc⟩,
  ⟨.func, 1, 8, .nilfunc⟩,
  ⟨.ptr 133, 1, 8, .nilptr⟩,
  ⟨.slice 131, 1, 24, .lit true 0 []⟩,
  ⟨.func, 1, 8, .nilfunc⟩,
  ⟨.func, 1, 8, .nilfunc⟩,
  ⟨.slice 157, 1, 24, .lit true 0 []⟩,
  ⟨.func, 1, 8, .nilfunc⟩,
  ⟨.func, 1, 8, .nilfunc⟩,
  ⟨.func, 1, 8, .nilfunc⟩,
  ⟨.func, 1, 8, .nilfunc⟩,
  ⟨.slice 150, 1, 24, .lit true 0 []⟩,
  ⟨.func, 1, 8, .nilfunc⟩,
  ⟨.other, 1, 0, .tuple [.lit true 0 [], .bool false]⟩,
  ⟨.func, 1, 8, .nilfunc⟩,
  ⟨.struct [(3, 0), (3, 1), (3, 2), (3, 3)], 4, 32, .agg [.int .i64 (0), .int .i64 (0), .int .i64 (0), .int .i64 (0)]⟩,
  ⟨.struct [(3, 0), (3, 1), (3, 2), (3, 3)], 4, 32, .agg [.int .i64 (0), .int .i64 (0), .int .i64 (0), .int .i64 (0)]⟩,
  ⟨.func, 1, 8, .nilfunc⟩,
  ⟨.other, 1, 0, .tuple [.lit true 0 [], .lit true 0 []]⟩,
  ⟨.func, 1, 8, .nilfunc⟩,
  ⟨.slice 155, 1, 24, .lit true 0 []⟩,
  ⟨.slice 159, 1, 24, .lit true 0 []⟩,
  ⟨.struct [(3, 0), (4, 1), (3, 2), (131, 3), (3, 4), (3, 5)], 6, 48, .agg [.int .i64 (0), .bool false, .int .i64 (0), .int .i64 (0), .int .i64 (0), .int .i64 (0)]⟩,
  ⟨.struct [(3, 0), (4, 1), (3, 2), (131, 3), (3, 4), (3, 5)], 6, 48, .agg [.int .i64 (0), .bool false, .int .i64 (0), .int .i64 (0), .int .i64 (0), .int .i64 (0)]⟩,
  ⟨.struct [(4, 0), (3, 1), (157, 2)], 8, 64, .agg [.bool false, .int .i64 (0), .int .i64 (0), .bool false, .int .i64 (0), .int .i64 (0), .int .i64 (0), .int .i64 (0)]⟩,
  ⟨.struct [(4, 0), (3, 1), (157, 2)], 8, 64, .agg [.bool false, .int .i64 (0), .int .i64 (0), .bool false, .int .i64 (0), .int .i64 (0), .int .i64 (0), .int .i64 (0)]⟩,
  ⟨.func, 1, 8, .nilfunc⟩,
  ⟨.map 3 4, 1, 8, .nilmap⟩,
  ⟨.func, 1, 8, .nilfunc⟩,
  ⟨.struct [(17, 0), (17, 1), (17, 2), (9, 3)], 4, 40, .agg [.nilptr, .nilptr, .nilptr, .str []]⟩,
  ⟨.struct [(17, 0), (17, 1), (17, 2), (9, 3)], 4, 40, .agg [.nilptr, .nilptr, .nilptr, .str []]⟩,
  ⟨.array 0 16, 0, 0, .agg []⟩,
  ⟨.struct [(165, 0)], 0, 0, .agg []⟩,
  ⟨.struct [(165, 0)], 0, 0, .agg []⟩,
  ⟨.int .u32, 1, 4, .int .u32 (0)⟩,
  ⟨.int .u8, 1, 1, .int .u8 (0)⟩,
  ⟨.int .u8, 1, 1, .int .u8 (0)⟩,
  ⟨.func, 1, 8, .nilfunc⟩,
  ⟨.ptr 5, 1, 8, .nilptr⟩,
  ⟨.int .i32, 1, 4, .int .i32 (0)⟩,
  ⟨.int .i32, 1, 4, .int .i32 (0)⟩,
  ⟨.struct [(12, 0), (12, 1), (168, 2), (169, 3), (5, 4), (5, 5), (170, 6), (171, 7), (172, 8), (173, 9), (174, 10)], 11, 48, .agg [.int .u64 (0), .int .u64 (0), .int .u32 (0), .int .u8 (0), .int .u8 (0), .int .u8 (0), .int .u8 (0), .nilfunc, .nilptr, .int .i32 (0), .int .i32 (0)]⟩,
  ⟨.struct [(12, 0), (12, 1), (168, 2), (169, 3), (5, 4), (5, 5), (170, 6), (171, 7), (172, 8), (173, 9), (174, 10)], 11, 48, .agg [.int .u64 (0), .int .u64 (0), .int .u32 (0), .int .u8 (0), .int .u8 (0), .int .u8 (0), .int .u8 (0), .nilfunc, .nilptr, .int .i32 (0), .int .i32 (0)]⟩,
  ⟨.other, 1, 8, .nilptr⟩
]

noncomputable def fnL : List Func := [Try.f0, Try.f1, Try.f2, Try.f3, Try.f4, Try.f5, Try.f6, Try.f7, Try.f8, Try.f9, Try.f10, Try.f11, Try.f12, Try.f13, Try.f14, Try.f15, Try.f16, Try.f17, Try.f18, Try.f19, Try.f20, Try.f21, Try.f22, Try.f23, Try.f24, Try.f25, Try.f26, Try.f27, Try.f28, Try.f29, Try.f30, Try.f31, Try.f32, Try.f33, Try.f34, Try.f35, Try.f36, Try.f37, Try.f38, Try.f39, Try.f40, Try.f41, Try.f42, Try.f43, Try.f44, Try.f45, Try.f46, Try.f47, Try.f48, Try.f49, Try.f50, Try.f51, Try.f52, Try.f53, Try.f54, Try.f55, Try.f56, Try.f57, Try.f58, Try.f59, Try.f60, Try.f61, Try.f62, Try.f63, Try.f64, Try.f65, Try.f66, Try.f67, Try.f68, Try.f69, Try.f70, Try.f71, Try.f72, Try.f73, Try.f74, Try.f75, Try.f76, Try.f77, Try.f78, Try.f79, Try.f80, Try.f81, Try.f82, Try.f83, Try.f84, Try.f85, Try.f86, Try.f87, Try.f88, Try.f89, Try.f90, Try.f91, Try.f92, Try.f93, Try.f94, Try.f95, Try.f96, Try.f97, Try.f98, Try.f99, Try.f100, Try.f101, Try.f102, Try.f103, Try.f104, Try.f105, Try.f106, Try.f107, Try.f108, Try.f109, Try.f110, Try.f111, Try.f112, Try.f113, Try.f114, Try.f115, Try.f116, Try.f117, Try.f118, Try.f119, Try.f120, Try.f121, Try.f122, Try.f123, Try.f124, Try.f125, Try.f126, Try.f127, Try.f128, Try.f129, Try.f130, Try.f131, Try.f132, Try.f133, Try.f134, Try.f135, Try.f136, Try.f137, Try.f138, Try.f139, Try.f140, Try.f141, Try.f142, Try.f143, Try.f144, Try.f145, Try.f146, Try.f147, Try.f148, Try.f149, Try.f150, Try.f151, Try.f152, Try.f153, Try.f154, Try.f155, Try.f156, Try.f157, Try.f158, Try.f159, Try.f160, Try.f161, Try.f162]

def hints : List (Nat × Hint) := [
  (3, { lits := [0, 1] }),
  (4, { lits := [0] }),
  (5, { lits := [0, 1] }),
  (6, { lits := [0, 1], virt := [13, 147] }),
  (7, { lits := [0] }),
  (8, { lits := [0, 1, 2] }),
  (9, { lits := [0, 1] }),
  (10, { lits := [0, 1, 4], virt := [18, 21, 129] }),
  (11, { lits := [0, 1] }),
  (12, { lits := [0, 1] }),
  (13, { lits := [0] }),
  (14, { lits := [0] }),
  (15, { lits := [0] }),
  (16, { lits := [0, 5] }),
  (17, { lits := [0, 1], virt := [159] }),
  (18, { lits := [0] }),
  (19, { lits := [0, 1, 7] }),
  (21, { lits := [0] }),
  (22, { lits := [0] }),
  (23, { lits := [0] }),
  (24, { lits := [0, 1] }),
  (25, { lits := [0, 1] }),
  (26, { lits := [0] }),
  (27, { lits := [0] }),
  (28, { lits := [0] }),
  (29, { lits := [0] }),
  (30, { lits := [0] }),
  (31, { lits := [0] }),
  (32, { lits := [0, 1], virt := [8] }),
  (33, { lits := [0, 1] }),
  (34, { lits := [0], virt := [6] }),
  (35, { lits := [0] }),
  (36, { lits := [0] }),
  (37, { lits := [0], virt := [10, 12, 136] }),
  (38, { lits := [0] }),
  (39, { lits := [0, 1] }),
  (40, { lits := [0, 1] }),
  (41, { lits := [0] }),
  (42, { lits := [0], virt := [7] }),
  (44, { lits := [0] }),
  (45, { lits := [0, 1] }),
  (46, { lits := [0] }),
  (47, { lits := [0], virt := [7, 8] }),
  (48, { lits := [0] }),
  (49, { lits := [0, 1] }),
  (51, { lits := [0], virt := [6, 8, 50] }),
  (52, { lits := [0, 1] }),
  (53, { lits := [0], virt := [5, 7, 34] }),
  (54, { lits := [0] }),
  (55, { lits := [0] }),
  (56, { lits := [0] }),
  (58, { keep := [0], lits := [0] }),
  (59, { lits := [0] }),
  (60, { lits := [0, 5] }),
  (61, { lits := [0, 5] }),
  (62, { lits := [0] }),
  (63, { lits := [0] }),
  (64, { lits := [0] }),
  (65, { lits := [0] }),
  (66, { lits := [0] }),
  (67, { lits := [0] }),
  (68, { lits := [0] }),
  (69, { lits := [0] }),
  (70, { lits := [0] }),
  (71, { lits := [0], virt := [9, 11, 74, 123] }),
  (73, { lits := [0, 1] }),
  (75, { lits := [0] }),
  (76, { lits := [0], virt := [8] }),
  (77, { lits := [0, 1] }),
  (78, { lits := [0, 1] }),
  (79, { lits := [0, 1] }),
  (80, { lits := [0, 1] }),
  (81, { keepAll := true, lits := [0] }),
  (82, { lits := [1] }),
  (83, { ro := true }),
  (84, { lits := [0] }),
  (85, { lits := [0] }),
  (86, { lits := [0] }),
  (87, { lits := [0] }),
  (88, { ro := true }),
  (89, { keepAll := true, lits := [0], virt := [3, 33] }),
  (90, { ro := true }),
  (91, { lits := [0], virt := [3, 5, 44] }),
  (92, { keepAll := true, lits := [0] }),
  (93, { lits := [0, 1] }),
  (94, { lits := [0], virt := [7] }),
  (96, { keepAll := true, lits := [0], virt := [3, 42] }),
  (97, { lits := [0] }),
  (102, { lits := [0] }),
  (103, { lits := [0] }),
  (105, { lits := [0] }),
  (106, { ro := true, virt := [3, 41] }),
  (107, { lits := [0, 1] }),
  (109, { lits := [0] }),
  (113, { lits := [0] }),
  (114, { lits := [0, 1] }),
  (116, { keepAll := true, lits := [0] }),
  (117, { lits := [0] }),
  (121, { keepAll := true, lits := [0], virt := [20] }),
  (123, { ro := true }),
  (124, { ro := true }),
  (126, { lits := [1] }),
  (127, { lits := [0] }),
  (128, { lits := [0, 1] }),
  (129, { lits := [0] }),
  (130, { lits := [0] }),
  (132, { lits := [0] }),
  (133, { lits := [0] }),
  (135, { ro := true }),
  (137, { ro := true, lits := [1] }),
  (138, { lits := [1] }),
  (139, { lits := [0] }),
  (140, { keepAll := true, lits := [0], virt := [4] }),
  (141, { lits := [0, 2], virt := [10] }),
  (142, { lits := [0], virt := [8, 9, 16] }),
  (143, { lits := [0] }),
  (144, { ro := true, virt := [15, 29] }),
  (145, { ro := true, lits := [1], virt := [5] }),
  (146, { lits := [0], virt := [5] })
]

def hintOf (n : Nat) : List (Nat × Hint) → Hint
  | [] => {}
  | (k, h) :: l => if k = n then h else hintOf n l

def eqL : List EqTy := [⟨3, false, [.int .i64]⟩, ⟨39, true, [.int .i64, .int .i64]⟩]

noncomputable def env : Env := { eqs := eqL, tys := tys, fns := fun n => fnL[n]?, hint := fun n => hintOf n hints }

@[go_sem] theorem ti0 : env.ti 0 = some ⟨.other, 1, 0, .tuple []⟩ := rfl
@[go_sem] theorem ti1 : env.ti 1 = some ⟨.func, 1, 8, .nilfunc⟩ := rfl
@[go_sem] theorem ti2 : env.ti 2 = some ⟨.int .i64, 1, 8, .int .i64 (0)⟩ := rfl
@[go_sem] theorem ti3 : env.ti 3 = some ⟨.int .i64, 1, 8, .int .i64 (0)⟩ := rfl
@[go_sem] theorem ti4 : env.ti 4 = some ⟨.bool, 1, 1, .bool false⟩ := rfl
@[go_sem] theorem ti5 : env.ti 5 = some ⟨.int .u8, 1, 1, .int .u8 (0)⟩ := rfl
@[go_sem] theorem ti6 : env.ti 6 = some ⟨.int .u8, 1, 1, .int .u8 (0)⟩ := rfl
@[go_sem] theorem ti7 : env.ti 7 = some ⟨.struct [(2, 0), (3, 1), (4, 2), (6, 3)], 4, 24, .agg [.int .i64 (0), .int .i64 (0), .bool false, .int .u8 (0)]⟩ := rfl
@[go_sem] theorem ti8 : env.ti 8 = some ⟨.struct [(2, 0), (3, 1), (4, 2), (6, 3)], 4, 24, .agg [.int .i64 (0), .int .i64 (0), .bool false, .int .u8 (0)]⟩ := rfl
@[go_sem] theorem ti9 : env.ti 9 = some ⟨.string, 1, 16, .str []⟩ := rfl
@[go_sem] theorem ti10 : env.ti 10 = some ⟨.string, 1, 16, .str []⟩ := rfl
@[go_sem] theorem ti11 : env.ti 11 = some ⟨.string, 1, 16, .str []⟩ := rfl
@[go_sem] theorem ti12 : env.ti 12 = some ⟨.int .u64, 1, 8, .int .u64 (0)⟩ := rfl
@[go_sem] theorem ti13 : env.ti 13 = some ⟨.struct [(9, 0), (12, 1)], 2, 24, .agg [.str [], .int .u64 (0)]⟩ := rfl
@[go_sem] theorem ti14 : env.ti 14 = some ⟨.struct [(9, 0), (12, 1)], 2, 24, .agg [.str [], .int .u64 (0)]⟩ := rfl
@[go_sem] theorem ti15 : env.ti 15 = some ⟨.ptr 164, 1, 8, .nilptr⟩ := rfl
@[go_sem] theorem ti16 : env.ti 16 = some ⟨.ptr 167, 1, 8, .nilptr⟩ := rfl
@[go_sem] theorem ti17 : env.ti 17 = some ⟨.ptr 176, 1, 8, .nilptr⟩ := rfl
@[go_sem] theorem ti18 : env.ti 18 = some ⟨.struct [(17, 0)], 1, 8, .agg [.nilptr]⟩ := rfl
@[go_sem] theorem ti19 : env.ti 19 = some ⟨.struct [(17, 0)], 1, 8, .agg [.nilptr]⟩ := rfl
@[go_sem] theorem ti20 : env.ti 20 = some ⟨.iface, 1, 16, .niliface⟩ := rfl
@[go_sem] theorem ti21 : env.ti 21 = some ⟨.int .i32, 1, 4, .int .i32 (0)⟩ := rfl
@[go_sem] theorem ti22 : env.ti 22 = some ⟨.slice 39, 1, 24, .lit true 0 []⟩ := rfl
@[go_sem] theorem ti23 : env.ti 23 = some ⟨.slice 22, 1, 24, .lit true 0 []⟩ := rfl
@[go_sem] theorem ti24 : env.ti 24 = some ⟨.struct [(22, 0), (22, 1), (23, 2)], 3, 72, .agg [.lit true 0 [], .lit true 0 [], .lit true 0 []]⟩ := rfl
@[go_sem] theorem ti25 : env.ti 25 = some ⟨.struct [(22, 0), (22, 1), (23, 2)], 3, 72, .agg [.lit true 0 [], .lit true 0 [], .lit true 0 []]⟩ := rfl
@[go_sem] theorem ti26 : env.ti 26 = some ⟨.slice 4, 1, 24, .lit true 0 []⟩ := rfl
@[go_sem] theorem ti27 : env.ti 27 = some ⟨.struct [(26, 0), (26, 1)], 2, 48, .agg [.lit true 0 [], .lit true 0 []]⟩ := rfl
@[go_sem] theorem ti28 : env.ti 28 = some ⟨.struct [(26, 0), (26, 1)], 2, 48, .agg [.lit true 0 [], .lit true 0 []]⟩ := rfl
@[go_sem] theorem ti29 : env.ti 29 = some ⟨.func, 1, 8, .nilfunc⟩ := rfl
@[go_sem] theorem ti30 : env.ti 30 = some ⟨.func, 1, 8, .nilfunc⟩ := rfl
@[go_sem] theorem ti31 : env.ti 31 = some ⟨.int .i64, 1, 8, .int .i64 (0)⟩ := rfl
@[go_sem] theorem ti32 : env.ti 32 = some ⟨.other, 1, 0, .tuple [.bool false, .int .i64 (0)]⟩ := rfl
@[go_sem] theorem ti33 : env.ti 33 = some ⟨.func, 1, 8, .nilfunc⟩ := rfl
@[go_sem] theorem ti34 : env.ti 34 = some ⟨.other, 1, 0, .tuple [.agg [.lit true 0 [], .lit true 0 []], .bool false, .int .i64 (0)]⟩ := rfl
@[go_sem] theorem ti35 : env.ti 35 = some ⟨.func, 1, 8, .nilfunc⟩ := rfl
@[go_sem] theorem ti36 : env.ti 36 = some ⟨.func, 1, 8, .nilfunc⟩ := rfl
@[go_sem] theorem ti37 : env.ti 37 = some ⟨.func, 1, 8, .nilfunc⟩ := rfl
@[go_sem] theorem ti38 : env.ti 38 = some ⟨.struct [(3, 0), (3, 1)], 2, 16, .agg [.int .i64 (0), .int .i64 (0)]⟩ := rfl
@[go_sem] theorem ti39 : env.ti 39 = some ⟨.struct [(3, 0), (3, 1)], 2, 16, .agg [.int .i64 (0), .int .i64 (0)]⟩ := rfl
@[go_sem] theorem ti40 : env.ti 40 = some ⟨.other, 1, 0, .tuple [.agg [.int .i64 (0), .int .i64 (0)], .int .i64 (0)]⟩ := rfl
@[go_sem] theorem ti41 : env.ti 41 = some ⟨.func, 1, 8, .nilfunc⟩ := rfl
@[go_sem] theorem ti42 : env.ti 42 = some ⟨.func, 1, 8, .nilfunc⟩ := rfl
@[go_sem] theorem ti43 : env.ti 43 = some ⟨.func, 1, 8, .nilfunc⟩ := rfl
@[go_sem] theorem ti44 : env.ti 44 = some ⟨.func, 1, 8, .nilfunc⟩ := rfl
@[go_sem] theorem ti45 : env.ti 45 = some ⟨.func, 1, 8, .nilfunc⟩ := rfl
@[go_sem] theorem ti46 : env.ti 46 = some ⟨.slice 51, 1, 24, .lit true 0 []⟩ := rfl
@[go_sem] theorem ti47 : env.ti 47 = some ⟨.other, 1, 0, .tuple [.agg [.lit true 0 [], .lit true 0 [], .lit true 0 []], .int .i64 (0)]⟩ := rfl
@[go_sem] theorem ti48 : env.ti 48 = some ⟨.func, 1, 8, .nilfunc⟩ := rfl
@[go_sem] theorem ti49 : env.ti 49 = some ⟨.func, 1, 8, .nilfunc⟩ := rfl
@[go_sem] theorem ti50 : env.ti 50 = some ⟨.func, 1, 8, .nilfunc⟩ := rfl
@[go_sem] theorem ti51 : env.ti 51 = some ⟨.slice 3, 1, 24, .lit true 0 []⟩ := rfl
@[go_sem] theorem ti52 : env.ti 52 = some ⟨.func, 1, 8, .nilfunc⟩ := rfl
@[go_sem] theorem ti53 : env.ti 53 = some ⟨.func, 1, 8, .nilfunc⟩ := rfl
@[go_sem] theorem ti54 : env.ti 54 = some ⟨.func, 1, 8, .nilfunc⟩ := rfl
@[go_sem] theorem ti55 : env.ti 55 = some ⟨.func, 1, 8, .nilfunc⟩ := rfl
@[go_sem] theorem ti56 : env.ti 56 = some ⟨.other, 1, 0, .tuple [.lit true 0 [], .bool false, .int .i64 (0)]⟩ := rfl
@[go_sem] theorem ti57 : env.ti 57 = some ⟨.func, 1, 8, .nilfunc⟩ := rfl
@[go_sem] theorem ti58 : env.ti 58 = some ⟨.func, 1, 8, .nilfunc⟩ := rfl
@[go_sem] theorem ti59 : env.ti 59 = some ⟨.other, 1, 0, .tuple [.lit true 0 [], .lit true 0 [], .int .i64 (0)]⟩ := rfl
@[go_sem] theorem ti60 : env.ti 60 = some ⟨.func, 1, 8, .nilfunc⟩ := rfl
@[go_sem] theorem ti61 : env.ti 61 = some ⟨.func, 1, 8, .nilfunc⟩ := rfl
@[go_sem] theorem ti62 : env.ti 62 = some ⟨.func, 1, 8, .nilfunc⟩ := rfl
@[go_sem] theorem ti63 : env.ti 63 = some ⟨.func, 1, 8, .nilfunc⟩ := rfl
@[go_sem] theorem ti64 : env.ti 64 = some ⟨.func, 1, 8, .nilfunc⟩ := rfl
@[go_sem] theorem ti65 : env.ti 65 = some ⟨.func, 1, 8, .nilfunc⟩ := rfl
@[go_sem] theorem ti66 : env.ti 66 = some ⟨.func, 1, 8, .nilfunc⟩ := rfl
@[go_sem] theorem ti67 : env.ti 67 = some ⟨.func, 1, 8, .nilfunc⟩ := rfl
@[go_sem] theorem ti68 : env.ti 68 = some ⟨.func, 1, 8, .nilfunc⟩ := rfl
@[go_sem] theorem ti69 : env.ti 69 = some ⟨.func, 1, 8, .nilfunc⟩ := rfl
@[go_sem] theorem ti70 : env.ti 70 = some ⟨.func, 1, 8, .nilfunc⟩ := rfl
@[go_sem] theorem ti71 : env.ti 71 = some ⟨.func, 1, 8, .nilfunc⟩ := rfl
@[go_sem] theorem ti72 : env.ti 72 = some ⟨.func, 1, 8, .nilfunc⟩ := rfl
@[go_sem] theorem ti73 : env.ti 73 = some ⟨.func, 1, 8, .nilfunc⟩ := rfl
@[go_sem] theorem ti74 : env.ti 74 = some ⟨.other, 1, 0, .tuple [.agg [.lit true 0 [], .lit true 0 []], .int .i64 (0)]⟩ := rfl
@[go_sem] theorem ti75 : env.ti 75 = some ⟨.func, 1, 8, .nilfunc⟩ := rfl
@[go_sem] theorem ti76 : env.ti 76 = some ⟨.func, 1, 8, .nilfunc⟩ := rfl
@[go_sem] theorem ti77 : env.ti 77 = some ⟨.func, 1, 8, .nilfunc⟩ := rfl
@[go_sem] theorem ti78 : env.ti 78 = some ⟨.func, 1, 8, .nilfunc⟩ := rfl
@[go_sem] theorem ti79 : env.ti 79 = some ⟨.slice 45, 1, 24, .lit true 0 []⟩ := rfl
@[go_sem] theorem ti80 : env.ti 80 = some ⟨.func, 1, 8, .nilfunc⟩ := rfl
@[go_sem] theorem ti81 : env.ti 81 = some ⟨.func, 1, 8, .nilfunc⟩ := rfl
@[go_sem] theorem ti82 : env.ti 82 = some ⟨.func, 1, 8, .nilfunc⟩ := rfl
@[go_sem] theorem ti83 : env.ti 83 = some ⟨.func, 1, 8, .nilfunc⟩ := rfl
@[go_sem] theorem ti84 : env.ti 84 = some ⟨.func, 1, 8, .nilfunc⟩ := rfl
@[go_sem] theorem ti85 : env.ti 85 = some ⟨.func, 1, 8, .nilfunc⟩ := rfl
@[go_sem] theorem ti86 : env.ti 86 = some ⟨.other, 1, 0, .tuple [.agg [.lit true 0 [], .lit true 0 []], .bool false]⟩ := rfl
@[go_sem] theorem ti87 : env.ti 87 = some ⟨.func, 1, 8, .nilfunc⟩ := rfl
@[go_sem] theorem ti88 : env.ti 88 = some ⟨.ptr 102, 1, 8, .nilptr⟩ := rfl
@[go_sem] theorem ti89 : env.ti 89 = some ⟨.other, 1, 0, .tuple [.nilptr, .int .i64 (0)]⟩ := rfl
@[go_sem] theorem ti90 : env.ti 90 = some ⟨.func, 1, 8, .nilfunc⟩ := rfl
@[go_sem] theorem ti91 : env.ti 91 = some ⟨.func, 1, 8, .nilfunc⟩ := rfl
@[go_sem] theorem ti92 : env.ti 92 = some ⟨.func, 1, 8, .nilfunc⟩ := rfl
@[go_sem] theorem ti93 : env.ti 93 = some ⟨.func, 1, 8, .nilfunc⟩ := rfl
@[go_sem] theorem ti94 : env.ti 94 = some ⟨.func, 1, 8, .nilfunc⟩ := rfl
@[go_sem] theorem ti95 : env.ti 95 = some ⟨.func, 1, 8, .nilfunc⟩ := rfl
@[go_sem] theorem ti96 : env.ti 96 = some ⟨.func, 1, 8, .nilfunc⟩ := rfl
@[go_sem] theorem ti97 : env.ti 97 = some ⟨.func, 1, 8, .nilfunc⟩ := rfl
@[go_sem] theorem ti98 : env.ti 98 = some ⟨.func, 1, 8, .nilfunc⟩ := rfl
@[go_sem] theorem ti99 : env.ti 99 = some ⟨.func, 1, 8, .nilfunc⟩ := rfl
@[go_sem] theorem ti100 : env.ti 100 = some ⟨.slice 133, 1, 24, .lit true 0 []⟩ := rfl
@[go_sem] theorem ti101 : env.ti 101 = some ⟨.struct [(3, 0), (3, 1), (100, 2)], 3, 40, .agg [.int .i64 (0), .int .i64 (0), .lit true 0 []]⟩ := rfl
@[go_sem] theorem ti102 : env.ti 102 = some ⟨.struct [(3, 0), (3, 1), (100, 2)], 3, 40, .agg [.int .i64 (0), .int .i64 (0), .lit true 0 []]⟩ := rfl
@[go_sem] theorem ti103 : env.ti 103 = some ⟨.func, 1, 8, .nilfunc⟩ := rfl
@[go_sem] theorem ti104 : env.ti 104 = some ⟨.func, 1, 8, .nilfunc⟩ := rfl
@[go_sem] theorem ti105 : env.ti 105 = some ⟨.func, 1, 8, .nilfunc⟩ := rfl
@[go_sem] theorem ti106 : env.ti 106 = some ⟨.func, 1, 8, .nilfunc⟩ := rfl
@[go_sem] theorem ti107 : env.ti 107 = some ⟨.func, 1, 8, .nilfunc⟩ := rfl
@[go_sem] theorem ti108 : env.ti 108 = some ⟨.func, 1, 8, .nilfunc⟩ := rfl
@[go_sem] theorem ti109 : env.ti 109 = some ⟨.func, 1, 8, .nilfunc⟩ := rfl
@[go_sem] theorem ti110 : env.ti 110 = some ⟨.func, 1, 8, .nilfunc⟩ := rfl
@[go_sem] theorem ti111 : env.ti 111 = some ⟨.func, 1, 8, .nilfunc⟩ := rfl
@[go_sem] theorem ti112 : env.ti 112 = some ⟨.other, 1, 0, .tuple [.lit true 0 [], .lit true 0 []]⟩ := rfl
@[go_sem] theorem ti113 : env.ti 113 = some ⟨.func, 1, 8, .nilfunc⟩ := rfl
@[go_sem] theorem ti114 : env.ti 114 = some ⟨.func, 1, 8, .nilfunc⟩ := rfl
@[go_sem] theorem ti115 : env.ti 115 = some ⟨.func, 1, 8, .nilfunc⟩ := rfl
@[go_sem] theorem ti116 : env.ti 116 = some ⟨.func, 1, 8, .nilfunc⟩ := rfl
@[go_sem] theorem ti117 : env.ti 117 = some ⟨.func, 1, 8, .nilfunc⟩ := rfl
@[go_sem] theorem ti118 : env.ti 118 = some ⟨.func, 1, 8, .nilfunc⟩ := rfl
@[go_sem] theorem ti119 : env.ti 119 = some ⟨.func, 1, 8, .nilfunc⟩ := rfl
@[go_sem] theorem ti120 : env.ti 120 = some ⟨.func, 1, 8, .nilfunc⟩ := rfl
@[go_sem] theorem ti121 : env.ti 121 = some ⟨.func, 1, 8, .nilfunc⟩ := rfl
@[go_sem] theorem ti122 : env.ti 122 = some ⟨.other, 1, 0, .tuple [.lit true 0 [], .bool false]⟩ := rfl
@[go_sem] theorem ti123 : env.ti 123 = some ⟨.func, 1, 8, .nilfunc⟩ := rfl
@[go_sem] theorem ti124 : env.ti 124 = some ⟨.ptr 39, 1, 8, .nilptr⟩ := rfl
@[go_sem] theorem ti125 : env.ti 125 = some ⟨.func, 1, 8, .nilfunc⟩ := rfl
@[go_sem] theorem ti126 : env.ti 126 = some ⟨.func, 1, 8, .nilfunc⟩ := rfl
@[go_sem] theorem ti127 : env.ti 127 = some ⟨.func, 1, 8, .nilfunc⟩ := rfl
@[go_sem] theorem ti128 : env.ti 128 = some ⟨.func, 1, 8, .nilfunc⟩ := rfl
@[go_sem] theorem ti129 : env.ti 129 = some ⟨.func, 1, 8, .nilfunc⟩ := rfl
@[go_sem] theorem ti130 : env.ti 130 = some ⟨.func, 1, 8, .nilfunc⟩ := rfl
@[go_sem] theorem ti131 : env.ti 131 = some ⟨.int .i64, 1, 8, .int .i64 (0)⟩ := rfl
@[go_sem] theorem ti132 : env.ti 132 = some ⟨.struct [(3, 0), (3, 1), (131, 2), (131, 3), (131, 4)], 5, 40, .agg [.int .i64 (0), .int .i64 (0), .int .i64 (0), .int .i64 (0), .int .i64 (0)]⟩ := rfl
@[go_sem] theorem ti133 : env.ti 133 = some ⟨.struct [(3, 0), (3, 1), (131, 2), (131, 3), (131, 4)], 5, 40, .agg [.int .i64 (0), .int .i64 (0), .int .i64 (0), .int .i64 (0), .int .i64 (0)]⟩ := rfl
@[go_sem] theorem ti134 : env.ti 134 = some ⟨.func, 1, 8, .nilfunc⟩ := rfl
@[go_sem] theorem ti135 : env.ti 135 = some ⟨.func, 1, 8, .nilfunc⟩ := rfl
@[go_sem] theorem ti136 : env.ti 136 = some ⟨.ptr 133, 1, 8, .nilptr⟩ := rfl
@[go_sem] theorem ti137 : env.ti 137 = some ⟨.slice 131, 1, 24, .lit true 0 []⟩ := rfl
@[go_sem] theorem ti138 : env.ti 138 = some ⟨.func, 1, 8, .nilfunc⟩ := rfl
@[go_sem] theorem ti139 : env.ti 139 = some ⟨.func, 1, 8, .nilfunc⟩ := rfl
@[go_sem] theorem ti140 : env.ti 140 = some ⟨.slice 157, 1, 24, .lit true 0 []⟩ := rfl
@[go_sem] theorem ti141 : env.ti 141 = some ⟨.func, 1, 8, .nilfunc⟩ := rfl
@[go_sem] theorem ti142 : env.ti 142 = some ⟨.func, 1, 8, .nilfunc⟩ := rfl
@[go_sem] theorem ti143 : env.ti 143 = some ⟨.func, 1, 8, .nilfunc⟩ := rfl
@[go_sem] theorem ti144 : env.ti 144 = some ⟨.func, 1, 8, .nilfunc⟩ := rfl
@[go_sem] theorem ti145 : env.ti 145 = some ⟨.slice 150, 1, 24, .lit true 0 []⟩ := rfl
@[go_sem] theorem ti146 : env.ti 146 = some ⟨.func, 1, 8, .nilfunc⟩ := rfl
@[go_sem] theorem ti147 : env.ti 147 = some ⟨.other, 1, 0, .tuple [.lit true 0 [], .bool false]⟩ := rfl
@[go_sem] theorem ti148 : env.ti 148 = some ⟨.func, 1, 8, .nilfunc⟩ := rfl
@[go_sem] theorem ti149 : env.ti 149 = some ⟨.struct [(3, 0), (3, 1), (3, 2), (3, 3)], 4, 32, .agg [.int .i64 (0), .int .i64 (0), .int .i64 (0), .int .i64 (0)]⟩ := rfl
@[go_sem] theorem ti150 : env.ti 150 = some ⟨.struct [(3, 0), (3, 1), (3, 2), (3, 3)], 4, 32, .agg [.int .i64 (0), .int .i64 (0), .int .i64 (0), .int .i64 (0)]⟩ := rfl
@[go_sem] theorem ti151 : env.ti 151 = some ⟨.func, 1, 8, .nilfunc⟩ := rfl
@[go_sem] theorem ti152 : env.ti 152 = some ⟨.other, 1, 0, .tuple [.lit true 0 [], .lit true 0 []]⟩ := rfl
@[go_sem] theorem ti153 : env.ti 153 = some ⟨.func, 1, 8, .nilfunc⟩ := rfl
@[go_sem] theorem ti154 : env.ti 154 = some ⟨.slice 155, 1, 24, .lit true 0 []⟩ := rfl
@[go_sem] theorem ti155 : env.ti 155 = some ⟨.slice 159, 1, 24, .lit true 0 []⟩ := rfl
@[go_sem] theorem ti156 : env.ti 156 = some ⟨.struct [(3, 0), (4, 1), (3, 2), (131, 3), (3, 4), (3, 5)], 6, 48, .agg [.int .i64 (0), .bool false, .int .i64 (0), .int .i64 (0), .int .i64 (0), .int .i64 (0)]⟩ := rfl
@[go_sem] theorem ti157 : env.ti 157 = some ⟨.struct [(3, 0), (4, 1), (3, 2), (131, 3), (3, 4), (3, 5)], 6, 48, .agg [.int .i64 (0), .bool false, .int .i64 (0), .int .i64 (0), .int .i64 (0), .int .i64 (0)]⟩ := rfl
@[go_sem] theorem ti158 : env.ti 158 = some ⟨.struct [(4, 0), (3, 1), (157, 2)], 8, 64, .agg [.bool false, .int .i64 (0), .int .i64 (0), .bool false, .int .i64 (0), .int .i64 (0), .int .i64 (0), .int .i64 (0)]⟩ := rfl
@[go_sem] theorem ti159 : env.ti 159 = some ⟨.struct [(4, 0), (3, 1), (157, 2)], 8, 64, .agg [.bool false, .int .i64 (0), .int .i64 (0), .bool false, .int .i64 (0), .int .i64 (0), .int .i64 (0), .int .i64 (0)]⟩ := rfl
@[go_sem] theorem ti160 : env.ti 160 = some ⟨.func, 1, 8, .nilfunc⟩ := rfl
@[go_sem] theorem ti161 : env.ti 161 = some ⟨.map 3 4, 1, 8, .nilmap⟩ := rfl
@[go_sem] theorem ti162 : env.ti 162 = some ⟨.func, 1, 8, .nilfunc⟩ := rfl
@[go_sem] theorem ti163 : env.ti 163 = some ⟨.struct [(17, 0), (17, 1), (17, 2), (9, 3)], 4, 40, .agg [.nilptr, .nilptr, .nilptr, .str []]⟩ := rfl
@[go_sem] theorem ti164 : env.ti 164 = some ⟨.struct [(17, 0), (17, 1), (17, 2), (9, 3)], 4, 40, .agg [.nilptr, .nilptr, .nilptr, .str []]⟩ := rfl
@[go_sem] theorem ti165 : env.ti 165 = some ⟨.array 0 16, 0, 0, .agg []⟩ := rfl
@[go_sem] theorem ti166 : env.ti 166 = some ⟨.struct [(165, 0)], 0, 0, .agg []⟩ := rfl
@[go_sem] theorem ti167 : env.ti 167 = some ⟨.struct [(165, 0)], 0, 0, .agg []⟩ := rfl
@[go_sem] theorem ti168 : env.ti 168 = some ⟨.int .u32, 1, 4, .int .u32 (0)⟩ := rfl
@[go_sem] theorem ti169 : env.ti 169 = some ⟨.int .u8, 1, 1, .int .u8 (0)⟩ := rfl
@[go_sem] theorem ti170 : env.ti 170 = some ⟨.int .u8, 1, 1, .int .u8 (0)⟩ := rfl
@[go_sem] theorem ti171 : env.ti 171 = some ⟨.func, 1, 8, .nilfunc⟩ := rfl
@[go_sem] theorem ti172 : env.ti 172 = some ⟨.ptr 5, 1, 8, .nilptr⟩ := rfl
@[go_sem] theorem ti173 : env.ti 173 = some ⟨.int .i32, 1, 4, .int .i32 (0)⟩ := rfl
@[go_sem] theorem ti174 : env.ti 174 = some ⟨.int .i32, 1, 4, .int .i32 (0)⟩ := rfl
@[go_sem] theorem ti175 : env.ti 175 = some ⟨.struct [(12, 0), (12, 1), (168, 2), (169, 3), (5, 4), (5, 5), (170, 6), (171, 7), (172, 8), (173, 9), (174, 10)], 11, 48, .agg [.int .u64 (0), .int .u64 (0), .int .u32 (0), .int .u8 (0), .int .u8 (0), .int .u8 (0), .int .u8 (0), .nilfunc, .nilptr, .int .i32 (0), .int .i32 (0)]⟩ := rfl
@[go_sem] theorem ti176 : env.ti 176 = some ⟨.struct [(12, 0), (12, 1), (168, 2), (169, 3), (5, 4), (5, 5), (170, 6), (171, 7), (172, 8), (173, 9), (174, 10)], 11, 48, .agg [.int .u64 (0), .int .u64 (0), .int .u32 (0), .int .u8 (0), .int .u8 (0), .int .u8 (0), .int .u8 (0), .nilfunc, .nilptr, .int .i32 (0), .int .i32 (0)]⟩ := rfl
@[go_sem] theorem ti177 : env.ti 177 = some ⟨.other, 1, 8, .nilptr⟩ := rfl
@[go_sem] theorem hint2 : env.hint 2 = { } := rfl
theorem fn2 : env.fns 2 = some Try.f2 := rfl
@[go_sem] theorem hint3 : env.hint 3 = { lits := [0, 1] } := rfl
theorem fn3 : env.fns 3 = some Try.f3 := rfl
@[go_sem] theorem hint4 : env.hint 4 = { lits := [0] } := rfl
theorem fn4 : env.fns 4 = some Try.f4 := rfl
@[go_sem] theorem hint5 : env.hint 5 = { lits := [0, 1] } := rfl
theorem fn5 : env.fns 5 = some Try.f5 := rfl
@[go_sem] theorem hint6 : env.hint 6 = { lits := [0, 1], virt := [13, 147] } := rfl
theorem fn6 : env.fns 6 = some Try.f6 := rfl
@[go_sem] theorem hint7 : env.hint 7 = { lits := [0] } := rfl
theorem fn7 : env.fns 7 = some Try.f7 := rfl
@[go_sem] theorem hint8 : env.hint 8 = { lits := [0, 1, 2] } := rfl
theorem fn8 : env.fns 8 = some Try.f8 := rfl
@[go_sem] theorem hint9 : env.hint 9 = { lits := [0, 1] } := rfl
theorem fn9 : env.fns 9 = some Try.f9 := rfl
@[go_sem] theorem hint10 : env.hint 10 = { lits := [0, 1, 4], virt := [18, 21, 129] } := rfl
theorem fn10 : env.fns 10 = some Try.f10 := rfl
@[go_sem] theorem hint11 : env.hint 11 = { lits := [0, 1] } := rfl
theorem fn11 : env.fns 11 = some Try.f11 := rfl
@[go_sem] theorem hint12 : env.hint 12 = { lits := [0, 1] } := rfl
theorem fn12 : env.fns 12 = some Try.f12 := rfl
@[go_sem] theorem hint13 : env.hint 13 = { lits := [0] } := rfl
theorem fn13 : env.fns 13 = some Try.f13 := rfl
@[go_sem] theorem hint14 : env.hint 14 = { lits := [0] } := rfl
theorem fn14 : env.fns 14 = some Try.f14 := rfl
@[go_sem] theorem hint15 : env.hint 15 = { lits := [0] } := rfl
theorem fn15 : env.fns 15 = some Try.f15 := rfl
@[go_sem] theorem hint16 : env.hint 16 = { lits := [0, 5] } := rfl
theorem fn16 : env.fns 16 = some Try.f16 := rfl
@[go_sem] theorem hint17 : env.hint 17 = { lits := [0, 1], virt := [159] } := rfl
theorem fn17 : env.fns 17 = some Try.f17 := rfl
@[go_sem] theorem hint18 : env.hint 18 = { lits := [0] } := rfl
theorem fn18 : env.fns 18 = some Try.f18 := rfl
@[go_sem] theorem hint19 : env.hint 19 = { lits := [0, 1, 7] } := rfl
theorem fn19 : env.fns 19 = some Try.f19 := rfl
@[go_sem] theorem hint20 : env.hint 20 = { } := rfl
theorem fn20 : env.fns 20 = some Try.f20 := rfl
@[go_sem] theorem hint21 : env.hint 21 = { lits := [0] } := rfl
theorem fn21 : env.fns 21 = some Try.f21 := rfl
@[go_sem] theorem hint22 : env.hint 22 = { lits := [0] } := rfl
theorem fn22 : env.fns 22 = some Try.f22 := rfl
@[go_sem] theorem hint23 : env.hint 23 = { lits := [0] } := rfl
theorem fn23 : env.fns 23 = some Try.f23 := rfl
@[go_sem] theorem hint24 : env.hint 24 = { lits := [0, 1] } := rfl
theorem fn24 : env.fns 24 = some Try.f24 := rfl
@[go_sem] theorem hint25 : env.hint 25 = { lits := [0, 1] } := rfl
theorem fn25 : env.fns 25 = some Try.f25 := rfl
@[go_sem] theorem hint26 : env.hint 26 = { lits := [0] } := rfl
theorem fn26 : env.fns 26 = some Try.f26 := rfl
@[go_sem] theorem hint27 : env.hint 27 = { lits := [0] } := rfl
theorem fn27 : env.fns 27 = some Try.f27 := rfl
@[go_sem] theorem hint28 : env.hint 28 = { lits := [0] } := rfl
theorem fn28 : env.fns 28 = some Try.f28 := rfl
@[go_sem] theorem hint29 : env.hint 29 = { lits := [0] } := rfl
theorem fn29 : env.fns 29 = some Try.f29 := rfl
@[go_sem] theorem hint30 : env.hint 30 = { lits := [0] } := rfl
theorem fn30 : env.fns 30 = some Try.f30 := rfl
@[go_sem] theorem hint31 : env.hint 31 = { lits := [0] } := rfl
theorem fn31 : env.fns 31 = some Try.f31 := rfl
@[go_sem] theorem hint32 : env.hint 32 = { lits := [0, 1], virt := [8] } := rfl
theorem fn32 : env.fns 32 = some Try.f32 := rfl
@[go_sem] theorem hint33 : env.hint 33 = { lits := [0, 1] } := rfl
theorem fn33 : env.fns 33 = some Try.f33 := rfl
@[go_sem] theorem hint34 : env.hint 34 = { lits := [0], virt := [6] } := rfl
theorem fn34 : env.fns 34 = some Try.f34 := rfl
@[go_sem] theorem hint35 : env.hint 35 = { lits := [0] } := rfl
theorem fn35 : env.fns 35 = some Try.f35 := rfl
@[go_sem] theorem hint36 : env.hint 36 = { lits := [0] } := rfl
theorem fn36 : env.fns 36 = some Try.f36 := rfl
@[go_sem] theorem hint37 : env.hint 37 = { lits := [0], virt := [10, 12, 136] } := rfl
theorem fn37 : env.fns 37 = some Try.f37 := rfl
@[go_sem] theorem hint38 : env.hint 38 = { lits := [0] } := rfl
theorem fn38 : env.fns 38 = some Try.f38 := rfl
@[go_sem] theorem hint39 : env.hint 39 = { lits := [0, 1] } := rfl
theorem fn39 : env.fns 39 = some Try.f39 := rfl
@[go_sem] theorem hint40 : env.hint 40 = { lits := [0, 1] } := rfl
theorem fn40 : env.fns 40 = some Try.f40 := rfl
@[go_sem] theorem hint41 : env.hint 41 = { lits := [0] } := rfl
theorem fn41 : env.fns 41 = some Try.f41 := rfl
@[go_sem] theorem hint42 : env.hint 42 = { lits := [0], virt := [7] } := rfl
theorem fn42 : env.fns 42 = some Try.f42 := rfl
@[go_sem] theorem hint43 : env.hint 43 = { } := rfl
theorem fn43 : env.fns 43 = some Try.f43 := rfl
@[go_sem] theorem hint44 : env.hint 44 = { lits := [0] } := rfl
theorem fn44 : env.fns 44 = some Try.f44 := rfl
@[go_sem] theorem hint45 : env.hint 45 = { lits := [0, 1] } := rfl
theorem fn45 : env.fns 45 = some Try.f45 := rfl
@[go_sem] theorem hint46 : env.hint 46 = { lits := [0] } := rfl
theorem fn46 : env.fns 46 = some Try.f46 := rfl
@[go_sem] theorem hint47 : env.hint 47 = { lits := [0], virt := [7, 8] } := rfl
theorem fn47 : env.fns 47 = some Try.f47 := rfl
@[go_sem] theorem hint48 : env.hint 48 = { lits := [0] } := rfl
theorem fn48 : env.fns 48 = some Try.f48 := rfl
@[go_sem] theorem hint49 : env.hint 49 = { lits := [0, 1] } := rfl
theorem fn49 : env.fns 49 = some Try.f49 := rfl
@[go_sem] theorem hint50 : env.hint 50 = { } := rfl
theorem fn50 : env.fns 50 = some Try.f50 := rfl
@[go_sem] theorem hint51 : env.hint 51 = { lits := [0], virt := [6, 8, 50] } := rfl
theorem fn51 : env.fns 51 = some Try.f51 := rfl
@[go_sem] theorem hint52 : env.hint 52 = { lits := [0, 1] } := rfl
theorem fn52 : env.fns 52 = some Try.f52 := rfl
@[go_sem] theorem hint53 : env.hint 53 = { lits := [0], virt := [5, 7, 34] } := rfl
theorem fn53 : env.fns 53 = some Try.f53 := rfl
@[go_sem] theorem hint54 : env.hint 54 = { lits := [0] } := rfl
theorem fn54 : env.fns 54 = some Try.f54 := rfl
@[go_sem] theorem hint55 : env.hint 55 = { lits := [0] } := rfl
theorem fn55 : env.fns 55 = some Try.f55 := rfl
@[go_sem] theorem hint56 : env.hint 56 = { lits := [0] } := rfl
theorem fn56 : env.fns 56 = some Try.f56 := rfl
@[go_sem] theorem hint57 : env.hint 57 = { } := rfl
theorem fn57 : env.fns 57 = some Try.f57 := rfl
@[go_sem] theorem hint58 : env.hint 58 = { keep := [0], lits := [0] } := rfl
theorem fn58 : env.fns 58 = some Try.f58 := rfl
@[go_sem] theorem hint59 : env.hint 59 = { lits := [0] } := rfl
theorem fn59 : env.fns 59 = some Try.f59 := rfl
@[go_sem] theorem hint60 : env.hint 60 = { lits := [0, 5] } := rfl
theorem fn60 : env.fns 60 = some Try.f60 := rfl
@[go_sem] theorem hint61 : env.hint 61 = { lits := [0, 5] } := rfl
theorem fn61 : env.fns 61 = some Try.f61 := rfl
@[go_sem] theorem hint62 : env.hint 62 = { lits := [0] } := rfl
theorem fn62 : env.fns 62 = some Try.f62 := rfl
@[go_sem] theorem hint63 : env.hint 63 = { lits := [0] } := rfl
theorem fn63 : env.fns 63 = some Try.f63 := rfl
@[go_sem] theorem hint64 : env.hint 64 = { lits := [0] } := rfl
theorem fn64 : env.fns 64 = some Try.f64 := rfl
@[go_sem] theorem hint65 : env.hint 65 = { lits := [0] } := rfl
theorem fn65 : env.fns 65 = some Try.f65 := rfl
@[go_sem] theorem hint66 : env.hint 66 = { lits := [0] } := rfl
theorem fn66 : env.fns 66 = some Try.f66 := rfl
@[go_sem] theorem hint67 : env.hint 67 = { lits := [0] } := rfl
theorem fn67 : env.fns 67 = some Try.f67 := rfl
@[go_sem] theorem hint68 : env.hint 68 = { lits := [0] } := rfl
theorem fn68 : env.fns 68 = some Try.f68 := rfl
@[go_sem] theorem hint69 : env.hint 69 = { lits := [0] } := rfl
theorem fn69 : env.fns 69 = some Try.f69 := rfl
@[go_sem] theorem hint70 : env.hint 70 = { lits := [0] } := rfl
theorem fn70 : env.fns 70 = some Try.f70 := rfl
@[go_sem] theorem hint71 : env.hint 71 = { lits := [0], virt := [9, 11, 74, 123] } := rfl
theorem fn71 : env.fns 71 = some Try.f71 := rfl
@[go_sem] theorem hint72 : env.hint 72 = { } := rfl
theorem fn72 : env.fns 72 = some Try.f72 := rfl
@[go_sem] theorem hint73 : env.hint 73 = { lits := [0, 1] } := rfl
theorem fn73 : env.fns 73 = some Try.f73 := rfl
@[go_sem] theorem hint74 : env.hint 74 = { } := rfl
theorem fn74 : env.fns 74 = some Try.f74 := rfl
@[go_sem] theorem hint75 : env.hint 75 = { lits := [0] } := rfl
theorem fn75 : env.fns 75 = some Try.f75 := rfl
@[go_sem] theorem hint76 : env.hint 76 = { lits := [0], virt := [8] } := rfl
theorem fn76 : env.fns 76 = some Try.f76 := rfl
@[go_sem] theorem hint77 : env.hint 77 = { lits := [0, 1] } := rfl
theorem fn77 : env.fns 77 = some Try.f77 := rfl
@[go_sem] theorem hint78 : env.hint 78 = { lits := [0, 1] } := rfl
theorem fn78 : env.fns 78 = some Try.f78 := rfl
@[go_sem] theorem hint79 : env.hint 79 = { lits := [0, 1] } := rfl
theorem fn79 : env.fns 79 = some Try.f79 := rfl
@[go_sem] theorem hint80 : env.hint 80 = { lits := [0, 1] } := rfl
theorem fn80 : env.fns 80 = some Try.f80 := rfl
@[go_sem] theorem hint81 : env.hint 81 = { keepAll := true, lits := [0] } := rfl
theorem fn81 : env.fns 81 = some Try.f81 := rfl
@[go_sem] theorem hint82 : env.hint 82 = { lits := [1] } := rfl
theorem fn82 : env.fns 82 = some Try.f82 := rfl
@[go_sem] theorem hint83 : env.hint 83 = { ro := true } := rfl
theorem fn83 : env.fns 83 = some Try.f83 := rfl
@[go_sem] theorem hint84 : env.hint 84 = { lits := [0] } := rfl
theorem fn84 : env.fns 84 = some Try.f84 := rfl
@[go_sem] theorem hint85 : env.hint 85 = { lits := [0] } := rfl
theorem fn85 : env.fns 85 = some Try.f85 := rfl
@[go_sem] theorem hint86 : env.hint 86 = { lits := [0] } := rfl
theorem fn86 : env.fns 86 = some Try.f86 := rfl
@[go_sem] theorem hint87 : env.hint 87 = { lits := [0] } := rfl
theorem fn87 : env.fns 87 = some Try.f87 := rfl
@[go_sem] theorem hint88 : env.hint 88 = { ro := true } := rfl
theorem fn88 : env.fns 88 = some Try.f88 := rfl
@[go_sem] theorem hint89 : env.hint 89 = { keepAll := true, lits := [0], virt := [3, 33] } := rfl
theorem fn89 : env.fns 89 = some Try.f89 := rfl
@[go_sem] theorem hint90 : env.hint 90 = { ro := true } := rfl
theorem fn90 : env.fns 90 = some Try.f90 := rfl
@[go_sem] theorem hint91 : env.hint 91 = { lits := [0], virt := [3, 5, 44] } := rfl
theorem fn91 : env.fns 91 = some Try.f91 := rfl
@[go_sem] theorem hint92 : env.hint 92 = { keepAll := true, lits := [0] } := rfl
theorem fn92 : env.fns 92 = some Try.f92 := rfl
@[go_sem] theorem hint93 : env.hint 93 = { lits := [0, 1] } := rfl
theorem fn93 : env.fns 93 = some Try.f93 := rfl
@[go_sem] theorem hint94 : env.hint 94 = { lits := [0], virt := [7] } := rfl
theorem fn94 : env.fns 94 = some Try.f94 := rfl
@[go_sem] theorem hint95 : env.hint 95 = { } := rfl
theorem fn95 : env.fns 95 = some Try.f95 := rfl
@[go_sem] theorem hint96 : env.hint 96 = { keepAll := true, lits := [0], virt := [3, 42] } := rfl
theorem fn96 : env.fns 96 = some Try.f96 := rfl
@[go_sem] theorem hint97 : env.hint 97 = { lits := [0] } := rfl
theorem fn97 : env.fns 97 = some Try.f97 := rfl
@[go_sem] theorem hint98 : env.hint 98 = { } := rfl
theorem fn98 : env.fns 98 = some Try.f98 := rfl
@[go_sem] theorem hint99 : env.hint 99 = { } := rfl
theorem fn99 : env.fns 99 = some Try.f99 := rfl
@[go_sem] theorem hint100 : env.hint 100 = { } := rfl
theorem fn100 : env.fns 100 = some Try.f100 := rfl
@[go_sem] theorem hint101 : env.hint 101 = { } := rfl
theorem fn101 : env.fns 101 = some Try.f101 := rfl
@[go_sem] theorem hint102 : env.hint 102 = { lits := [0] } := rfl
theorem fn102 : env.fns 102 = some Try.f102 := rfl
@[go_sem] theorem hint103 : env.hint 103 = { lits := [0] } := rfl
theorem fn103 : env.fns 103 = some Try.f103 := rfl
@[go_sem] theorem hint104 : env.hint 104 = { } := rfl
theorem fn104 : env.fns 104 = some Try.f104 := rfl
@[go_sem] theorem hint105 : env.hint 105 = { lits := [0] } := rfl
theorem fn105 : env.fns 105 = some Try.f105 := rfl
@[go_sem] theorem hint106 : env.hint 106 = { ro := true, virt := [3, 41] } := rfl
theorem fn106 : env.fns 106 = some Try.f106 := rfl
@[go_sem] theorem hint107 : env.hint 107 = { lits := [0, 1] } := rfl
theorem fn107 : env.fns 107 = some Try.f107 := rfl
@[go_sem] theorem hint108 : env.hint 108 = { } := rfl
theorem fn108 : env.fns 108 = some Try.f108 := rfl
@[go_sem] theorem hint109 : env.hint 109 = { lits := [0] } := rfl
theorem fn109 : env.fns 109 = some Try.f109 := rfl
@[go_sem] theorem hint110 : env.hint 110 = { } := rfl
theorem fn110 : env.fns 110 = some Try.f110 := rfl
@[go_sem] theorem hint111 : env.hint 111 = { } := rfl
theorem fn111 : env.fns 111 = some Try.f111 := rfl
@[go_sem] theorem hint112 : env.hint 112 = { } := rfl
theorem fn112 : env.fns 112 = some Try.f112 := rfl
@[go_sem] theorem hint113 : env.hint 113 = { lits := [0] } := rfl
theorem fn113 : env.fns 113 = some Try.f113 := rfl
@[go_sem] theorem hint114 : env.hint 114 = { lits := [0, 1] } := rfl
theorem fn114 : env.fns 114 = some Try.f114 := rfl
@[go_sem] theorem hint115 : env.hint 115 = { } := rfl
theorem fn115 : env.fns 115 = some Try.f115 := rfl
@[go_sem] theorem hint116 : env.hint 116 = { keepAll := true, lits := [0] } := rfl
theorem fn116 : env.fns 116 = some Try.f116 := rfl
@[go_sem] theorem hint117 : env.hint 117 = { lits := [0] } := rfl
theorem fn117 : env.fns 117 = some Try.f117 := rfl
@[go_sem] theorem hint118 : env.hint 118 = { } := rfl
theorem fn118 : env.fns 118 = some Try.f118 := rfl
@[go_sem] theorem hint119 : env.hint 119 = { } := rfl
theorem fn119 : env.fns 119 = some Try.f119 := rfl
@[go_sem] theorem hint120 : env.hint 120 = { } := rfl
theorem fn120 : env.fns 120 = some Try.f120 := rfl
@[go_sem] theorem hint121 : env.hint 121 = { keepAll := true, lits := [0], virt := [20] } := rfl
theorem fn121 : env.fns 121 = some Try.f121 := rfl
@[go_sem] theorem hint122 : env.hint 122 = { } := rfl
theorem fn122 : env.fns 122 = some Try.f122 := rfl
@[go_sem] theorem hint123 : env.hint 123 = { ro := true } := rfl
theorem fn123 : env.fns 123 = some Try.f123 := rfl
@[go_sem] theorem hint124 : env.hint 124 = { ro := true } := rfl
theorem fn124 : env.fns 124 = some Try.f124 := rfl
@[go_sem] theorem hint125 : env.hint 125 = { } := rfl
theorem fn125 : env.fns 125 = some Try.f125 := rfl
@[go_sem] theorem hint126 : env.hint 126 = { lits := [1] } := rfl
theorem fn126 : env.fns 126 = some Try.f126 := rfl
@[go_sem] theorem hint127 : env.hint 127 = { lits := [0] } := rfl
theorem fn127 : env.fns 127 = some Try.f127 := rfl
@[go_sem] theorem hint128 : env.hint 128 = { lits := [0, 1] } := rfl
theorem fn128 : env.fns 128 = some Try.f128 := rfl
@[go_sem] theorem hint129 : env.hint 129 = { lits := [0] } := rfl
theorem fn129 : env.fns 129 = some Try.f129 := rfl
@[go_sem] theorem hint130 : env.hint 130 = { lits := [0] } := rfl
theorem fn130 : env.fns 130 = some Try.f130 := rfl
@[go_sem] theorem hint131 : env.hint 131 = { } := rfl
theorem fn131 : env.fns 131 = some Try.f131 := rfl
@[go_sem] theorem hint132 : env.hint 132 = { lits := [0] } := rfl
theorem fn132 : env.fns 132 = some Try.f132 := rfl
@[go_sem] theorem hint133 : env.hint 133 = { lits := [0] } := rfl
theorem fn133 : env.fns 133 = some Try.f133 := rfl
@[go_sem] theorem hint134 : env.hint 134 = { } := rfl
theorem fn134 : env.fns 134 = some Try.f134 := rfl
@[go_sem] theorem hint135 : env.hint 135 = { ro := true } := rfl
theorem fn135 : env.fns 135 = some Try.f135 := rfl
@[go_sem] theorem hint136 : env.hint 136 = { } := rfl
theorem fn136 : env.fns 136 = some Try.f136 := rfl
@[go_sem] theorem hint137 : env.hint 137 = { ro := true, lits := [1] } := rfl
theorem fn137 : env.fns 137 = some Try.f137 := rfl
@[go_sem] theorem hint138 : env.hint 138 = { lits := [1] } := rfl
theorem fn138 : env.fns 138 = some Try.f138 := rfl
@[go_sem] theorem hint139 : env.hint 139 = { lits := [0] } := rfl
theorem fn139 : env.fns 139 = some Try.f139 := rfl
@[go_sem] theorem hint140 : env.hint 140 = { keepAll := true, lits := [0], virt := [4] } := rfl
theorem fn140 : env.fns 140 = some Try.f140 := rfl
@[go_sem] theorem hint141 : env.hint 141 = { lits := [0, 2], virt := [10] } := rfl
theorem fn141 : env.fns 141 = some Try.f141 := rfl
@[go_sem] theorem hint142 : env.hint 142 = { lits := [0], virt := [8, 9, 16] } := rfl
theorem fn142 : env.fns 142 = some Try.f142 := rfl
@[go_sem] theorem hint143 : env.hint 143 = { lits := [0] } := rfl
theorem fn143 : env.fns 143 = some Try.f143 := rfl
@[go_sem] theorem hint144 : env.hint 144 = { ro := true, virt := [15, 29] } := rfl
theorem fn144 : env.fns 144 = some Try.f144 := rfl
@[go_sem] theorem hint145 : env.hint 145 = { ro := true, lits := [1], virt := [5] } := rfl
theorem fn145 : env.fns 145 = some Try.f145 := rfl
@[go_sem] theorem hint146 : env.hint 146 = { lits := [0], virt := [5] } := rfl
theorem fn146 : env.fns 146 = some Try.f146 := rfl
end Go.Proofs.Ytgfejpngfikjiaa.Tidy
