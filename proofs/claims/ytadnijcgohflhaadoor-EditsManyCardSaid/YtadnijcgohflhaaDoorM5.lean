/- Parts of the proof of CEditsMany: Tab, F1, F2, F3. No conditions. -/
import Derived.Test.YtadnijcgohflhaaDoorM4
import Derived.Test.YtadnijcgohflhaaDoorProg
import Derived.KernelRfl
namespace Go.Sy
open Go.Proofs
def tt : List (Nat × TI) := [
  (1, ⟨1, false, [.v .nilFunc], [], .func, 8⟩),
  (2, ⟨1, false, [.v (.int .i64 0)], [], .int .i64, 8⟩),
  (3, ⟨1, false, [.v (.int .i64 0)], [], .int .i64, 8⟩),
  (4, ⟨1, false, [.ff], [], .bool, 1⟩),
  (5, ⟨1, false, [.v (.int .u8 0)], [], .int .u8, 1⟩),
  (6, ⟨1, false, [.v (.int .u8 0)], [], .int .u8, 1⟩),
  (7, ⟨4, true, [.v (.int .i64 0), .v (.int .i64 0), .ff, .v (.int .u8 0)], [(0, 1, some false), (1, 1, some false), (2, 1, some false), (3, 1, some false)], .struct, 24⟩),
  (8, ⟨4, true, [.v (.int .i64 0), .v (.int .i64 0), .ff, .v (.int .u8 0)], [(0, 1, some false), (1, 1, some false), (2, 1, some false), (3, 1, some false)], .struct, 24⟩),
  (9, ⟨1, false, [.v (.string ⟨#[]⟩)], [], .str, 16⟩),
  (10, ⟨1, false, [.v (.string ⟨#[]⟩)], [], .str, 16⟩),
  (11, ⟨1, false, [.v (.string ⟨#[]⟩)], [], .str, 16⟩),
  (12, ⟨1, false, [.v (.int .u64 0)], [], .int .u64, 8⟩),
  (13, ⟨2, true, [.v (.string ⟨#[]⟩), .v (.int .u64 0)], [(0, 1, some false), (1, 1, some false)], .struct, 24⟩),
  (14, ⟨2, true, [.v (.string ⟨#[]⟩), .v (.int .u64 0)], [(0, 1, some false), (1, 1, some false)], .struct, 24⟩),
  (15, ⟨1, false, [.v (.pointer none)], [], .ptr 235, 8⟩),
  (16, ⟨1, false, [.v (.pointer none)], [], .ptr 238, 8⟩),
  (17, ⟨1, false, [.v (.pointer none)], [], .ptr 247, 8⟩),
  (18, ⟨1, true, [.v (.pointer none)], [(0, 1, some false)], .struct, 8⟩),
  (19, ⟨1, true, [.v (.pointer none)], [(0, 1, some false)], .struct, 8⟩),
  (20, ⟨1, false, [.v .nilIface], [], .iface, 16⟩),
  (21, ⟨1, false, [.v (.int .i32 0)], [], .int .i32, 4⟩),
  (22, ⟨3, true, [.ff, .v (.string ⟨#[]⟩), .v (.int .i64 0)], [(0, 1, some false), (1, 1, some false), (2, 1, some false)], .struct, 32⟩),
  (23, ⟨3, true, [.ff, .v (.string ⟨#[]⟩), .v (.int .i64 0)], [(0, 1, some false), (1, 1, some false), (2, 1, some false)], .struct, 32⟩),
  (24, ⟨1, false, [.v (.slice none 0 0)], [], .slice 27, 24⟩),
  (25, ⟨1, false, [.v (.slice none 0 0)], [], .slice 125, 24⟩),
  (26, ⟨8, true, [.v (.int .i64 0), .ff, .ff, .v (.string ⟨#[]⟩), .v (.int .i64 0), .v (.string ⟨#[]⟩), .v (.slice none 0 0), .v (.slice none 0 0)], [(0, 1, some false), (1, 1, some false), (2, 3, some true), (5, 1, some false), (6, 1, some false), (7, 1, some false)], .struct, 112⟩),
  (27, ⟨8, true, [.v (.int .i64 0), .ff, .ff, .v (.string ⟨#[]⟩), .v (.int .i64 0), .v (.string ⟨#[]⟩), .v (.slice none 0 0), .v (.slice none 0 0)], [(0, 1, some false), (1, 1, some false), (2, 3, some true), (5, 1, some false), (6, 1, some false), (7, 1, some false)], .struct, 112⟩),
  (28, ⟨1, false, [.v .nilFunc], [], .func, 8⟩),
  (29, ⟨1, false, [.v .nilFunc], [], .func, 8⟩),
  (30, ⟨1, false, [.v (.int .i64 0)], [], .int .i64, 8⟩),
  (31, ⟨1, false, [.v .nilFunc], [], .func, 8⟩),
  (32, ⟨1, false, [.v (.slice none 0 0)], [], .slice 36, 24⟩),
  (34, ⟨1, false, [.v .nilFunc], [], .func, 8⟩),
  (35, ⟨11, true, [.v (.int .i64 0), .v (.int .i64 0), .v (.int .i64 0), .v (.int .i64 0), .ff, .v (.string ⟨#[]⟩), .ff, .ff, .v (.string ⟨#[]⟩), .v (.int .i64 0), .v (.string ⟨#[]⟩)], [(0, 1, some false), (1, 1, some false), (2, 1, some false), (3, 1, some false), (4, 1, some false), (5, 1, some false), (6, 1, some false), (7, 3, some true), (10, 1, some false)], .struct, 112⟩),
  (36, ⟨11, true, [.v (.int .i64 0), .v (.int .i64 0), .v (.int .i64 0), .v (.int .i64 0), .ff, .v (.string ⟨#[]⟩), .ff, .ff, .v (.string ⟨#[]⟩), .v (.int .i64 0), .v (.string ⟨#[]⟩)], [(0, 1, some false), (1, 1, some false), (2, 1, some false), (3, 1, some false), (4, 1, some false), (5, 1, some false), (6, 1, some false), (7, 3, some true), (10, 1, some false)], .struct, 112⟩),
  (38, ⟨1, false, [.v .nilFunc], [], .func, 8⟩),
  (39, ⟨1, false, [.v .nilFunc], [], .func, 8⟩),
  (40, ⟨1, false, [.v .nilFunc], [], .func, 8⟩),
  (41, ⟨1, false, [.v .nilFunc], [], .func, 8⟩),
  (42, ⟨1, false, [.v .nilFunc], [], .func, 8⟩),
  (43, ⟨1, false, [.v (.slice none 0 0)], [], .slice 3, 24⟩),
  (44, ⟨1, false, [.v .nilFunc], [], .func, 8⟩),
  (45, ⟨1, false, [.v (.slice none 0 0)], [], .slice 129, 24⟩),
  (46, ⟨1, false, [.v .nilFunc], [], .func, 8⟩),
  (47, ⟨1, false, [.v .nilFunc], [], .func, 8⟩),
  (48, ⟨1, false, [.v (.slice none 0 0)], [], .slice 132, 24⟩),
  (49, ⟨1, false, [.v .nilFunc], [], .func, 8⟩),
  (51, ⟨1, false, [.v .nilFunc], [], .func, 8⟩),
  (52, ⟨1, false, [.v .nilFunc], [], .func, 8⟩),
  (53, ⟨1, false, [.v .nilFunc], [], .func, 8⟩),
  (54, ⟨1, false, [.v .nilFunc], [], .func, 8⟩),
  (55, ⟨1, false, [.v .nilFunc], [], .func, 8⟩),
  (56, ⟨1, false, [.v .nilFunc], [], .func, 8⟩),
  (57, ⟨1, false, [.v .nilFunc], [], .func, 8⟩),
  (58, ⟨1, false, [.v .nilFunc], [], .func, 8⟩),
  (59, ⟨1, false, [.v .nilFunc], [], .func, 8⟩),
  (60, ⟨1, false, [.v .nilFunc], [], .func, 8⟩),
  (61, ⟨1, false, [.v .nilFunc], [], .func, 8⟩),
  (62, ⟨1, false, [.v .nilFunc], [], .func, 8⟩),
  (63, ⟨1, false, [.v .nilFunc], [], .func, 8⟩),
  (64, ⟨1, false, [.v .nilFunc], [], .func, 8⟩),
  (66, ⟨1, false, [.v .nilFunc], [], .func, 8⟩),
  (67, ⟨1, false, [.v (.slice none 0 0)], [], .slice 75, 24⟩),
  (68, ⟨1, false, [.v .nilFunc], [], .func, 8⟩),
  (69, ⟨1, false, [.v (.slice none 0 0)], [], .slice 85, 24⟩),
  (70, ⟨2, true, [.v (.slice none 0 0), .v (.int .i64 0)], [(0, 1, some false), (1, 1, some false)], .struct, 32⟩),
  (71, ⟨2, true, [.v (.slice none 0 0), .v (.int .i64 0)], [(0, 1, some false), (1, 1, some false)], .struct, 32⟩),
  (73, ⟨1, false, [.v .nilFunc], [], .func, 8⟩),
  (74, ⟨1, false, [.v .nilFunc], [], .func, 8⟩),
  (75, ⟨1, false, [.v (.slice none 0 0)], [], .slice 9, 24⟩),
  (76, ⟨1, false, [.v .nilFunc], [], .func, 8⟩),
  (77, ⟨1, false, [.v (.slice none 0 0)], [], .slice 144, 24⟩),
  (78, ⟨2, true, [.v (.slice none 0 0), .v (.int .i64 0)], [(0, 1, some false), (1, 1, some false)], .struct, 32⟩),
  (79, ⟨2, true, [.v (.slice none 0 0), .v (.int .i64 0)], [(0, 1, some false), (1, 1, some false)], .struct, 32⟩),
  (80, ⟨1, false, [.v .nilFunc], [], .func, 8⟩),
  (81, ⟨1, false, [.v .nilFunc], [], .func, 8⟩),
  (82, ⟨1, false, [.v .nilFunc], [], .func, 8⟩),
  (83, ⟨1, false, [.v .nilFunc], [], .func, 8⟩),
  (84, ⟨3, true, [.v (.int .i64 0), .v (.slice none 0 0), .v (.int .i64 0)], [(0, 1, some false), (1, 1, some false), (2, 1, some false)], .struct, 40⟩),
  (85, ⟨3, true, [.v (.int .i64 0), .v (.slice none 0 0), .v (.int .i64 0)], [(0, 1, some false), (1, 1, some false), (2, 1, some false)], .struct, 40⟩),
  (86, ⟨1, false, [.v .nilFunc], [], .func, 8⟩),
  (87, ⟨1, false, [.v .nilFunc], [], .func, 8⟩),
  (88, ⟨2, true, [.v (.int .i64 0), .v (.string ⟨#[]⟩)], [(0, 1, some false), (1, 1, some false)], .struct, 24⟩),
  (89, ⟨2, true, [.v (.int .i64 0), .v (.string ⟨#[]⟩)], [(0, 1, some false), (1, 1, some false)], .struct, 24⟩),
  (90, ⟨1, false, [.v (.slice none 0 0)], [], .slice 89, 24⟩),
  (91, ⟨1, false, [.v .nilFunc], [], .func, 8⟩),
  (92, ⟨1, false, [.v .nilFunc], [], .func, 8⟩),
  (93, ⟨1, false, [.v .nilFunc], [], .func, 8⟩),
  (94, ⟨1, false, [.v .nilFunc], [], .func, 8⟩),
  (95, ⟨1, false, [.v .nilFunc], [], .func, 8⟩),
  (96, ⟨1, false, [.v .nilFunc], [], .func, 8⟩),
  (97, ⟨2, true, [.v (.int .i64 0), .v (.int .i64 0)], [(0, 1, some false), (1, 1, some false)], .struct, 16⟩),
  (98, ⟨2, true, [.v (.int .i64 0), .v (.int .i64 0)], [(0, 1, some false), (1, 1, some false)], .struct, 16⟩),
  (100, ⟨1, false, [.v .nilFunc], [], .func, 8⟩),
  (101, ⟨1, false, [.v .nilFunc], [], .func, 8⟩),
  (102, ⟨1, false, [.v .nilFunc], [], .func, 8⟩),
  (103, ⟨1, false, [.v .nilFunc], [], .func, 8⟩),
  (104, ⟨1, false, [.v .nilFunc], [], .func, 8⟩),
  (105, ⟨1, false, [.v .nilFunc], [], .func, 8⟩),
  (106, ⟨1, false, [.v .nilFunc], [], .func, 8⟩),
  (107, ⟨1, false, [.v .nilFunc], [], .func, 8⟩),
  (108, ⟨1, false, [.v .nilFunc], [], .func, 8⟩),
  (109, ⟨1, false, [.v .nilFunc], [], .func, 8⟩),
  (110, ⟨1, false, [.v .nilFunc], [], .func, 8⟩),
  (111, ⟨1, false, [.v .nilFunc], [], .func, 8⟩),
  (112, ⟨1, false, [.v (.pointer none)], [], .ptr 114, 8⟩),
  (113, ⟨1, true, [.v (.int .i64 0)], [(0, 1, some false)], .struct, 8⟩),
  (114, ⟨1, true, [.v (.int .i64 0)], [(0, 1, some false)], .struct, 8⟩),
  (115, ⟨1, false, [.v .nilFunc], [], .func, 8⟩),
  (116, ⟨1, false, [.v (.pointer none)], [], .ptr 118, 8⟩),
  (117, ⟨3, true, [.v (.slice none 0 0), .v (.int .i64 0), .v (.int .i64 0)], [(0, 1, some false), (1, 1, some false), (2, 1, some false)], .struct, 40⟩),
  (118, ⟨3, true, [.v (.slice none 0 0), .v (.int .i64 0), .v (.int .i64 0)], [(0, 1, some false), (1, 1, some false), (2, 1, some false)], .struct, 40⟩),
  (119, ⟨1, false, [.v .nilFunc], [], .func, 8⟩),
  (120, ⟨1, false, [.v (.pointer none)], [], .ptr 122, 8⟩),
  (121, ⟨2, true, [.v (.slice none 0 0), .v (.int .i64 0)], [(0, 1, some false), (1, 1, some false)], .struct, 32⟩),
  (122, ⟨2, true, [.v (.slice none 0 0), .v (.int .i64 0)], [(0, 1, some false), (1, 1, some false)], .struct, 32⟩),
  (123, ⟨1, false, [.v .nilFunc], [], .func, 8⟩),
  (124, ⟨9, true, [.v (.string ⟨#[]⟩), .v (.int .i64 0), .ff, .ff, .v (.string ⟨#[]⟩), .v (.int .i64 0), .v (.string ⟨#[]⟩), .v (.slice none 0 0), .v (.slice none 0 0)], [(0, 1, some false), (1, 8, some true)], .struct, 128⟩),
  (125, ⟨9, true, [.v (.string ⟨#[]⟩), .v (.int .i64 0), .ff, .ff, .v (.string ⟨#[]⟩), .v (.int .i64 0), .v (.string ⟨#[]⟩), .v (.slice none 0 0), .v (.slice none 0 0)], [(0, 1, some false), (1, 8, some true)], .struct, 128⟩),
  (126, ⟨1, false, [.v .nilFunc], [], .func, 8⟩),
  (127, ⟨1, false, [.v .nilFunc], [], .func, 8⟩),
  (128, ⟨3, true, [.v (.string ⟨#[]⟩), .v (.int .i64 0), .ff], [(0, 1, some false), (1, 1, some false), (2, 1, some false)], .struct, 32⟩),
  (129, ⟨3, true, [.v (.string ⟨#[]⟩), .v (.int .i64 0), .ff], [(0, 1, some false), (1, 1, some false), (2, 1, some false)], .struct, 32⟩),
  (130, ⟨1, false, [.v .nilFunc], [], .func, 8⟩),
  (131, ⟨1, false, [.v .nilFunc], [], .func, 8⟩),
  (132, ⟨11, true, [.v (.int .i64 0), .v (.int .i64 0), .v (.int .i64 0), .v (.int .i64 0), .ff, .v (.string ⟨#[]⟩), .ff, .ff, .v (.string ⟨#[]⟩), .v (.int .i64 0), .v (.string ⟨#[]⟩)], [(0, 1, some false), (1, 1, some false), (2, 1, some false), (3, 1, some false), (4, 1, some false), (5, 1, some false), (6, 1, some false), (7, 3, some true), (10, 1, some false)], .struct, 112⟩),
  (133, ⟨1, false, [.v (.pointer none)], [], .ptr 135, 8⟩),
  (134, ⟨3, true, [.v (.slice none 0 0), .v (.int .i64 0), .v (.int .i64 0)], [(0, 1, some false), (1, 1, some false), (2, 1, some false)], .struct, 40⟩),
  (135, ⟨3, true, [.v (.slice none 0 0), .v (.int .i64 0), .v (.int .i64 0)], [(0, 1, some false), (1, 1, some false), (2, 1, some false)], .struct, 40⟩),
  (136, ⟨1, false, [.v .nilFunc], [], .func, 8⟩),
  (138, ⟨1, false, [.v .nilFunc], [], .func, 8⟩),
  (140, ⟨1, false, [.v .nilFunc], [], .func, 8⟩),
  (141, ⟨1, false, [.v .nilFunc], [], .func, 8⟩),
  (142, ⟨1, false, [.v .nilFunc], [], .func, 8⟩),
  (143, ⟨1, false, [.v .nilFunc], [], .func, 8⟩),
  (144, ⟨3, true, [.v (.int .i64 0), .v (.slice none 0 0), .v (.int .i64 0)], [(0, 1, some false), (1, 1, some false), (2, 1, some false)], .struct, 40⟩),
  (145, ⟨1, false, [.v .nilFunc], [], .func, 8⟩),
  (146, ⟨1, false, [.v .nilFunc], [], .func, 8⟩),
  (147, ⟨1, false, [.v .nilFunc], [], .func, 8⟩),
  (148, ⟨1, false, [.v .nilFunc], [], .func, 8⟩),
  (149, ⟨1, false, [.v .nilFunc], [], .func, 8⟩),
  (150, ⟨1, false, [.v .nilFunc], [], .func, 8⟩),
  (151, ⟨1, false, [.v .nilFunc], [], .func, 8⟩),
  (152, ⟨3, true, [.v (.int .i64 0), .v (.int .i64 0), .v (.int .i64 0)], [(0, 1, some false), (1, 1, some false), (2, 1, some false)], .struct, 24⟩),
  (153, ⟨3, true, [.v (.int .i64 0), .v (.int .i64 0), .v (.int .i64 0)], [(0, 1, some false), (1, 1, some false), (2, 1, some false)], .struct, 24⟩),
  (155, ⟨1, false, [.v .nilFunc], [], .func, 8⟩),
  (156, ⟨1, false, [.v .nilFunc], [], .func, 8⟩),
  (157, ⟨1, false, [.v .nilFunc], [], .func, 8⟩),
  (158, ⟨24, true, [.v (.slice none 0 0), .v (.int .i64 0), .v (.int .i64 0), .v (.int .i64 0), .v (.int .i64 0), .v (.int .i64 0), .v (.int .i64 0), .ff, .v (.string ⟨#[]⟩), .ff, .ff, .v (.string ⟨#[]⟩), .v (.int .i64 0), .v (.string ⟨#[]⟩), .v (.int .i64 0), .ff, .ff, .v (.string ⟨#[]⟩), .v (.int .i64 0), .v (.string ⟨#[]⟩), .v (.slice none 0 0), .v (.slice none 0 0), .v (.int .i64 0), .v .nilFunc], [(0, 1, some false), (1, 1, some false), (2, 1, some false), (3, 11, some true), (14, 8, some true), (22, 1, some false), (23, 1, some false)], .struct, 280⟩),
  (159, ⟨24, true, [.v (.slice none 0 0), .v (.int .i64 0), .v (.int .i64 0), .v (.int .i64 0), .v (.int .i64 0), .v (.int .i64 0), .v (.int .i64 0), .ff, .v (.string ⟨#[]⟩), .ff, .ff, .v (.string ⟨#[]⟩), .v (.int .i64 0), .v (.string ⟨#[]⟩), .v (.int .i64 0), .ff, .ff, .v (.string ⟨#[]⟩), .v (.int .i64 0), .v (.string ⟨#[]⟩), .v (.slice none 0 0), .v (.slice none 0 0), .v (.int .i64 0), .v .nilFunc], [(0, 1, some false), (1, 1, some false), (2, 1, some false), (3, 11, some true), (14, 8, some true), (22, 1, some false), (23, 1, some false)], .struct, 280⟩),
  (160, ⟨1, false, [.v .nilFunc], [], .func, 8⟩),
  (161, ⟨1, false, [.v .nilFunc], [], .func, 8⟩),
  (162, ⟨1, false, [.v .nilFunc], [], .func, 8⟩),
  (163, ⟨1, false, [.v .nilFunc], [], .func, 8⟩),
  (164, ⟨1, false, [.v .nilFunc], [], .func, 8⟩),
  (165, ⟨1, false, [.v .nilFunc], [], .func, 8⟩),
  (166, ⟨1, false, [.v .nilFunc], [], .func, 8⟩),
  (167, ⟨1, false, [.v .nilFunc], [], .func, 8⟩),
  (168, ⟨1, false, [.v .nilFunc], [], .func, 8⟩),
  (169, ⟨1, false, [.v .nilFunc], [], .func, 8⟩),
  (170, ⟨1, false, [.v .nilFunc], [], .func, 8⟩),
  (171, ⟨1, false, [.v .nilFunc], [], .func, 8⟩),
  (172, ⟨1, false, [.v .nilFunc], [], .func, 8⟩),
  (173, ⟨1, false, [.v .nilFunc], [], .func, 8⟩),
  (174, ⟨1, false, [.v .nilFunc], [], .func, 8⟩),
  (175, ⟨1, false, [.v .nilFunc], [], .func, 8⟩),
  (177, ⟨1, false, [.v .nilFunc], [], .func, 8⟩),
  (178, ⟨1, false, [.v .nilFunc], [], .func, 8⟩),
  (179, ⟨1, false, [.v .nilFunc], [], .func, 8⟩),
  (180, ⟨1, false, [.v .nilFunc], [], .func, 8⟩),
  (181, ⟨1, false, [.v (.slice none 0 0)], [], .slice 4, 24⟩),
  (182, ⟨1, false, [.v .nilFunc], [], .func, 8⟩),
  (183, ⟨1, false, [.v .nilFunc], [], .func, 8⟩),
  (184, ⟨1, false, [.v (.slice none 0 0)], [], .slice 5, 24⟩),
  (185, ⟨1, false, [.v .nilFunc], [], .func, 8⟩),
  (186, ⟨1, false, [.v .nilFunc], [], .func, 8⟩),
  (187, ⟨1, false, [.v .nilFunc], [], .func, 8⟩),
  (188, ⟨1, false, [.v .nilFunc], [], .func, 8⟩),
  (189, ⟨1, false, [.v .nilFunc], [], .func, 8⟩),
  (190, ⟨1, false, [.v .nilFunc], [], .func, 8⟩),
  (191, ⟨1, false, [.v .nilFunc], [], .func, 8⟩),
  (192, ⟨1, false, [.v .nilFunc], [], .func, 8⟩),
  (193, ⟨1, false, [.v (.map none)], [], .map 9 4, 8⟩),
  (194, ⟨1, false, [.v .nilFunc], [], .func, 8⟩),
  (195, ⟨1, false, [.v .nilFunc], [], .func, 8⟩),
  (197, ⟨1, false, [.v .nilFunc], [], .func, 8⟩),
  (199, ⟨1, false, [.v .nilFunc], [], .func, 8⟩),
  (200, ⟨1, false, [.v (.slice none 0 0)], [], .slice 32, 24⟩),
  (201, ⟨1, false, [.v .nilFunc], [], .func, 8⟩),
  (202, ⟨1, false, [.v .nilFunc], [], .func, 8⟩),
  (203, ⟨1, false, [.v .nilFunc], [], .func, 8⟩),
  (204, ⟨1, false, [.v .nilFunc], [], .func, 8⟩),
  (205, ⟨1, false, [.v .nilFunc], [], .func, 8⟩),
  (206, ⟨3, true, [.v (.int .u8 0), .v (.int .u8 0), .v (.int .i32 0)], [(0, 1, some false), (1, 1, some false), (2, 1, some false)], .struct, 8⟩),
  (207, ⟨3, true, [.v (.int .u8 0), .v (.int .u8 0), .v (.int .i32 0)], [(0, 1, some false), (1, 1, some false), (2, 1, some false)], .struct, 8⟩),
  (208, ⟨12, true, [.v (.int .u8 0), .v (.int .u8 0), .v (.int .i32 0), .v (.int .u8 0), .v (.int .u8 0), .v (.int .i32 0), .v (.int .u8 0), .v (.int .u8 0), .v (.int .i32 0), .v (.int .u8 0), .v (.int .u8 0), .v (.int .i32 0)], [], .array 4 207, 32⟩),
  (209, ⟨1, false, [.v .nilFunc], [], .func, 8⟩),
  (210, ⟨1, false, [.v (.int .u64 0)], [], .int .u64, 8⟩),
  (211, ⟨1, false, [.v .nilFunc], [], .func, 8⟩),
  (212, ⟨1, false, [.v .nilFunc], [], .func, 8⟩),
  (214, ⟨256, true, List.replicate 256 .ff, [], .array 256 4, 256⟩),
  (216, ⟨1, false, [.v .nilFunc], [], .func, 8⟩),
  (217, ⟨1, false, [.v .nilFunc], [], .func, 8⟩),
  (218, ⟨1, false, [.v (.pointer none)], [], .ptr 214, 8⟩),
  (219, ⟨1, false, [.v .nilFunc], [], .func, 8⟩),
  (220, ⟨1, false, [.v .nilFunc], [], .func, 8⟩),
  (221, ⟨1, false, [.v .nilFunc], [], .func, 8⟩),
  (222, ⟨1, false, [.v .nilFunc], [], .func, 8⟩),
  (223, ⟨1, false, [.v .nilFunc], [], .func, 8⟩),
  (224, ⟨1, false, [.v .nilFunc], [], .func, 8⟩),
  (225, ⟨1, false, [.v .nilFunc], [], .func, 8⟩),
  (226, ⟨1, false, [.v .nilFunc], [], .func, 8⟩),
  (228, ⟨2, true, [.v (.int .u8 0), .v (.int .u8 0)], [(0, 1, some false), (1, 1, some false)], .struct, 2⟩),
  (229, ⟨2, true, [.v (.int .u8 0), .v (.int .u8 0)], [(0, 1, some false), (1, 1, some false)], .struct, 2⟩),
  (230, ⟨32, true, [.v (.int .u8 0), .v (.int .u8 0), .v (.int .u8 0), .v (.int .u8 0), .v (.int .u8 0), .v (.int .u8 0), .v (.int .u8 0), .v (.int .u8 0), .v (.int .u8 0), .v (.int .u8 0), .v (.int .u8 0), .v (.int .u8 0), .v (.int .u8 0), .v (.int .u8 0), .v (.int .u8 0), .v (.int .u8 0), .v (.int .u8 0), .v (.int .u8 0), .v (.int .u8 0), .v (.int .u8 0), .v (.int .u8 0), .v (.int .u8 0), .v (.int .u8 0), .v (.int .u8 0), .v (.int .u8 0), .v (.int .u8 0), .v (.int .u8 0), .v (.int .u8 0), .v (.int .u8 0), .v (.int .u8 0), .v (.int .u8 0), .v (.int .u8 0)], [], .array 16 229, 32⟩),
  (231, ⟨1, false, [.v .nilFunc], [], .func, 8⟩),
  (232, ⟨1, false, [.v .nilFunc], [], .func, 8⟩),
  (233, ⟨1, false, [.v .nilFunc], [], .func, 8⟩),
  (234, ⟨4, true, [.v (.pointer none), .v (.pointer none), .v (.pointer none), .v (.string ⟨#[]⟩)], [(0, 1, some false), (1, 1, some false), (2, 1, some false), (3, 1, some false)], .struct, 40⟩),
  (235, ⟨4, true, [.v (.pointer none), .v (.pointer none), .v (.pointer none), .v (.string ⟨#[]⟩)], [(0, 1, some false), (1, 1, some false), (2, 1, some false), (3, 1, some false)], .struct, 40⟩),
  (236, ⟨0, true, [], [], .array 0 16, 0⟩),
  (237, ⟨0, true, [], [(0, 0, some true)], .struct, 0⟩),
  (238, ⟨0, true, [], [(0, 0, some true)], .struct, 0⟩),
  (239, ⟨1, false, [.v (.int .u32 0)], [], .int .u32, 4⟩),
  (240, ⟨1, false, [.v (.int .u8 0)], [], .int .u8, 1⟩),
  (241, ⟨1, false, [.v (.int .u8 0)], [], .int .u8, 1⟩),
  (242, ⟨1, false, [.v .nilFunc], [], .func, 8⟩),
  (243, ⟨1, false, [.v (.pointer none)], [], .ptr 5, 8⟩),
  (244, ⟨1, false, [.v (.int .i32 0)], [], .int .i32, 4⟩),
  (245, ⟨1, false, [.v (.int .i32 0)], [], .int .i32, 4⟩),
  (246, ⟨11, true, [.v (.int .u64 0), .v (.int .u64 0), .v (.int .u32 0), .v (.int .u8 0), .v (.int .u8 0), .v (.int .u8 0), .v (.int .u8 0), .v .nilFunc, .v (.pointer none), .v (.int .i32 0), .v (.int .i32 0)], [(0, 1, some false), (1, 1, some false), (2, 1, some false), (3, 1, some false), (4, 1, some false), (5, 1, some false), (6, 1, some false), (7, 1, some false), (8, 1, some false), (9, 1, some false), (10, 1, some false)], .struct, 48⟩),
  (247, ⟨11, true, [.v (.int .u64 0), .v (.int .u64 0), .v (.int .u32 0), .v (.int .u8 0), .v (.int .u8 0), .v (.int .u8 0), .v (.int .u8 0), .v .nilFunc, .v (.pointer none), .v (.int .i32 0), .v (.int .i32 0)], [(0, 1, some false), (1, 1, some false), (2, 1, some false), (3, 1, some false), (4, 1, some false), (5, 1, some false), (6, 1, some false), (7, 1, some false), (8, 1, some false), (9, 1, some false), (10, 1, some false)], .struct, 48⟩),
  (248, ⟨1, false, [.v (.pointer none)], [], .other, 8⟩)
]
theorem tt1 : tiOf Tryd.prog 1 = some ⟨1, false, [.v .nilFunc], [], .func, 8⟩ := by kernel_rfl
theorem tt2 : tiOf Tryd.prog 2 = some ⟨1, false, [.v (.int .i64 0)], [], .int .i64, 8⟩ := by kernel_rfl
theorem tt3 : tiOf Tryd.prog 3 = some ⟨1, false, [.v (.int .i64 0)], [], .int .i64, 8⟩ := by kernel_rfl
theorem tt4 : tiOf Tryd.prog 4 = some ⟨1, false, [.ff], [], .bool, 1⟩ := by kernel_rfl
theorem tt5 : tiOf Tryd.prog 5 = some ⟨1, false, [.v (.int .u8 0)], [], .int .u8, 1⟩ := by kernel_rfl
theorem tt6 : tiOf Tryd.prog 6 = some ⟨1, false, [.v (.int .u8 0)], [], .int .u8, 1⟩ := by kernel_rfl
theorem tt7 : tiOf Tryd.prog 7 = some ⟨4, true, [.v (.int .i64 0), .v (.int .i64 0), .ff, .v (.int .u8 0)], [(0, 1, some false), (1, 1, some false), (2, 1, some false), (3, 1, some false)], .struct, 24⟩ := by kernel_rfl
theorem tt8 : tiOf Tryd.prog 8 = some ⟨4, true, [.v (.int .i64 0), .v (.int .i64 0), .ff, .v (.int .u8 0)], [(0, 1, some false), (1, 1, some false), (2, 1, some false), (3, 1, some false)], .struct, 24⟩ := by kernel_rfl
theorem tt9 : tiOf Tryd.prog 9 = some ⟨1, false, [.v (.string ⟨#[]⟩)], [], .str, 16⟩ := by kernel_rfl
theorem tt10 : tiOf Tryd.prog 10 = some ⟨1, false, [.v (.string ⟨#[]⟩)], [], .str, 16⟩ := by kernel_rfl
theorem tt11 : tiOf Tryd.prog 11 = some ⟨1, false, [.v (.string ⟨#[]⟩)], [], .str, 16⟩ := by kernel_rfl
theorem tt12 : tiOf Tryd.prog 12 = some ⟨1, false, [.v (.int .u64 0)], [], .int .u64, 8⟩ := by kernel_rfl
theorem tt13 : tiOf Tryd.prog 13 = some ⟨2, true, [.v (.string ⟨#[]⟩), .v (.int .u64 0)], [(0, 1, some false), (1, 1, some false)], .struct, 24⟩ := by kernel_rfl
theorem tt14 : tiOf Tryd.prog 14 = some ⟨2, true, [.v (.string ⟨#[]⟩), .v (.int .u64 0)], [(0, 1, some false), (1, 1, some false)], .struct, 24⟩ := by kernel_rfl
theorem tt15 : tiOf Tryd.prog 15 = some ⟨1, false, [.v (.pointer none)], [], .ptr 235, 8⟩ := by kernel_rfl
theorem tt16 : tiOf Tryd.prog 16 = some ⟨1, false, [.v (.pointer none)], [], .ptr 238, 8⟩ := by kernel_rfl
theorem tt17 : tiOf Tryd.prog 17 = some ⟨1, false, [.v (.pointer none)], [], .ptr 247, 8⟩ := by kernel_rfl
theorem tt18 : tiOf Tryd.prog 18 = some ⟨1, true, [.v (.pointer none)], [(0, 1, some false)], .struct, 8⟩ := by kernel_rfl
theorem tt19 : tiOf Tryd.prog 19 = some ⟨1, true, [.v (.pointer none)], [(0, 1, some false)], .struct, 8⟩ := by kernel_rfl
theorem tt20 : tiOf Tryd.prog 20 = some ⟨1, false, [.v .nilIface], [], .iface, 16⟩ := by kernel_rfl
theorem tt21 : tiOf Tryd.prog 21 = some ⟨1, false, [.v (.int .i32 0)], [], .int .i32, 4⟩ := by kernel_rfl
theorem tt22 : tiOf Tryd.prog 22 = some ⟨3, true, [.ff, .v (.string ⟨#[]⟩), .v (.int .i64 0)], [(0, 1, some false), (1, 1, some false), (2, 1, some false)], .struct, 32⟩ := by kernel_rfl
theorem tt23 : tiOf Tryd.prog 23 = some ⟨3, true, [.ff, .v (.string ⟨#[]⟩), .v (.int .i64 0)], [(0, 1, some false), (1, 1, some false), (2, 1, some false)], .struct, 32⟩ := by kernel_rfl
theorem tt24 : tiOf Tryd.prog 24 = some ⟨1, false, [.v (.slice none 0 0)], [], .slice 27, 24⟩ := by kernel_rfl
theorem tt25 : tiOf Tryd.prog 25 = some ⟨1, false, [.v (.slice none 0 0)], [], .slice 125, 24⟩ := by kernel_rfl
theorem tt26 : tiOf Tryd.prog 26 = some ⟨8, true, [.v (.int .i64 0), .ff, .ff, .v (.string ⟨#[]⟩), .v (.int .i64 0), .v (.string ⟨#[]⟩), .v (.slice none 0 0), .v (.slice none 0 0)], [(0, 1, some false), (1, 1, some false), (2, 3, some true), (5, 1, some false), (6, 1, some false), (7, 1, some false)], .struct, 112⟩ := by kernel_rfl
theorem tt27 : tiOf Tryd.prog 27 = some ⟨8, true, [.v (.int .i64 0), .ff, .ff, .v (.string ⟨#[]⟩), .v (.int .i64 0), .v (.string ⟨#[]⟩), .v (.slice none 0 0), .v (.slice none 0 0)], [(0, 1, some false), (1, 1, some false), (2, 3, some true), (5, 1, some false), (6, 1, some false), (7, 1, some false)], .struct, 112⟩ := by kernel_rfl
theorem tt28 : tiOf Tryd.prog 28 = some ⟨1, false, [.v .nilFunc], [], .func, 8⟩ := by kernel_rfl
theorem tt29 : tiOf Tryd.prog 29 = some ⟨1, false, [.v .nilFunc], [], .func, 8⟩ := by kernel_rfl
theorem tt30 : tiOf Tryd.prog 30 = some ⟨1, false, [.v (.int .i64 0)], [], .int .i64, 8⟩ := by kernel_rfl
theorem tt31 : tiOf Tryd.prog 31 = some ⟨1, false, [.v .nilFunc], [], .func, 8⟩ := by kernel_rfl
theorem tt32 : tiOf Tryd.prog 32 = some ⟨1, false, [.v (.slice none 0 0)], [], .slice 36, 24⟩ := by kernel_rfl
theorem tt34 : tiOf Tryd.prog 34 = some ⟨1, false, [.v .nilFunc], [], .func, 8⟩ := by kernel_rfl
theorem tt35 : tiOf Tryd.prog 35 = some ⟨11, true, [.v (.int .i64 0), .v (.int .i64 0), .v (.int .i64 0), .v (.int .i64 0), .ff, .v (.string ⟨#[]⟩), .ff, .ff, .v (.string ⟨#[]⟩), .v (.int .i64 0), .v (.string ⟨#[]⟩)], [(0, 1, some false), (1, 1, some false), (2, 1, some false), (3, 1, some false), (4, 1, some false), (5, 1, some false), (6, 1, some false), (7, 3, some true), (10, 1, some false)], .struct, 112⟩ := by kernel_rfl
theorem tt36 : tiOf Tryd.prog 36 = some ⟨11, true, [.v (.int .i64 0), .v (.int .i64 0), .v (.int .i64 0), .v (.int .i64 0), .ff, .v (.string ⟨#[]⟩), .ff, .ff, .v (.string ⟨#[]⟩), .v (.int .i64 0), .v (.string ⟨#[]⟩)], [(0, 1, some false), (1, 1, some false), (2, 1, some false), (3, 1, some false), (4, 1, some false), (5, 1, some false), (6, 1, some false), (7, 3, some true), (10, 1, some false)], .struct, 112⟩ := by kernel_rfl
theorem tt38 : tiOf Tryd.prog 38 = some ⟨1, false, [.v .nilFunc], [], .func, 8⟩ := by kernel_rfl
theorem tt39 : tiOf Tryd.prog 39 = some ⟨1, false, [.v .nilFunc], [], .func, 8⟩ := by kernel_rfl
theorem tt40 : tiOf Tryd.prog 40 = some ⟨1, false, [.v .nilFunc], [], .func, 8⟩ := by kernel_rfl
theorem tt41 : tiOf Tryd.prog 41 = some ⟨1, false, [.v .nilFunc], [], .func, 8⟩ := by kernel_rfl
theorem tt42 : tiOf Tryd.prog 42 = some ⟨1, false, [.v .nilFunc], [], .func, 8⟩ := by kernel_rfl
theorem tt43 : tiOf Tryd.prog 43 = some ⟨1, false, [.v (.slice none 0 0)], [], .slice 3, 24⟩ := by kernel_rfl
theorem tt44 : tiOf Tryd.prog 44 = some ⟨1, false, [.v .nilFunc], [], .func, 8⟩ := by kernel_rfl
theorem tt45 : tiOf Tryd.prog 45 = some ⟨1, false, [.v (.slice none 0 0)], [], .slice 129, 24⟩ := by kernel_rfl
theorem tt46 : tiOf Tryd.prog 46 = some ⟨1, false, [.v .nilFunc], [], .func, 8⟩ := by kernel_rfl
theorem tt47 : tiOf Tryd.prog 47 = some ⟨1, false, [.v .nilFunc], [], .func, 8⟩ := by kernel_rfl
theorem tt48 : tiOf Tryd.prog 48 = some ⟨1, false, [.v (.slice none 0 0)], [], .slice 132, 24⟩ := by kernel_rfl
theorem tt49 : tiOf Tryd.prog 49 = some ⟨1, false, [.v .nilFunc], [], .func, 8⟩ := by kernel_rfl
theorem tt51 : tiOf Tryd.prog 51 = some ⟨1, false, [.v .nilFunc], [], .func, 8⟩ := by kernel_rfl
theorem tt52 : tiOf Tryd.prog 52 = some ⟨1, false, [.v .nilFunc], [], .func, 8⟩ := by kernel_rfl
theorem tt53 : tiOf Tryd.prog 53 = some ⟨1, false, [.v .nilFunc], [], .func, 8⟩ := by kernel_rfl
theorem tt54 : tiOf Tryd.prog 54 = some ⟨1, false, [.v .nilFunc], [], .func, 8⟩ := by kernel_rfl
theorem tt55 : tiOf Tryd.prog 55 = some ⟨1, false, [.v .nilFunc], [], .func, 8⟩ := by kernel_rfl
theorem tt56 : tiOf Tryd.prog 56 = some ⟨1, false, [.v .nilFunc], [], .func, 8⟩ := by kernel_rfl
theorem tt57 : tiOf Tryd.prog 57 = some ⟨1, false, [.v .nilFunc], [], .func, 8⟩ := by kernel_rfl
theorem tt58 : tiOf Tryd.prog 58 = some ⟨1, false, [.v .nilFunc], [], .func, 8⟩ := by kernel_rfl
theorem tt59 : tiOf Tryd.prog 59 = some ⟨1, false, [.v .nilFunc], [], .func, 8⟩ := by kernel_rfl
theorem tt60 : tiOf Tryd.prog 60 = some ⟨1, false, [.v .nilFunc], [], .func, 8⟩ := by kernel_rfl
theorem tt61 : tiOf Tryd.prog 61 = some ⟨1, false, [.v .nilFunc], [], .func, 8⟩ := by kernel_rfl
theorem tt62 : tiOf Tryd.prog 62 = some ⟨1, false, [.v .nilFunc], [], .func, 8⟩ := by kernel_rfl
theorem tt63 : tiOf Tryd.prog 63 = some ⟨1, false, [.v .nilFunc], [], .func, 8⟩ := by kernel_rfl
theorem tt64 : tiOf Tryd.prog 64 = some ⟨1, false, [.v .nilFunc], [], .func, 8⟩ := by kernel_rfl
theorem tt66 : tiOf Tryd.prog 66 = some ⟨1, false, [.v .nilFunc], [], .func, 8⟩ := by kernel_rfl
theorem tt67 : tiOf Tryd.prog 67 = some ⟨1, false, [.v (.slice none 0 0)], [], .slice 75, 24⟩ := by kernel_rfl
theorem tt68 : tiOf Tryd.prog 68 = some ⟨1, false, [.v .nilFunc], [], .func, 8⟩ := by kernel_rfl
theorem tt69 : tiOf Tryd.prog 69 = some ⟨1, false, [.v (.slice none 0 0)], [], .slice 85, 24⟩ := by kernel_rfl
theorem tt70 : tiOf Tryd.prog 70 = some ⟨2, true, [.v (.slice none 0 0), .v (.int .i64 0)], [(0, 1, some false), (1, 1, some false)], .struct, 32⟩ := by kernel_rfl
theorem tt71 : tiOf Tryd.prog 71 = some ⟨2, true, [.v (.slice none 0 0), .v (.int .i64 0)], [(0, 1, some false), (1, 1, some false)], .struct, 32⟩ := by kernel_rfl
theorem tt73 : tiOf Tryd.prog 73 = some ⟨1, false, [.v .nilFunc], [], .func, 8⟩ := by kernel_rfl
theorem tt74 : tiOf Tryd.prog 74 = some ⟨1, false, [.v .nilFunc], [], .func, 8⟩ := by kernel_rfl
theorem tt75 : tiOf Tryd.prog 75 = some ⟨1, false, [.v (.slice none 0 0)], [], .slice 9, 24⟩ := by kernel_rfl
theorem tt76 : tiOf Tryd.prog 76 = some ⟨1, false, [.v .nilFunc], [], .func, 8⟩ := by kernel_rfl
theorem tt77 : tiOf Tryd.prog 77 = some ⟨1, false, [.v (.slice none 0 0)], [], .slice 144, 24⟩ := by kernel_rfl
theorem tt78 : tiOf Tryd.prog 78 = some ⟨2, true, [.v (.slice none 0 0), .v (.int .i64 0)], [(0, 1, some false), (1, 1, some false)], .struct, 32⟩ := by kernel_rfl
theorem tt79 : tiOf Tryd.prog 79 = some ⟨2, true, [.v (.slice none 0 0), .v (.int .i64 0)], [(0, 1, some false), (1, 1, some false)], .struct, 32⟩ := by kernel_rfl
theorem tt80 : tiOf Tryd.prog 80 = some ⟨1, false, [.v .nilFunc], [], .func, 8⟩ := by kernel_rfl
theorem tt81 : tiOf Tryd.prog 81 = some ⟨1, false, [.v .nilFunc], [], .func, 8⟩ := by kernel_rfl
theorem tt82 : tiOf Tryd.prog 82 = some ⟨1, false, [.v .nilFunc], [], .func, 8⟩ := by kernel_rfl
theorem tt83 : tiOf Tryd.prog 83 = some ⟨1, false, [.v .nilFunc], [], .func, 8⟩ := by kernel_rfl
theorem tt84 : tiOf Tryd.prog 84 = some ⟨3, true, [.v (.int .i64 0), .v (.slice none 0 0), .v (.int .i64 0)], [(0, 1, some false), (1, 1, some false), (2, 1, some false)], .struct, 40⟩ := by kernel_rfl
theorem tt85 : tiOf Tryd.prog 85 = some ⟨3, true, [.v (.int .i64 0), .v (.slice none 0 0), .v (.int .i64 0)], [(0, 1, some false), (1, 1, some false), (2, 1, some false)], .struct, 40⟩ := by kernel_rfl
theorem tt86 : tiOf Tryd.prog 86 = some ⟨1, false, [.v .nilFunc], [], .func, 8⟩ := by kernel_rfl
theorem tt87 : tiOf Tryd.prog 87 = some ⟨1, false, [.v .nilFunc], [], .func, 8⟩ := by kernel_rfl
theorem tt88 : tiOf Tryd.prog 88 = some ⟨2, true, [.v (.int .i64 0), .v (.string ⟨#[]⟩)], [(0, 1, some false), (1, 1, some false)], .struct, 24⟩ := by kernel_rfl
theorem tt89 : tiOf Tryd.prog 89 = some ⟨2, true, [.v (.int .i64 0), .v (.string ⟨#[]⟩)], [(0, 1, some false), (1, 1, some false)], .struct, 24⟩ := by kernel_rfl
theorem tt90 : tiOf Tryd.prog 90 = some ⟨1, false, [.v (.slice none 0 0)], [], .slice 89, 24⟩ := by kernel_rfl
theorem tt91 : tiOf Tryd.prog 91 = some ⟨1, false, [.v .nilFunc], [], .func, 8⟩ := by kernel_rfl
theorem tt92 : tiOf Tryd.prog 92 = some ⟨1, false, [.v .nilFunc], [], .func, 8⟩ := by kernel_rfl
theorem tt93 : tiOf Tryd.prog 93 = some ⟨1, false, [.v .nilFunc], [], .func, 8⟩ := by kernel_rfl
theorem tt94 : tiOf Tryd.prog 94 = some ⟨1, false, [.v .nilFunc], [], .func, 8⟩ := by kernel_rfl
theorem tt95 : tiOf Tryd.prog 95 = some ⟨1, false, [.v .nilFunc], [], .func, 8⟩ := by kernel_rfl
theorem tt96 : tiOf Tryd.prog 96 = some ⟨1, false, [.v .nilFunc], [], .func, 8⟩ := by kernel_rfl
theorem tt97 : tiOf Tryd.prog 97 = some ⟨2, true, [.v (.int .i64 0), .v (.int .i64 0)], [(0, 1, some false), (1, 1, some false)], .struct, 16⟩ := by kernel_rfl
theorem tt98 : tiOf Tryd.prog 98 = some ⟨2, true, [.v (.int .i64 0), .v (.int .i64 0)], [(0, 1, some false), (1, 1, some false)], .struct, 16⟩ := by kernel_rfl
theorem tt100 : tiOf Tryd.prog 100 = some ⟨1, false, [.v .nilFunc], [], .func, 8⟩ := by kernel_rfl
theorem tt101 : tiOf Tryd.prog 101 = some ⟨1, false, [.v .nilFunc], [], .func, 8⟩ := by kernel_rfl
theorem tt102 : tiOf Tryd.prog 102 = some ⟨1, false, [.v .nilFunc], [], .func, 8⟩ := by kernel_rfl
theorem tt103 : tiOf Tryd.prog 103 = some ⟨1, false, [.v .nilFunc], [], .func, 8⟩ := by kernel_rfl
theorem tt104 : tiOf Tryd.prog 104 = some ⟨1, false, [.v .nilFunc], [], .func, 8⟩ := by kernel_rfl
theorem tt105 : tiOf Tryd.prog 105 = some ⟨1, false, [.v .nilFunc], [], .func, 8⟩ := by kernel_rfl
theorem tt106 : tiOf Tryd.prog 106 = some ⟨1, false, [.v .nilFunc], [], .func, 8⟩ := by kernel_rfl
theorem tt107 : tiOf Tryd.prog 107 = some ⟨1, false, [.v .nilFunc], [], .func, 8⟩ := by kernel_rfl
theorem tt108 : tiOf Tryd.prog 108 = some ⟨1, false, [.v .nilFunc], [], .func, 8⟩ := by kernel_rfl
theorem tt109 : tiOf Tryd.prog 109 = some ⟨1, false, [.v .nilFunc], [], .func, 8⟩ := by kernel_rfl
theorem tt110 : tiOf Tryd.prog 110 = some ⟨1, false, [.v .nilFunc], [], .func, 8⟩ := by kernel_rfl
theorem tt111 : tiOf Tryd.prog 111 = some ⟨1, false, [.v .nilFunc], [], .func, 8⟩ := by kernel_rfl
theorem tt112 : tiOf Tryd.prog 112 = some ⟨1, false, [.v (.pointer none)], [], .ptr 114, 8⟩ := by kernel_rfl
theorem tt113 : tiOf Tryd.prog 113 = some ⟨1, true, [.v (.int .i64 0)], [(0, 1, some false)], .struct, 8⟩ := by kernel_rfl
theorem tt114 : tiOf Tryd.prog 114 = some ⟨1, true, [.v (.int .i64 0)], [(0, 1, some false)], .struct, 8⟩ := by kernel_rfl
theorem tt115 : tiOf Tryd.prog 115 = some ⟨1, false, [.v .nilFunc], [], .func, 8⟩ := by kernel_rfl
theorem tt116 : tiOf Tryd.prog 116 = some ⟨1, false, [.v (.pointer none)], [], .ptr 118, 8⟩ := by kernel_rfl
theorem tt117 : tiOf Tryd.prog 117 = some ⟨3, true, [.v (.slice none 0 0), .v (.int .i64 0), .v (.int .i64 0)], [(0, 1, some false), (1, 1, some false), (2, 1, some false)], .struct, 40⟩ := by kernel_rfl
theorem tt118 : tiOf Tryd.prog 118 = some ⟨3, true, [.v (.slice none 0 0), .v (.int .i64 0), .v (.int .i64 0)], [(0, 1, some false), (1, 1, some false), (2, 1, some false)], .struct, 40⟩ := by kernel_rfl
theorem tt119 : tiOf Tryd.prog 119 = some ⟨1, false, [.v .nilFunc], [], .func, 8⟩ := by kernel_rfl
theorem tt120 : tiOf Tryd.prog 120 = some ⟨1, false, [.v (.pointer none)], [], .ptr 122, 8⟩ := by kernel_rfl
theorem tt121 : tiOf Tryd.prog 121 = some ⟨2, true, [.v (.slice none 0 0), .v (.int .i64 0)], [(0, 1, some false), (1, 1, some false)], .struct, 32⟩ := by kernel_rfl
theorem tt122 : tiOf Tryd.prog 122 = some ⟨2, true, [.v (.slice none 0 0), .v (.int .i64 0)], [(0, 1, some false), (1, 1, some false)], .struct, 32⟩ := by kernel_rfl
theorem tt123 : tiOf Tryd.prog 123 = some ⟨1, false, [.v .nilFunc], [], .func, 8⟩ := by kernel_rfl
theorem tt124 : tiOf Tryd.prog 124 = some ⟨9, true, [.v (.string ⟨#[]⟩), .v (.int .i64 0), .ff, .ff, .v (.string ⟨#[]⟩), .v (.int .i64 0), .v (.string ⟨#[]⟩), .v (.slice none 0 0), .v (.slice none 0 0)], [(0, 1, some false), (1, 8, some true)], .struct, 128⟩ := by kernel_rfl
theorem tt125 : tiOf Tryd.prog 125 = some ⟨9, true, [.v (.string ⟨#[]⟩), .v (.int .i64 0), .ff, .ff, .v (.string ⟨#[]⟩), .v (.int .i64 0), .v (.string ⟨#[]⟩), .v (.slice none 0 0), .v (.slice none 0 0)], [(0, 1, some false), (1, 8, some true)], .struct, 128⟩ := by kernel_rfl
theorem tt126 : tiOf Tryd.prog 126 = some ⟨1, false, [.v .nilFunc], [], .func, 8⟩ := by kernel_rfl
theorem tt127 : tiOf Tryd.prog 127 = some ⟨1, false, [.v .nilFunc], [], .func, 8⟩ := by kernel_rfl
theorem tt128 : tiOf Tryd.prog 128 = some ⟨3, true, [.v (.string ⟨#[]⟩), .v (.int .i64 0), .ff], [(0, 1, some false), (1, 1, some false), (2, 1, some false)], .struct, 32⟩ := by kernel_rfl
theorem tt129 : tiOf Tryd.prog 129 = some ⟨3, true, [.v (.string ⟨#[]⟩), .v (.int .i64 0), .ff], [(0, 1, some false), (1, 1, some false), (2, 1, some false)], .struct, 32⟩ := by kernel_rfl
theorem tt130 : tiOf Tryd.prog 130 = some ⟨1, false, [.v .nilFunc], [], .func, 8⟩ := by kernel_rfl
theorem tt131 : tiOf Tryd.prog 131 = some ⟨1, false, [.v .nilFunc], [], .func, 8⟩ := by kernel_rfl
theorem tt132 : tiOf Tryd.prog 132 = some ⟨11, true, [.v (.int .i64 0), .v (.int .i64 0), .v (.int .i64 0), .v (.int .i64 0), .ff, .v (.string ⟨#[]⟩), .ff, .ff, .v (.string ⟨#[]⟩), .v (.int .i64 0), .v (.string ⟨#[]⟩)], [(0, 1, some false), (1, 1, some false), (2, 1, some false), (3, 1, some false), (4, 1, some false), (5, 1, some false), (6, 1, some false), (7, 3, some true), (10, 1, some false)], .struct, 112⟩ := by kernel_rfl
theorem tt133 : tiOf Tryd.prog 133 = some ⟨1, false, [.v (.pointer none)], [], .ptr 135, 8⟩ := by kernel_rfl
theorem tt134 : tiOf Tryd.prog 134 = some ⟨3, true, [.v (.slice none 0 0), .v (.int .i64 0), .v (.int .i64 0)], [(0, 1, some false), (1, 1, some false), (2, 1, some false)], .struct, 40⟩ := by kernel_rfl
theorem tt135 : tiOf Tryd.prog 135 = some ⟨3, true, [.v (.slice none 0 0), .v (.int .i64 0), .v (.int .i64 0)], [(0, 1, some false), (1, 1, some false), (2, 1, some false)], .struct, 40⟩ := by kernel_rfl
theorem tt136 : tiOf Tryd.prog 136 = some ⟨1, false, [.v .nilFunc], [], .func, 8⟩ := by kernel_rfl
theorem tt138 : tiOf Tryd.prog 138 = some ⟨1, false, [.v .nilFunc], [], .func, 8⟩ := by kernel_rfl
theorem tt140 : tiOf Tryd.prog 140 = some ⟨1, false, [.v .nilFunc], [], .func, 8⟩ := by kernel_rfl
theorem tt141 : tiOf Tryd.prog 141 = some ⟨1, false, [.v .nilFunc], [], .func, 8⟩ := by kernel_rfl
theorem tt142 : tiOf Tryd.prog 142 = some ⟨1, false, [.v .nilFunc], [], .func, 8⟩ := by kernel_rfl
theorem tt143 : tiOf Tryd.prog 143 = some ⟨1, false, [.v .nilFunc], [], .func, 8⟩ := by kernel_rfl
theorem tt144 : tiOf Tryd.prog 144 = some ⟨3, true, [.v (.int .i64 0), .v (.slice none 0 0), .v (.int .i64 0)], [(0, 1, some false), (1, 1, some false), (2, 1, some false)], .struct, 40⟩ := by kernel_rfl
theorem tt145 : tiOf Tryd.prog 145 = some ⟨1, false, [.v .nilFunc], [], .func, 8⟩ := by kernel_rfl
theorem tt146 : tiOf Tryd.prog 146 = some ⟨1, false, [.v .nilFunc], [], .func, 8⟩ := by kernel_rfl
theorem tt147 : tiOf Tryd.prog 147 = some ⟨1, false, [.v .nilFunc], [], .func, 8⟩ := by kernel_rfl
theorem tt148 : tiOf Tryd.prog 148 = some ⟨1, false, [.v .nilFunc], [], .func, 8⟩ := by kernel_rfl
theorem tt149 : tiOf Tryd.prog 149 = some ⟨1, false, [.v .nilFunc], [], .func, 8⟩ := by kernel_rfl
theorem tt150 : tiOf Tryd.prog 150 = some ⟨1, false, [.v .nilFunc], [], .func, 8⟩ := by kernel_rfl
theorem tt151 : tiOf Tryd.prog 151 = some ⟨1, false, [.v .nilFunc], [], .func, 8⟩ := by kernel_rfl
theorem tt152 : tiOf Tryd.prog 152 = some ⟨3, true, [.v (.int .i64 0), .v (.int .i64 0), .v (.int .i64 0)], [(0, 1, some false), (1, 1, some false), (2, 1, some false)], .struct, 24⟩ := by kernel_rfl
theorem tt153 : tiOf Tryd.prog 153 = some ⟨3, true, [.v (.int .i64 0), .v (.int .i64 0), .v (.int .i64 0)], [(0, 1, some false), (1, 1, some false), (2, 1, some false)], .struct, 24⟩ := by kernel_rfl
theorem tt155 : tiOf Tryd.prog 155 = some ⟨1, false, [.v .nilFunc], [], .func, 8⟩ := by kernel_rfl
theorem tt156 : tiOf Tryd.prog 156 = some ⟨1, false, [.v .nilFunc], [], .func, 8⟩ := by kernel_rfl
theorem tt157 : tiOf Tryd.prog 157 = some ⟨1, false, [.v .nilFunc], [], .func, 8⟩ := by kernel_rfl
theorem tt158 : tiOf Tryd.prog 158 = some ⟨24, true, [.v (.slice none 0 0), .v (.int .i64 0), .v (.int .i64 0), .v (.int .i64 0), .v (.int .i64 0), .v (.int .i64 0), .v (.int .i64 0), .ff, .v (.string ⟨#[]⟩), .ff, .ff, .v (.string ⟨#[]⟩), .v (.int .i64 0), .v (.string ⟨#[]⟩), .v (.int .i64 0), .ff, .ff, .v (.string ⟨#[]⟩), .v (.int .i64 0), .v (.string ⟨#[]⟩), .v (.slice none 0 0), .v (.slice none 0 0), .v (.int .i64 0), .v .nilFunc], [(0, 1, some false), (1, 1, some false), (2, 1, some false), (3, 11, some true), (14, 8, some true), (22, 1, some false), (23, 1, some false)], .struct, 280⟩ := by kernel_rfl
theorem tt159 : tiOf Tryd.prog 159 = some ⟨24, true, [.v (.slice none 0 0), .v (.int .i64 0), .v (.int .i64 0), .v (.int .i64 0), .v (.int .i64 0), .v (.int .i64 0), .v (.int .i64 0), .ff, .v (.string ⟨#[]⟩), .ff, .ff, .v (.string ⟨#[]⟩), .v (.int .i64 0), .v (.string ⟨#[]⟩), .v (.int .i64 0), .ff, .ff, .v (.string ⟨#[]⟩), .v (.int .i64 0), .v (.string ⟨#[]⟩), .v (.slice none 0 0), .v (.slice none 0 0), .v (.int .i64 0), .v .nilFunc], [(0, 1, some false), (1, 1, some false), (2, 1, some false), (3, 11, some true), (14, 8, some true), (22, 1, some false), (23, 1, some false)], .struct, 280⟩ := by kernel_rfl
theorem tt160 : tiOf Tryd.prog 160 = some ⟨1, false, [.v .nilFunc], [], .func, 8⟩ := by kernel_rfl
theorem tt161 : tiOf Tryd.prog 161 = some ⟨1, false, [.v .nilFunc], [], .func, 8⟩ := by kernel_rfl
theorem tt162 : tiOf Tryd.prog 162 = some ⟨1, false, [.v .nilFunc], [], .func, 8⟩ := by kernel_rfl
theorem tt163 : tiOf Tryd.prog 163 = some ⟨1, false, [.v .nilFunc], [], .func, 8⟩ := by kernel_rfl
theorem tt164 : tiOf Tryd.prog 164 = some ⟨1, false, [.v .nilFunc], [], .func, 8⟩ := by kernel_rfl
theorem tt165 : tiOf Tryd.prog 165 = some ⟨1, false, [.v .nilFunc], [], .func, 8⟩ := by kernel_rfl
theorem tt166 : tiOf Tryd.prog 166 = some ⟨1, false, [.v .nilFunc], [], .func, 8⟩ := by kernel_rfl
theorem tt167 : tiOf Tryd.prog 167 = some ⟨1, false, [.v .nilFunc], [], .func, 8⟩ := by kernel_rfl
theorem tt168 : tiOf Tryd.prog 168 = some ⟨1, false, [.v .nilFunc], [], .func, 8⟩ := by kernel_rfl
theorem tt169 : tiOf Tryd.prog 169 = some ⟨1, false, [.v .nilFunc], [], .func, 8⟩ := by kernel_rfl
theorem tt170 : tiOf Tryd.prog 170 = some ⟨1, false, [.v .nilFunc], [], .func, 8⟩ := by kernel_rfl
theorem tt171 : tiOf Tryd.prog 171 = some ⟨1, false, [.v .nilFunc], [], .func, 8⟩ := by kernel_rfl
theorem tt172 : tiOf Tryd.prog 172 = some ⟨1, false, [.v .nilFunc], [], .func, 8⟩ := by kernel_rfl
theorem tt173 : tiOf Tryd.prog 173 = some ⟨1, false, [.v .nilFunc], [], .func, 8⟩ := by kernel_rfl
theorem tt174 : tiOf Tryd.prog 174 = some ⟨1, false, [.v .nilFunc], [], .func, 8⟩ := by kernel_rfl
theorem tt175 : tiOf Tryd.prog 175 = some ⟨1, false, [.v .nilFunc], [], .func, 8⟩ := by kernel_rfl
theorem tt177 : tiOf Tryd.prog 177 = some ⟨1, false, [.v .nilFunc], [], .func, 8⟩ := by kernel_rfl
theorem tt178 : tiOf Tryd.prog 178 = some ⟨1, false, [.v .nilFunc], [], .func, 8⟩ := by kernel_rfl
theorem tt179 : tiOf Tryd.prog 179 = some ⟨1, false, [.v .nilFunc], [], .func, 8⟩ := by kernel_rfl
theorem tt180 : tiOf Tryd.prog 180 = some ⟨1, false, [.v .nilFunc], [], .func, 8⟩ := by kernel_rfl
theorem tt181 : tiOf Tryd.prog 181 = some ⟨1, false, [.v (.slice none 0 0)], [], .slice 4, 24⟩ := by kernel_rfl
theorem tt182 : tiOf Tryd.prog 182 = some ⟨1, false, [.v .nilFunc], [], .func, 8⟩ := by kernel_rfl
theorem tt183 : tiOf Tryd.prog 183 = some ⟨1, false, [.v .nilFunc], [], .func, 8⟩ := by kernel_rfl
theorem tt184 : tiOf Tryd.prog 184 = some ⟨1, false, [.v (.slice none 0 0)], [], .slice 5, 24⟩ := by kernel_rfl
theorem tt185 : tiOf Tryd.prog 185 = some ⟨1, false, [.v .nilFunc], [], .func, 8⟩ := by kernel_rfl
theorem tt186 : tiOf Tryd.prog 186 = some ⟨1, false, [.v .nilFunc], [], .func, 8⟩ := by kernel_rfl
theorem tt187 : tiOf Tryd.prog 187 = some ⟨1, false, [.v .nilFunc], [], .func, 8⟩ := by kernel_rfl
theorem tt188 : tiOf Tryd.prog 188 = some ⟨1, false, [.v .nilFunc], [], .func, 8⟩ := by kernel_rfl
theorem tt189 : tiOf Tryd.prog 189 = some ⟨1, false, [.v .nilFunc], [], .func, 8⟩ := by kernel_rfl
theorem tt190 : tiOf Tryd.prog 190 = some ⟨1, false, [.v .nilFunc], [], .func, 8⟩ := by kernel_rfl
theorem tt191 : tiOf Tryd.prog 191 = some ⟨1, false, [.v .nilFunc], [], .func, 8⟩ := by kernel_rfl
theorem tt192 : tiOf Tryd.prog 192 = some ⟨1, false, [.v .nilFunc], [], .func, 8⟩ := by kernel_rfl
theorem tt193 : tiOf Tryd.prog 193 = some ⟨1, false, [.v (.map none)], [], .map 9 4, 8⟩ := by kernel_rfl
theorem tt194 : tiOf Tryd.prog 194 = some ⟨1, false, [.v .nilFunc], [], .func, 8⟩ := by kernel_rfl
theorem tt195 : tiOf Tryd.prog 195 = some ⟨1, false, [.v .nilFunc], [], .func, 8⟩ := by kernel_rfl
theorem tt197 : tiOf Tryd.prog 197 = some ⟨1, false, [.v .nilFunc], [], .func, 8⟩ := by kernel_rfl
theorem tt199 : tiOf Tryd.prog 199 = some ⟨1, false, [.v .nilFunc], [], .func, 8⟩ := by kernel_rfl
theorem tt200 : tiOf Tryd.prog 200 = some ⟨1, false, [.v (.slice none 0 0)], [], .slice 32, 24⟩ := by kernel_rfl
theorem tt201 : tiOf Tryd.prog 201 = some ⟨1, false, [.v .nilFunc], [], .func, 8⟩ := by kernel_rfl
theorem tt202 : tiOf Tryd.prog 202 = some ⟨1, false, [.v .nilFunc], [], .func, 8⟩ := by kernel_rfl
theorem tt203 : tiOf Tryd.prog 203 = some ⟨1, false, [.v .nilFunc], [], .func, 8⟩ := by kernel_rfl
theorem tt204 : tiOf Tryd.prog 204 = some ⟨1, false, [.v .nilFunc], [], .func, 8⟩ := by kernel_rfl
theorem tt205 : tiOf Tryd.prog 205 = some ⟨1, false, [.v .nilFunc], [], .func, 8⟩ := by kernel_rfl
theorem tt206 : tiOf Tryd.prog 206 = some ⟨3, true, [.v (.int .u8 0), .v (.int .u8 0), .v (.int .i32 0)], [(0, 1, some false), (1, 1, some false), (2, 1, some false)], .struct, 8⟩ := by kernel_rfl
theorem tt207 : tiOf Tryd.prog 207 = some ⟨3, true, [.v (.int .u8 0), .v (.int .u8 0), .v (.int .i32 0)], [(0, 1, some false), (1, 1, some false), (2, 1, some false)], .struct, 8⟩ := by kernel_rfl
theorem tt208 : tiOf Tryd.prog 208 = some ⟨12, true, [.v (.int .u8 0), .v (.int .u8 0), .v (.int .i32 0), .v (.int .u8 0), .v (.int .u8 0), .v (.int .i32 0), .v (.int .u8 0), .v (.int .u8 0), .v (.int .i32 0), .v (.int .u8 0), .v (.int .u8 0), .v (.int .i32 0)], [], .array 4 207, 32⟩ := by kernel_rfl
theorem tt209 : tiOf Tryd.prog 209 = some ⟨1, false, [.v .nilFunc], [], .func, 8⟩ := by kernel_rfl
theorem tt210 : tiOf Tryd.prog 210 = some ⟨1, false, [.v (.int .u64 0)], [], .int .u64, 8⟩ := by kernel_rfl
theorem tt211 : tiOf Tryd.prog 211 = some ⟨1, false, [.v .nilFunc], [], .func, 8⟩ := by kernel_rfl
theorem tt212 : tiOf Tryd.prog 212 = some ⟨1, false, [.v .nilFunc], [], .func, 8⟩ := by kernel_rfl
theorem tt214 : tiOf Tryd.prog 214 = some ⟨256, true, List.replicate 256 .ff, [], .array 256 4, 256⟩ := by kernel_rfl
theorem tt216 : tiOf Tryd.prog 216 = some ⟨1, false, [.v .nilFunc], [], .func, 8⟩ := by kernel_rfl
theorem tt217 : tiOf Tryd.prog 217 = some ⟨1, false, [.v .nilFunc], [], .func, 8⟩ := by kernel_rfl
theorem tt218 : tiOf Tryd.prog 218 = some ⟨1, false, [.v (.pointer none)], [], .ptr 214, 8⟩ := by kernel_rfl
theorem tt219 : tiOf Tryd.prog 219 = some ⟨1, false, [.v .nilFunc], [], .func, 8⟩ := by kernel_rfl
theorem tt220 : tiOf Tryd.prog 220 = some ⟨1, false, [.v .nilFunc], [], .func, 8⟩ := by kernel_rfl
theorem tt221 : tiOf Tryd.prog 221 = some ⟨1, false, [.v .nilFunc], [], .func, 8⟩ := by kernel_rfl
theorem tt222 : tiOf Tryd.prog 222 = some ⟨1, false, [.v .nilFunc], [], .func, 8⟩ := by kernel_rfl
theorem tt223 : tiOf Tryd.prog 223 = some ⟨1, false, [.v .nilFunc], [], .func, 8⟩ := by kernel_rfl
theorem tt224 : tiOf Tryd.prog 224 = some ⟨1, false, [.v .nilFunc], [], .func, 8⟩ := by kernel_rfl
theorem tt225 : tiOf Tryd.prog 225 = some ⟨1, false, [.v .nilFunc], [], .func, 8⟩ := by kernel_rfl
theorem tt226 : tiOf Tryd.prog 226 = some ⟨1, false, [.v .nilFunc], [], .func, 8⟩ := by kernel_rfl
theorem tt228 : tiOf Tryd.prog 228 = some ⟨2, true, [.v (.int .u8 0), .v (.int .u8 0)], [(0, 1, some false), (1, 1, some false)], .struct, 2⟩ := by kernel_rfl
theorem tt229 : tiOf Tryd.prog 229 = some ⟨2, true, [.v (.int .u8 0), .v (.int .u8 0)], [(0, 1, some false), (1, 1, some false)], .struct, 2⟩ := by kernel_rfl
theorem tt230 : tiOf Tryd.prog 230 = some ⟨32, true, [.v (.int .u8 0), .v (.int .u8 0), .v (.int .u8 0), .v (.int .u8 0), .v (.int .u8 0), .v (.int .u8 0), .v (.int .u8 0), .v (.int .u8 0), .v (.int .u8 0), .v (.int .u8 0), .v (.int .u8 0), .v (.int .u8 0), .v (.int .u8 0), .v (.int .u8 0), .v (.int .u8 0), .v (.int .u8 0), .v (.int .u8 0), .v (.int .u8 0), .v (.int .u8 0), .v (.int .u8 0), .v (.int .u8 0), .v (.int .u8 0), .v (.int .u8 0), .v (.int .u8 0), .v (.int .u8 0), .v (.int .u8 0), .v (.int .u8 0), .v (.int .u8 0), .v (.int .u8 0), .v (.int .u8 0), .v (.int .u8 0), .v (.int .u8 0)], [], .array 16 229, 32⟩ := by kernel_rfl
theorem tt231 : tiOf Tryd.prog 231 = some ⟨1, false, [.v .nilFunc], [], .func, 8⟩ := by kernel_rfl
theorem tt232 : tiOf Tryd.prog 232 = some ⟨1, false, [.v .nilFunc], [], .func, 8⟩ := by kernel_rfl
theorem tt233 : tiOf Tryd.prog 233 = some ⟨1, false, [.v .nilFunc], [], .func, 8⟩ := by kernel_rfl
theorem tt234 : tiOf Tryd.prog 234 = some ⟨4, true, [.v (.pointer none), .v (.pointer none), .v (.pointer none), .v (.string ⟨#[]⟩)], [(0, 1, some false), (1, 1, some false), (2, 1, some false), (3, 1, some false)], .struct, 40⟩ := by kernel_rfl
theorem tt235 : tiOf Tryd.prog 235 = some ⟨4, true, [.v (.pointer none), .v (.pointer none), .v (.pointer none), .v (.string ⟨#[]⟩)], [(0, 1, some false), (1, 1, some false), (2, 1, some false), (3, 1, some false)], .struct, 40⟩ := by kernel_rfl
theorem tt236 : tiOf Tryd.prog 236 = some ⟨0, true, [], [], .array 0 16, 0⟩ := by kernel_rfl
theorem tt237 : tiOf Tryd.prog 237 = some ⟨0, true, [], [(0, 0, some true)], .struct, 0⟩ := by kernel_rfl
theorem tt238 : tiOf Tryd.prog 238 = some ⟨0, true, [], [(0, 0, some true)], .struct, 0⟩ := by kernel_rfl
theorem tt239 : tiOf Tryd.prog 239 = some ⟨1, false, [.v (.int .u32 0)], [], .int .u32, 4⟩ := by kernel_rfl
theorem tt240 : tiOf Tryd.prog 240 = some ⟨1, false, [.v (.int .u8 0)], [], .int .u8, 1⟩ := by kernel_rfl
theorem tt241 : tiOf Tryd.prog 241 = some ⟨1, false, [.v (.int .u8 0)], [], .int .u8, 1⟩ := by kernel_rfl
theorem tt242 : tiOf Tryd.prog 242 = some ⟨1, false, [.v .nilFunc], [], .func, 8⟩ := by kernel_rfl
theorem tt243 : tiOf Tryd.prog 243 = some ⟨1, false, [.v (.pointer none)], [], .ptr 5, 8⟩ := by kernel_rfl
theorem tt244 : tiOf Tryd.prog 244 = some ⟨1, false, [.v (.int .i32 0)], [], .int .i32, 4⟩ := by kernel_rfl
theorem tt245 : tiOf Tryd.prog 245 = some ⟨1, false, [.v (.int .i32 0)], [], .int .i32, 4⟩ := by kernel_rfl
theorem tt246 : tiOf Tryd.prog 246 = some ⟨11, true, [.v (.int .u64 0), .v (.int .u64 0), .v (.int .u32 0), .v (.int .u8 0), .v (.int .u8 0), .v (.int .u8 0), .v (.int .u8 0), .v .nilFunc, .v (.pointer none), .v (.int .i32 0), .v (.int .i32 0)], [(0, 1, some false), (1, 1, some false), (2, 1, some false), (3, 1, some false), (4, 1, some false), (5, 1, some false), (6, 1, some false), (7, 1, some false), (8, 1, some false), (9, 1, some false), (10, 1, some false)], .struct, 48⟩ := by kernel_rfl
theorem tt247 : tiOf Tryd.prog 247 = some ⟨11, true, [.v (.int .u64 0), .v (.int .u64 0), .v (.int .u32 0), .v (.int .u8 0), .v (.int .u8 0), .v (.int .u8 0), .v (.int .u8 0), .v .nilFunc, .v (.pointer none), .v (.int .i32 0), .v (.int .i32 0)], [(0, 1, some false), (1, 1, some false), (2, 1, some false), (3, 1, some false), (4, 1, some false), (5, 1, some false), (6, 1, some false), (7, 1, some false), (8, 1, some false), (9, 1, some false), (10, 1, some false)], .struct, 48⟩ := by kernel_rfl
theorem tt248 : tiOf Tryd.prog 248 = some ⟨1, false, [.v (.pointer none)], [], .other, 8⟩ := by kernel_rfl
theorem TT : TTok Tryd.prog tt := TTok.cons tt1 (TTok.cons tt2 (TTok.cons tt3 (TTok.cons tt4 (TTok.cons tt5 (TTok.cons tt6 (TTok.cons tt7 (TTok.cons tt8 (TTok.cons tt9 (TTok.cons tt10 (TTok.cons tt11 (TTok.cons tt12 (TTok.cons tt13 (TTok.cons tt14 (TTok.cons tt15 (TTok.cons tt16 (TTok.cons tt17 (TTok.cons tt18 (TTok.cons tt19 (TTok.cons tt20 (TTok.cons tt21 (TTok.cons tt22 (TTok.cons tt23 (TTok.cons tt24 (TTok.cons tt25 (TTok.cons tt26 (TTok.cons tt27 (TTok.cons tt28 (TTok.cons tt29 (TTok.cons tt30 (TTok.cons tt31 (TTok.cons tt32 (TTok.cons tt34 (TTok.cons tt35 (TTok.cons tt36 (TTok.cons tt38 (TTok.cons tt39 (TTok.cons tt40 (TTok.cons tt41 (TTok.cons tt42 (TTok.cons tt43 (TTok.cons tt44 (TTok.cons tt45 (TTok.cons tt46 (TTok.cons tt47 (TTok.cons tt48 (TTok.cons tt49 (TTok.cons tt51 (TTok.cons tt52 (TTok.cons tt53 (TTok.cons tt54 (TTok.cons tt55 (TTok.cons tt56 (TTok.cons tt57 (TTok.cons tt58 (TTok.cons tt59 (TTok.cons tt60 (TTok.cons tt61 (TTok.cons tt62 (TTok.cons tt63 (TTok.cons tt64 (TTok.cons tt66 (TTok.cons tt67 (TTok.cons tt68 (TTok.cons tt69 (TTok.cons tt70 (TTok.cons tt71 (TTok.cons tt73 (TTok.cons tt74 (TTok.cons tt75 (TTok.cons tt76 (TTok.cons tt77 (TTok.cons tt78 (TTok.cons tt79 (TTok.cons tt80 (TTok.cons tt81 (TTok.cons tt82 (TTok.cons tt83 (TTok.cons tt84 (TTok.cons tt85 (TTok.cons tt86 (TTok.cons tt87 (TTok.cons tt88 (TTok.cons tt89 (TTok.cons tt90 (TTok.cons tt91 (TTok.cons tt92 (TTok.cons tt93 (TTok.cons tt94 (TTok.cons tt95 (TTok.cons tt96 (TTok.cons tt97 (TTok.cons tt98 (TTok.cons tt100 (TTok.cons tt101 (TTok.cons tt102 (TTok.cons tt103 (TTok.cons tt104 (TTok.cons tt105 (TTok.cons tt106 (TTok.cons tt107 (TTok.cons tt108 (TTok.cons tt109 (TTok.cons tt110 (TTok.cons tt111 (TTok.cons tt112 (TTok.cons tt113 (TTok.cons tt114 (TTok.cons tt115 (TTok.cons tt116 (TTok.cons tt117 (TTok.cons tt118 (TTok.cons tt119 (TTok.cons tt120 (TTok.cons tt121 (TTok.cons tt122 (TTok.cons tt123 (TTok.cons tt124 (TTok.cons tt125 (TTok.cons tt126 (TTok.cons tt127 (TTok.cons tt128 (TTok.cons tt129 (TTok.cons tt130 (TTok.cons tt131 (TTok.cons tt132 (TTok.cons tt133 (TTok.cons tt134 (TTok.cons tt135 (TTok.cons tt136 (TTok.cons tt138 (TTok.cons tt140 (TTok.cons tt141 (TTok.cons tt142 (TTok.cons tt143 (TTok.cons tt144 (TTok.cons tt145 (TTok.cons tt146 (TTok.cons tt147 (TTok.cons tt148 (TTok.cons tt149 (TTok.cons tt150 (TTok.cons tt151 (TTok.cons tt152 (TTok.cons tt153 (TTok.cons tt155 (TTok.cons tt156 (TTok.cons tt157 (TTok.cons tt158 (TTok.cons tt159 (TTok.cons tt160 (TTok.cons tt161 (TTok.cons tt162 (TTok.cons tt163 (TTok.cons tt164 (TTok.cons tt165 (TTok.cons tt166 (TTok.cons tt167 (TTok.cons tt168 (TTok.cons tt169 (TTok.cons tt170 (TTok.cons tt171 (TTok.cons tt172 (TTok.cons tt173 (TTok.cons tt174 (TTok.cons tt175 (TTok.cons tt177 (TTok.cons tt178 (TTok.cons tt179 (TTok.cons tt180 (TTok.cons tt181 (TTok.cons tt182 (TTok.cons tt183 (TTok.cons tt184 (TTok.cons tt185 (TTok.cons tt186 (TTok.cons tt187 (TTok.cons tt188 (TTok.cons tt189 (TTok.cons tt190 (TTok.cons tt191 (TTok.cons tt192 (TTok.cons tt193 (TTok.cons tt194 (TTok.cons tt195 (TTok.cons tt197 (TTok.cons tt199 (TTok.cons tt200 (TTok.cons tt201 (TTok.cons tt202 (TTok.cons tt203 (TTok.cons tt204 (TTok.cons tt205 (TTok.cons tt206 (TTok.cons tt207 (TTok.cons tt208 (TTok.cons tt209 (TTok.cons tt210 (TTok.cons tt211 (TTok.cons tt212 (TTok.cons tt214 (TTok.cons tt216 (TTok.cons tt217 (TTok.cons tt218 (TTok.cons tt219 (TTok.cons tt220 (TTok.cons tt221 (TTok.cons tt222 (TTok.cons tt223 (TTok.cons tt224 (TTok.cons tt225 (TTok.cons tt226 (TTok.cons tt228 (TTok.cons tt229 (TTok.cons tt230 (TTok.cons tt231 (TTok.cons tt232 (TTok.cons tt233 (TTok.cons tt234 (TTok.cons tt235 (TTok.cons tt236 (TTok.cons tt237 (TTok.cons tt238 (TTok.cons tt239 (TTok.cons tt240 (TTok.cons tt241 (TTok.cons tt242 (TTok.cons tt243 (TTok.cons tt244 (TTok.cons tt245 (TTok.cons tt246 (TTok.cons tt247 (TTok.cons tt248 (TTok.nil _)))))))))))))))))))))))))))))))))))))))))))))))))))))))))))))))))))))))))))))))))))))))))))))))))))))))))))))))))))))))))))))))))))))))))))))))))))))))))))))))))))))))))))))))))))))))))))))))))))))))))))))))))))))))))))))))))))))))))
end Go.Sy
namespace Go.Sy
open Go.Proofs
theorem mixed : Tryd.prog.follows .mixedOrders = true := by kernel_rfl

set_option maxRecDepth 100000 in
set_option maxHeartbeats 1000000 in
theorem few_c (σ : Snap) (g : GVal) : ∀ (r : List AT) (left deep : Int), RepV σ g r → -281474976710656 ≤ left → left ≤ 1099511627776 → 0 ≤ deep → deep ≤ 1000 →
    PlainS Tryd.prog 69 [.agg r, .a (.v (.int .i64 left)), .a (.v (.int .i64 deep))] σ (fun v => ∃ x : Int, v = .int .i64 x ∧ -1125899906842624 ≤ x ∧ x ≤ 1099511627776 ∧ (0 ≤ x → x + g.weight ≤ left)) := by
  induction g using GVal.byWeight with | _ g ih => ?_
  intro r left deep hr hl1 hl2 hd1 hd2
  obtain ⟨la, lc, lrows, ma, mc, vrows, rfl, V⟩ := hr.open
  have hdg := V.dg
  have hs := V.s
  have hll := V.ll
  have hkl := V.kl
  simp only [mostLen] at hdg hs hll hkl
  refine enter_p Tryd.func69 rfl rfl (by (repeat' (first | exact trivial | exact vCells_lt _ _ _ _ _ _ | constructor))) fun w => ?_
  (repeat (first | refine cj_seq ?_ | (refine cj_region ?_; refine oj_run TT rfl ?_) | refine oj_then ?_))
  refine cj_if rfl (fun h => ?_) (fun h => ?_)
  · (repeat (first | refine cj_seq ?_ | (refine cj_region ?_; refine oj_run TT rfl ?_) | refine oj_then ?_ | refine cj_ret ?_ | refine nj_then_ret ?_))
    refine nj_ret TT rfl fun β w' _ _ => ?_
    exact ⟨-1, rfl, by omega, by omega, by omega⟩
  have hd3 : deep ≤ 150 := by simpa using h
  have hw := g.weight_eq
  (repeat (first | refine cj_seq ?_ | (refine cj_region ?_; refine oj_run TT rfl ?_) | refine oj_then ?_ | refine cj_skip ?_ | refine cj_block ?_ | refine nj_then ?_ | (refine oj_minus rfl rfl rfl rfl rfl rfl (by omega) ?_; refine oj_run TT rfl ?_)))
  refine cj_cutB (fun _ => σ) (fun (x : Int) => [(1, .a (.v (.int .i64 x))), (2, .a (.v (.int .i64 deep))), (3, .a (.p 0 0))]) (fun _ => [(0, .loc 27, vCells g la lc ma mc)]) (fun _ => []) 1
    (fun x => -1125899906842624 ≤ x ∧ x ≤ 1099511627776 ∧ (0 ≤ x → x + 1 + g.s.size + g.n.dg.size + GVal.weights g.l ≤ left)) ?_ (fun x ⟨hx1, hx2, hx3⟩ => ?_)
  · refine cj_loop2 (fun _ _ => σ) (fun (k : Nat) (x : Int) => [(1, .a (.v (.int .i64 x))), (2, .a (.v (.int .i64 deep))), (3, .a (.p 0 0)), (7, .a (.v (.int .i64 k)))]) (fun _ _ => [(0, .loc 27, vCells g la lc ma mc)]) (fun _ _ => []) 1
      (fun k x => k ≤ g.l.length ∧ -1125899906842624 ≤ x ∧ x ≤ 1099511627776 ∧ (0 ≤ x → x + 1 + g.s.size + g.n.dg.size + GVal.weights (g.l.take k) ≤ left)) (fun k _ => g.l.length - k) 0 (left - 1 - g.s.size - g.n.dg.size)
      ⟨Nat.zero_le _, by omega, by omega, by simp [GVal.weights]; omega⟩ rfl (by (repeat (first | exact trivial | refine And.intro rfl ?_))) (by (repeat (first | exact trivial | refine And.intro rfl ?_))) rfl (by (repeat' (first | exact trivial | exact Nat.le_of_ble_eq_true rfl | constructor))) (by (repeat' (first | exact trivial | exact Nat.le_of_ble_eq_true rfl | exact vCells_lt _ _ _ _ _ _ | constructor))) fun k x ⟨hk, hx1, hx2, hx3⟩ => ?_
    (repeat (first | refine cj_seq ?_ | (refine cj_region ?_; refine oj_run TT rfl ?_)))
    refine oj_split 27 rfl (fun h => ?_) (fun h => ?_)
    · refine oj_run TT rfl ?_
      (repeat refine oj_then ?_)
      refine cj_if rfl (fun h0 => ?_) (fun h0 => ?_)
      · have hk' : k < g.l.length := by simpa using h
        have hx0 : 0 ≤ x := by simpa using h0
        (repeat (first | refine cj_seq ?_ | (refine cj_region ?_; refine oj_run TT rfl ?_) | refine cj_skip ?_ | refine cj_block ?_ | refine nj_then ?_))
        obtain ⟨r, hr1, hr2⟩ := V.l.get (List.getElem?_eq_getElem hk')
        obtain ⟨la', lc', lrows', ma', mc', vrows', rfl, V'⟩ := hr2.open
        refine oj_idx TT rfl rfl rfl rfl rfl rfl rfl rfl rfl V.L (by omega) hr1 (oj_run TT rfl ?_)
        (repeat (refine oj_add rfl rfl rfl rfl rfl rfl (by omega) ?_; refine oj_run TT rfl ?_))
        refine oj_callP rfl rfl rfl rfl rfl Tryd.call69 (by (repeat' (first | exact trivial | exact vCells_lt _ _ _ _ _ _ | constructor))) (ih _ (weight_l (List.getElem_mem hk')) _ _ _ V'.rep (by omega) (by omega) (by omega) (by omega)) fun v ⟨x', hv, hx4, hx5, hx6⟩ => ⟨.a (.v (.int .i64 x')), trivial, hv.symm, ?_⟩
        refine oj_run TT rfl ?_
        (repeat (first | (refine cj_region ?_; refine oj_run TT rfl ?_) | refine oj_nil ?_ | refine nj_then ?_ | refine nj_block ?_ | (refine oj_add rfl rfl rfl rfl rfl rfl (by omega) ?_; refine oj_run TT rfl ?_)))
        refine nj_again (k + 1, x') ⟨hk', hx4, hx5, fun h => ?_⟩ (by dsimp only; omega) rfl (by (repeat (first | exact trivial | refine And.intro rfl ?_))) (by (repeat (first | exact trivial | refine And.intro rfl ?_))) rfl (by (repeat' (first | exact trivial | exact Nat.le_of_ble_eq_true rfl | constructor))) (by (repeat' (first | exact trivial | exact Nat.le_of_ble_eq_true rfl | exact vCells_lt _ _ _ _ _ _ | constructor)))
        dsimp only at h ⊢
        have := hx3 (by omega)
        have := hx6 h
        rw [weights_take (List.getElem?_eq_getElem hk')]
        omega
      · have hx0 : x < 0 := by simpa using h0
        (repeat (first | refine cj_exit ?_ | refine nj_then_exit ?_ | refine nj_block_out ?_))
        refine nj_again x ⟨hx1, hx2, fun h => by omega⟩ (by omega) rfl (by (repeat (first | exact trivial | refine And.intro rfl ?_))) (by (repeat (first | exact trivial | refine And.intro rfl ?_))) rfl (by (repeat' (first | exact trivial | exact Nat.le_of_ble_eq_true rfl | constructor))) (by (repeat' (first | exact trivial | exact Nat.le_of_ble_eq_true rfl | exact vCells_lt _ _ _ _ _ _ | constructor)))
    · have hk0 : k = g.l.length := by simp at h; omega
      refine oj_run TT rfl ?_
      (repeat (first | refine oj_then ?_ | refine cj_if_f rfl ?_ | refine cj_exit ?_ | refine nj_then_exit ?_ | refine nj_block_out ?_))
      refine nj_again x ⟨hx1, hx2, fun h => ?_⟩ (by omega) rfl (by (repeat (first | exact trivial | refine And.intro rfl ?_))) (by (repeat (first | exact trivial | refine And.intro rfl ?_))) rfl (by (repeat' (first | exact trivial | exact Nat.le_of_ble_eq_true rfl | constructor))) (by (repeat' (first | exact trivial | exact Nat.le_of_ble_eq_true rfl | exact vCells_lt _ _ _ _ _ _ | constructor)))
      have := hx3 h
      rw [hk0, List.take_length] at this
      exact this
  · (repeat (first | refine cj_seq ?_ | (refine cj_region ?_; refine oj_run TT rfl ?_) | refine oj_then ?_ | refine cj_block ?_))
    refine cj_cutB (fun _ => σ) (fun (x : Int) => [(1, .a (.v (.int .i64 x))), (2, .a (.v (.int .i64 deep))), (3, .a (.p 0 0))]) (fun _ => [(0, .loc 27, vCells g la lc ma mc)]) (fun _ => []) 1
      (fun x => -1125899906842624 ≤ x ∧ x ≤ 1099511627776 ∧ (0 ≤ x → x + g.weight ≤ left)) ?_ (fun x ⟨hx1, hx2, hx3⟩ => ?_)
    · refine cj_loop2 (fun _ _ => σ) (fun (k : Nat) (x : Int) => [(1, .a (.v (.int .i64 x))), (2, .a (.v (.int .i64 deep))), (3, .a (.p 0 0)), (8, .a (.v (.int .i64 k)))]) (fun _ _ => [(0, .loc 27, vCells g la lc ma mc)]) (fun _ _ => []) 1
        (fun k x => k ≤ g.ks.length ∧ -1125899906842624 ≤ x ∧ x ≤ 1099511627776 ∧ (0 ≤ x → x + 1 + g.s.size + g.n.dg.size + GVal.weights g.l + sizes (g.ks.take k) + GVal.weights (g.vs.take k) ≤ left)) (fun k _ => g.ks.length - k) 0 x
        ⟨Nat.zero_le _, by omega, by omega, by simp [GVal.weights, sizes]; omega⟩ rfl (by (repeat (first | exact trivial | refine And.intro rfl ?_))) (by (repeat (first | exact trivial | refine And.intro rfl ?_))) rfl (by (repeat' (first | exact trivial | exact Nat.le_of_ble_eq_true rfl | constructor))) (by (repeat' (first | exact trivial | exact Nat.le_of_ble_eq_true rfl | exact vCells_lt _ _ _ _ _ _ | constructor))) fun k x ⟨hk, hx1, hx2, hx3⟩ => ?_
      (repeat (first | refine cj_seq ?_ | (refine cj_region ?_; refine oj_run TT rfl ?_)))
      refine oj_split 47 rfl (fun h => ?_) (fun h => ?_)
      · refine oj_run TT rfl ?_
        (repeat refine oj_then ?_)
        refine cj_if rfl (fun h0 => ?_) (fun h0 => ?_)
        · have hk' : k < g.ks.length := by simpa using h
          have hkv : k < g.vs.length := by have := V.kv; omega
          have hx0 : 0 ≤ x := by simpa using h0
          (repeat (first | refine cj_seq ?_ | refine cj_skip ?_ | refine cj_block ?_ | refine nj_then ?_))
          obtain ⟨r, hr1, hr2⟩ := V.v.get (List.getElem?_eq_getElem hkv)
          obtain ⟨la', lc', lrows', ma', mc', vrows', rfl, V'⟩ := hr2.open
          have hrow := keyRows_get (List.getElem?_eq_getElem hk') hr1
          have hkk := V.kk _ (List.getElem_mem hk')
          simp only [mostLen] at hkk
          refine cj_draw [(0,.pure),(1,.quiet),(2,.pure),(3,.pure),(4,.pure),(5,.quiet),(6,.pure),(7,.pure),(8,.quiet),(9,.pure),(10,.pure),(11,.pure),(12,.quiet),(13,.pure),(14,.pure),(15,.pure),(16,.pure),(17,.keep),(18,.pure)] mixed (by kernel_rfl) (oj_run TT rfl ?_)
          refine oj_idx TT rfl rfl rfl rfl rfl rfl rfl rfl rfl V.M (by omega) hrow (oj_run TT rfl ?_)
          refine oj_idx TT rfl rfl rfl rfl rfl rfl rfl rfl rfl V.M (by omega) hrow (oj_run TT rfl ?_)
          (repeat (first | (refine oj_add rfl rfl rfl rfl rfl rfl (by omega) ?_; refine oj_run TT rfl ?_) | (refine oj_minus rfl rfl rfl rfl rfl rfl (by omega) ?_; refine oj_run TT rfl ?_)))
          refine oj_callP rfl rfl rfl rfl rfl Tryd.call69 (by (repeat' (first | exact trivial | exact vCells_lt _ _ _ _ _ _ | constructor))) (ih _ (weight_v (List.getElem_mem hkv)) _ _ _ V'.rep (by omega) (by omega) (by omega) (by omega)) fun v ⟨x', hv, hx4, hx5, hx6⟩ => ⟨.a (.v (.int .i64 x')), trivial, hv.symm, ?_⟩
          refine oj_run TT rfl ?_
          (repeat (first | (refine cj_region ?_; refine oj_run TT rfl ?_) | refine oj_nil ?_ | refine nj_then ?_ | refine nj_block ?_ | (refine oj_add rfl rfl rfl rfl rfl rfl (by omega) ?_; refine oj_run TT rfl ?_)))
          refine nj_again (k + 1, x') ⟨hk', hx4, hx5, fun h => ?_⟩ (by dsimp only; omega) rfl (by (repeat (first | exact trivial | refine And.intro rfl ?_))) (by (repeat (first | exact trivial | refine And.intro rfl ?_))) rfl (by (repeat' (first | exact trivial | exact Nat.le_of_ble_eq_true rfl | constructor))) (by (repeat' (first | exact trivial | exact Nat.le_of_ble_eq_true rfl | exact vCells_lt _ _ _ _ _ _ | constructor)))
          dsimp only at h ⊢
          have := hx3 (by omega)
          have := hx6 h
          rw [weights_take (List.getElem?_eq_getElem hkv), sizes_take (List.getElem?_eq_getElem hk')]
          omega
        · have hx0 : x < 0 := by simpa using h0
          (repeat (first | refine cj_exit ?_ | refine nj_then_exit ?_ | refine nj_block_out ?_))
          refine nj_again x ⟨hx1, hx2, fun h => by omega⟩ (by omega) rfl (by (repeat (first | exact trivial | refine And.intro rfl ?_))) (by (repeat (first | exact trivial | refine And.intro rfl ?_))) rfl (by (repeat' (first | exact trivial | exact Nat.le_of_ble_eq_true rfl | constructor))) (by (repeat' (first | exact trivial | exact Nat.le_of_ble_eq_true rfl | exact vCells_lt _ _ _ _ _ _ | constructor)))
      · have hk0 : k = g.ks.length := by simp at h; omega
        refine oj_run TT rfl ?_
        (repeat (first | refine oj_then ?_ | refine cj_if_f rfl ?_ | refine cj_exit ?_ | refine nj_then_exit ?_ | refine nj_block_out ?_))
        refine nj_again x ⟨hx1, hx2, fun h => ?_⟩ (by omega) rfl (by (repeat (first | exact trivial | refine And.intro rfl ?_))) (by (repeat (first | exact trivial | refine And.intro rfl ?_))) rfl (by (repeat' (first | exact trivial | exact Nat.le_of_ble_eq_true rfl | constructor))) (by (repeat' (first | exact trivial | exact Nat.le_of_ble_eq_true rfl | exact vCells_lt _ _ _ _ _ _ | constructor)))
        have := hx3 h
        rw [hk0, List.take_length, V.kv, List.take_length] at this
        omega
    · (repeat (first | refine cj_seq ?_ | (refine cj_region ?_; refine oj_run TT rfl ?_) | refine oj_then ?_ | refine cj_ret ?_))
      refine nj_ret TT rfl fun β w' _ _ => ?_
      exact ⟨x, rfl, hx1, hx2, hx3⟩

set_option maxRecDepth 100000 in
set_option maxHeartbeats 1000000 in
theorem Few_c (σ : Snap) (g : GVal) (r : List AT) (most : Int) (hr : RepV σ g r) (h1 : 0 ≤ most) (h2 : most ≤ 1000000) :
    PlainS Tryd.prog 19 [.agg r, .a (.v (.int .i64 most))] σ (fun v => ∃ b : Bool, v = .bool b ∧ (b = true → (g.weight : Int) ≤ most)) := by
  obtain ⟨la, lc, lrows, ma, mc, vrows, rfl, V⟩ := hr.open
  refine enter_p Tryd.func19 rfl rfl (by (repeat' (first | exact trivial | exact vCells_lt _ _ _ _ _ _ | constructor))) fun w => ?_
  (repeat (first | refine cj_seq ?_ | (refine cj_region ?_; refine oj_run TT rfl ?_) | refine oj_then ?_))
  refine oj_callP rfl rfl rfl rfl rfl Tryd.call69 (by (repeat' (first | exact trivial | exact vCells_lt _ _ _ _ _ _ | constructor))) (few_c σ g _ _ _ V.rep (by omega) (by omega) (by omega) (by omega)) fun v ⟨x', hv, hx4, hx5, hx6⟩ => ⟨.a (.v (.int .i64 x')), trivial, hv.symm, ?_⟩
  refine oj_run TT rfl ?_
  (repeat (first | refine oj_then ?_ | refine cj_ret ?_))
  refine nj_ret TT rfl fun β w' _ _ => ?_
  refine ⟨_, rfl, fun h => ?_⟩
  have := hx6 (by simpa using h)
  have : 0 ≤ x' := by simpa using h
  omega
end Go.Sy
namespace Go.Sy
open Go.Proofs

theorem und214 : Tryd.prog.underlying 214 = some (.array 256 4) := by kernel_rfl
theorem und4 : Tryd.prog.underlying 4 = some .bool := by kernel_rfl
theorem cells4 : Tryd.prog.cellsOf 4 = 1 := by kernel_rfl

set_option maxRecDepth 100000 in
set_option maxHeartbeats 1000000 in
theorem contains_c (σ : Snap) (p : UInt8 → Bool) (g : Nat) (h : ∀ u : UInt8, σ.cell ⟨g, u.toNat, none⟩ = some (.bool (p u))) (u : UInt8) :
    PlainS Tryd.prog 165 [.a (.v (.pointer (some ⟨g, 0, none⟩))), .a (.v (.int .u8 u.toNat))] σ (fun v => v = .bool (p u)) := by
  refine enter_p Tryd.func165 rfl rfl (by (repeat' (first | exact trivial | constructor))) fun w => ?_
  have hu : u.toNat < 256 := u.toNat_lt
  (repeat (first | refine cj_seq ?_ | (refine cj_region ?_; refine oj_run TT rfl ?_) | refine oj_then ?_))
  refine oj_idx_ptr 4 256 und214 und4 rfl rfl rfl rfl rfl rfl (by omega) (by omega) ⟨g, u.toNat, none⟩ (by rw [show Tryd.prog.cellsOf 4 = 1 from cells4, add0, Nat.mul_one]; rfl) (oj_run TT rfl ?_)
  refine oj_ldS (c := .b (p u)) TT rfl rfl rfl rfl rfl rfl rfl rfl (h u) trivial (oj_run TT rfl ?_)
  (repeat (first | refine oj_then ?_ | refine cj_ret ?_))
  refine nj_ret TT rfl fun β w' _ _ => ?_
  rfl

set_option maxRecDepth 100000 in
set_option maxHeartbeats 1000000 in
theorem trimLeftASCII_c (σ : Snap) (p : UInt8 → Bool) (g : Nat) (h : ∀ u : UInt8, σ.cell ⟨g, u.toNat, none⟩ = some (.bool (p u))) (l : List UInt8) :
    PlainS Tryd.prog 158 [.a (.v (.string (mkB l))), .a (.v (.pointer (some ⟨g, 0, none⟩)))] σ (fun v => v = .string (mkB (l.dropWhile p))) := by
  refine enter_p Tryd.func158 rfl rfl (by (repeat' (first | exact trivial | constructor))) fun w => ?_
  (repeat (first | refine cj_seq ?_ | (refine cj_region ?_; refine oj_run TT rfl ?_) | refine oj_then ?_ | refine cj_block ?_))
  refine cj_loop (fun _ => σ) (fun (k : List UInt8) => [(0, .a (.v (.string (mkB k)))), (1, .a (.v (.pointer (some ⟨g, 0, none⟩))))]) (fun _ => []) (fun _ => []) 0
    (fun k => k.dropWhile p = l.dropWhile p) (fun k => k.length) l rfl rfl (by (repeat (first | exact trivial | refine And.intro rfl ?_))) (by (repeat (first | exact trivial | refine And.intro rfl ?_))) rfl (by (repeat' (first | exact trivial | constructor))) (by (repeat' exact trivial)) fun k hk => ?_
  (repeat (first | refine cj_seq ?_ | (refine cj_region ?_; refine oj_run TT rfl ?_) | refine oj_then ?_))
  refine cj_if rfl (fun hc => ?_) (fun hc => ?_)
  · cases k with
    | nil => simp at hc
    | cons u k =>
      (repeat (first | refine cj_seq ?_ | (refine cj_region ?_; refine oj_run TT rfl ?_) | refine cj_skip ?_ | refine cj_block ?_ | refine nj_then ?_))
      refine oj_index_str (u := u) TT rfl rfl rfl rfl rfl rfl rfl rfl (by omega) (by rfl) (oj_run TT rfl ?_)
      skip
      refine oj_callP rfl rfl rfl rfl rfl Tryd.call165 (by (repeat' (first | exact trivial | constructor))) (contains_c σ p g h u) fun v hv => ⟨.a (.b (p u)), trivial, hv.symm, ?_⟩
      refine oj_run TT rfl ?_
      (repeat refine oj_then ?_)
      refine cj_if rfl (fun hp => ?_) (fun hp => ?_)
      · (repeat (first | refine cj_seq ?_ | (refine cj_region ?_; refine oj_run TT rfl ?_) | refine oj_then ?_ | refine cj_exit ?_ | refine cj_ret ?_ | refine nj_then ?_ | refine nj_then_exit ?_ | refine nj_block_out ?_ | refine nj_block_on rfl ?_))
        refine nj_ret TT rfl fun β w' _ _ => ?_
        have : p u = false := by simpa using hp
        rw [← hk, List.dropWhile_cons_of_neg (by simp [this])]
        rfl
      · have hp' : p u = true := by simpa using hp
        (repeat (first | (refine cj_region ?_; refine oj_run TT rfl ?_) | refine cj_skip ?_ | refine nj_then ?_))
        refine oj_slice_str (vl := some (.int .i64 1)) (vh := none) TT 1 (k.length + 1) rfl rfl rfl rfl rfl rfl rfl rfl rfl (.inr ⟨_, _, rfl, rfl⟩) (.inl ⟨rfl, by simp⟩) (by omega) (by simp) (oj_run TT rfl ?_)
        (repeat (first | refine oj_nil ?_ | refine nj_block ?_))
        rw [mkB_extract, show List.drop 1 (List.take (k.length + 1) (u :: k)) = k by simp]
        refine nj_again k ?_ (by simp) rfl (by (repeat (first | exact trivial | refine And.intro rfl ?_))) (by (repeat (first | exact trivial | refine And.intro rfl ?_))) rfl (by (repeat' (first | exact trivial | constructor))) (by (repeat' exact trivial))
        rw [← hk, List.dropWhile_cons_of_pos hp']
  · (repeat (first | refine cj_seq ?_ | (refine cj_region ?_; refine oj_run TT rfl ?_) | refine oj_then ?_ | refine cj_exit ?_ | refine cj_ret ?_ | refine nj_then ?_ | refine nj_then_exit ?_ | refine nj_block_out ?_))
    refine nj_ret TT rfl fun β w' _ _ => ?_
    have : k = [] := by cases k with
      | nil => rfl
      | cons u k => simp at hc
    subst this
    rw [← hk]
    rfl

/-- What is left when the trailing bytes are cut off. -/
def trimR (p : UInt8 → Bool) (l : List UInt8) : List UInt8 := (l.reverse.dropWhile p).reverse

theorem trimR_snoc (p : UInt8 → Bool) (l : List UInt8) (u : UInt8) : trimR p (l ++ [u]) = if p u then trimR p l else l ++ [u] := by
  unfold trimR
  rw [List.reverse_append, List.reverse_singleton, List.singleton_append, List.dropWhile_cons]
  split <;> simp

set_option maxRecDepth 100000 in
set_option maxHeartbeats 1000000 in
theorem trimRightASCII_c (σ : Snap) (p : UInt8 → Bool) (g : Nat) (h : ∀ u : UInt8, σ.cell ⟨g, u.toNat, none⟩ = some (.bool (p u))) (l : List UInt8) (hl : l.length ≤ mostLen) :
    PlainS Tryd.prog 159 [.a (.v (.string (mkB l))), .a (.v (.pointer (some ⟨g, 0, none⟩)))] σ (fun v => v = .string (mkB (trimR p l))) := by
  simp only [mostLen] at hl
  refine enter_p Tryd.func159 rfl rfl (by (repeat' (first | exact trivial | constructor))) fun w => ?_
  (repeat (first | refine cj_seq ?_ | (refine cj_region ?_; refine oj_run TT rfl ?_) | refine oj_then ?_ | refine cj_block ?_))
  refine cj_loop (fun _ => σ) (fun (k : List UInt8) => [(0, .a (.v (.string (mkB k)))), (1, .a (.v (.pointer (some ⟨g, 0, none⟩))))]) (fun _ => []) (fun _ => []) 0
    (fun k => k.length ≤ l.length ∧ trimR p k = trimR p l) (fun k => k.length) l ⟨Nat.le_refl _, rfl⟩ rfl (by (repeat (first | exact trivial | refine And.intro rfl ?_))) (by (repeat (first | exact trivial | refine And.intro rfl ?_))) rfl (by (repeat' (first | exact trivial | constructor))) (by (repeat' exact trivial)) fun k ⟨hkl, hk⟩ => ?_
  have hsz := mkB_size k
  (repeat (first | refine cj_seq ?_ | (refine cj_region ?_; refine oj_run TT rfl ?_) | refine oj_then ?_))
  refine cj_if rfl (fun hc => ?_) (fun hc => ?_)
  · obtain ⟨k, u, rfl⟩ : ∃ k' u, k = k' ++ [u] := by
      rcases List.eq_nil_or_concat k with rfl | ⟨k', u, rfl⟩
      · simp at hc
      · exact ⟨k', u, by simp⟩
    have hsz : (mkB (k ++ [u])).size = k.length + 1 := by simp
    rw [List.length_append, List.length_singleton] at hkl
    (repeat (first | refine cj_seq ?_ | (refine cj_region ?_; refine oj_run TT rfl ?_) | refine cj_skip ?_ | refine cj_block ?_ | refine nj_then ?_ | (refine oj_minus rfl rfl rfl rfl rfl rfl (by omega) ?_; refine oj_run TT rfl ?_)))
    refine oj_index_str (u := u) TT rfl rfl rfl rfl rfl rfl rfl rfl (by rw [hsz]; omega) (by rw [hsz]; simp) (oj_run TT rfl ?_)
    skip
    refine oj_callP rfl rfl rfl rfl rfl Tryd.call165 (by (repeat' (first | exact trivial | constructor))) (contains_c σ p g h u) fun v hv => ⟨.a (.b (p u)), trivial, hv.symm, ?_⟩
    refine oj_run TT rfl ?_
    (repeat refine oj_then ?_)
    refine cj_if rfl (fun hp => ?_) (fun hp => ?_)
    · (repeat (first | refine cj_seq ?_ | (refine cj_region ?_; refine oj_run TT rfl ?_) | refine oj_then ?_ | refine cj_exit ?_ | refine cj_ret ?_ | refine nj_then ?_ | refine nj_then_exit ?_ | refine nj_block_out ?_ | refine nj_block_on rfl ?_))
      refine nj_ret TT rfl fun β w' _ _ => ?_
      have : p u = false := by simpa using hp
      rw [← hk, trimR_snoc, this]
      rfl
    · have hp' : p u = true := by simpa using hp
      (repeat (first | (refine cj_region ?_; refine oj_run TT rfl ?_) | refine cj_skip ?_ | refine nj_then ?_ | (refine oj_minus rfl rfl rfl rfl rfl rfl (by omega) ?_; refine oj_run TT rfl ?_)))
      refine oj_slice_str (vl := none) (vh := some (.int .i64 ((mkB (k ++ [u])).size - 1))) TT 0 k.length rfl rfl rfl rfl rfl rfl rfl rfl rfl (.inl ⟨rfl, rfl⟩) (.inr ⟨_, _, rfl, by rw [hsz]; omega⟩) (by omega) (by rw [hsz]; omega) (oj_run TT rfl ?_)
      (repeat (first | refine oj_nil ?_ | refine nj_block ?_))
      rw [mkB_extract, show List.drop 0 (List.take k.length (k ++ [u])) = k by simp]
      refine nj_again k ⟨by omega, ?_⟩ (by simp) rfl (by (repeat (first | exact trivial | refine And.intro rfl ?_))) (by (repeat (first | exact trivial | refine And.intro rfl ?_))) rfl (by (repeat' (first | exact trivial | constructor))) (by (repeat' exact trivial))
      rw [← hk, trimR_snoc, hp']
      rfl
  · (repeat (first | refine cj_seq ?_ | (refine cj_region ?_; refine oj_run TT rfl ?_) | refine oj_then ?_ | refine cj_exit ?_ | refine cj_ret ?_ | refine nj_then ?_ | refine nj_then_exit ?_ | refine nj_block_out ?_))
    refine nj_ret TT rfl fun β w' _ _ => ?_
    have : k = [] := by cases k with
      | nil => rfl
      | cons u k => simp at hc
    subst this
    rw [← hk]
    rfl
end Go.Sy
namespace Go.Sy
open Go.Proofs

def asciiCells (p : UInt8 → Bool) : List AT := (List.range 256).map fun i => .b (p (UInt8.ofNat i))
theorem asciiCells_len (p : UInt8 → Bool) : (asciiCells p).length = 256 := by simp [asciiCells]
theorem asciiCells_lt (p : UInt8 → Bool) (n : Nat) : ∀ c ∈ asciiCells p, c.lt n := by
  intro c hc
  obtain ⟨i, _, rfl⟩ := List.mem_map.1 hc
  trivial
theorem asciiCells_one (p : UInt8 → Bool) : (asciiCells p).all AT.one = true := by
  rw [List.all_eq_true]
  intro c hc
  obtain ⟨i, _, rfl⟩ := List.mem_map.1 hc
  rfl
theorem asciiCells_get (p : UInt8 → Bool) (u : UInt8) : (asciiCells p)[u.toNat]? = some (.b (p u)) := by
  have := u.toNat_lt
  simp [asciiCells, this]
theorem asciiCells_set (p : UInt8 → Bool) (u : UInt8) (β : Nat → Addr) : ((asciiCells p).set u.toNat .tt).map (AT.den β) = (asciiCells fun x => p x || x == u).map (AT.den β) := by
  apply List.ext_getElem?
  intro j
  simp only [List.getElem?_map, List.getElem?_set, asciiCells, List.length_map, List.length_range]
  by_cases hj : j < 256
  · by_cases huj : u.toNat = j
    · subst huj
      rw [if_pos rfl, if_pos hj]
      simp [hj, AT.den]
    · rw [if_neg huj]
      have hne : UInt8.ofNat j ≠ u := fun e => huj (by rw [← e]; simp; omega)
      simp [hj, AT.den, hne]
  · have := u.toNat_lt
    rw [if_neg (by omega)]
    simp [hj]

set_option maxRecDepth 100000 in
set_option maxHeartbeats 1000000 in
theorem makeASCIISet_c (σ : Snap) (l : List UInt8) (hl : l.length ≤ 1000) (h128 : ∀ u ∈ l, u.toNat < 128) :
    PlainS Tryd.prog 157 [.a (.v (.string (mkB l)))] σ (fun v => v = (SV.tup [.agg (asciiCells l.contains), .a .tt]).den β0) := by
  refine enter_p Tryd.func157 rfl rfl (by (repeat' (first | exact trivial | constructor))) fun w => ?_
  have hsz := mkB_size l
  (repeat (first | refine cj_seq ?_ | (refine cj_region ?_; refine oj_run TT rfl ?_) | refine oj_then ?_ | refine cj_block ?_))
  refine cj_rowset 0 (asciiCells fun _ => false) rfl (fun β => ?_) (asciiCells_lt _ _) ?_
  · show (List.replicate 256 AT.ff).map _ = _
    rw [List.map_replicate, asciiCells, List.map_map]
    exact ((List.map_const' (l := List.range 256) (b := Value.bool false)).trans (by rw [List.length_range]; rfl)).symm
  refine cj_loop (fun _ => σ) (fun (k : Nat) => [(0, .a (.v (.string (mkB l)))), (2, .a (.p 0 0)), (4, .a (.v (.int .i64 k)))]) (fun k => [(0, .loc 214, asciiCells (l.take k).contains)]) (fun _ => []) 1
    (fun k => k ≤ l.length) (fun k => l.length - k) 0 (Nat.zero_le _) rfl (by (repeat (first | exact trivial | refine And.intro rfl ?_))) (by (repeat (first | exact trivial | refine And.intro rfl ?_))) rfl (by (repeat' (first | exact trivial | exact Nat.le_of_ble_eq_true rfl | constructor))) ⟨⟨Nat.zero_lt_one, asciiCells_lt _ _⟩, trivial⟩ fun k hk => ?_
  (repeat (first | refine cj_seq ?_ | (refine cj_region ?_; refine oj_run TT rfl ?_) | refine oj_then ?_))
  refine cj_if rfl (fun hc => ?_) (fun hc => ?_)
  · have hlt : k < l.length := by rw [hsz] at hc; simpa using hc
    have hu := h128 _ (List.getElem_mem hlt)
    (repeat (first | refine cj_seq ?_ | (refine cj_region ?_; refine oj_run TT rfl ?_) | refine cj_skip ?_ | refine cj_block ?_ | refine nj_then ?_))
    refine oj_index_str (u := l[k]) TT rfl rfl rfl rfl rfl rfl rfl rfl (by omega) (by simp [hlt]) (oj_run TT rfl ?_)
    (repeat (first | refine cj_seq ?_ | (refine cj_region ?_; refine oj_run TT rfl ?_) | refine oj_then ?_))
    refine cj_if rfl (fun hp => ?_) (fun hp => ?_)
    · simp at hp; omega
    (repeat (first | (refine cj_region ?_; refine oj_run TT rfl ?_) | refine cj_skip ?_ | refine nj_then ?_))
    refine oj_idx_row 4 256 und214 und4 rfl rfl rfl rfl rfl rfl (by omega) (by omega) l[k].toNat (by rw [show Tryd.prog.cellsOf 4 = 1 from cells4]; simp) ?_
    refine oj_store1 (c := .tt) TT rfl rfl rfl rfl rfl rfl rfl rfl rfl rfl (by rw [asciiCells_len]; omega) ?_
    (repeat (first | (refine cj_region ?_; refine oj_run TT rfl ?_) | refine oj_nil ?_ | refine nj_then ?_ | refine nj_block ?_ | (refine oj_add rfl rfl rfl rfl rfl rfl (by omega) ?_; refine oj_run TT rfl ?_)))
    refine nj_rowset 0 (asciiCells (l.take (k + 1)).contains) rfl (fun β => ?_) (asciiCells_lt _ _) ?_
    · rw [asciiCells_set]
      congr 2
      funext x
      rw [Bool.eq_iff_iff]
      simp only [Bool.or_eq_true, beq_iff_eq, List.contains_iff_mem]
      rw [List.take_succ_eq_append_getElem hlt, List.mem_append, List.mem_singleton]
    refine nj_again (k + 1) hlt (by omega) rfl (by (repeat (first | exact trivial | refine And.intro rfl ?_))) (by (repeat (first | exact trivial | refine And.intro rfl ?_))) rfl (by (repeat' (first | exact trivial | exact Nat.le_of_ble_eq_true rfl | constructor))) ⟨⟨Nat.zero_lt_one, asciiCells_lt _ _⟩, trivial⟩
  · have hk0 : k = l.length := by rw [hsz] at hc; simp at hc; omega
    subst hk0
    rw [List.take_length]
    (repeat (first | refine cj_seq ?_ | (refine cj_region ?_; refine oj_run TT rfl ?_) | refine oj_then ?_ | refine cj_exit ?_ | refine cj_ret ?_ | refine nj_then ?_ | refine nj_then_exit ?_ | refine nj_block_out ?_))
    refine nj_ret TT rfl fun β w' _ _ => ?_
    rfl

/-- The cutset of the digits. -/
def digitB (u : UInt8) : Bool := [48, 49, 50, 51, 52, 53, 54, 55, 56, 57].contains u
def digitsS : ByteArray := ⟨#[48, 49, 50, 51, 52, 53, 54, 55, 56, 57]⟩

set_option maxRecDepth 100000 in
set_option maxHeartbeats 1000000 in
theorem Trim_c (σ : Snap) (l : List UInt8) (hl : l.length ≤ mostLen) :
    PlainS Tryd.prog 148 [.a (.v (.string (mkB l))), .a (.v (.string digitsS))] σ (fun v => v = .string (mkB ((trimR digitB l).dropWhile digitB))) := by
  have hsz := mkB_size l
  refine enter_p Tryd.func148 rfl rfl (by (repeat' (first | exact trivial | constructor))) fun w => ?_
  (repeat (first | refine cj_seq ?_ | (refine cj_region ?_; refine oj_run TT rfl ?_) | refine oj_then ?_))
  refine oj_split 9 rfl (fun h => ?_) (fun h => ?_)
  · have h0 : l = [] := mkB_inj (of_decide_eq_true h)
    subst h0
    refine oj_run TT rfl ?_
    (repeat (first | refine cj_seq ?_ | (refine cj_region ?_; refine oj_run TT rfl ?_) | refine oj_then ?_ | refine cj_if_t rfl ?_ | refine cj_ret ?_ | refine nj_then_ret ?_))
    refine nj_ret TT rfl fun β w' _ _ => ?_
    rfl
  refine oj_run TT rfl ?_
  (repeat refine oj_then ?_)
  refine cj_if rfl (fun h => ?_) (fun h => ?_)
  · exact absurd h (by decide)
  (repeat (first | refine cj_seq ?_ | (refine cj_region ?_; refine oj_run TT rfl ?_) | refine cj_skip ?_ | refine nj_then ?_))
  refine oj_split 17 rfl (fun h => ?_) (fun h => ?_)
  · exact absurd h (by decide)
  refine oj_run TT rfl ?_
  (repeat (first | refine cj_seq ?_ | (refine cj_region ?_; refine oj_run TT rfl ?_) | refine oj_then ?_ | refine cj_if_f rfl ?_ | refine cj_skip ?_ | refine nj_then ?_))
  refine oj_callP rfl rfl rfl rfl rfl Tryd.call157 (by (repeat' (first | exact trivial | constructor))) (makeASCIISet_c σ [48, 49, 50, 51, 52, 53, 54, 55, 56, 57] (by decide) (by decide)) fun v hv => ⟨_, ?_, hv.symm, ?_⟩
  · intro x hx
    simp only [List.mem_cons, List.not_mem_nil, or_false] at hx
    rcases hx with rfl | rfl
    · exact asciiCells_lt _ _
    · trivial
  refine oj_run TT rfl ?_
  (repeat (first | refine cj_seq ?_ | (refine cj_region ?_; refine oj_run TT rfl ?_) | refine oj_then ?_ | refine cj_if_t rfl ?_))
  refine oj_own 0 1 256 rfl (by exact asciiCells_lt digitB 0) rfl (by decide) fun g => ?_
  refine oj_seal 0 rfl rfl rfl fun σ' hle hS => ?_
  have hcell : ∀ u : UInt8, σ'.cell ⟨g, u.toNat, none⟩ = some (.bool (digitB u)) := by
    intro u
    rcases hS with ⟨h1, _⟩ | ⟨g', h1, h2⟩
    · cases h1
    · injection h1 with h1
      simp only [Addr.mk.injEq, and_true] at h1
      subst h1
      refine h2 u.toNat _ ?_
      show ((asciiCells digitB).map AT.val)[u.toNat]? = _
      rw [List.getElem?_map, asciiCells_get]
      rfl
  refine oj_callP rfl rfl rfl rfl rfl Tryd.call159 (by (repeat' (first | exact trivial | constructor))) (trimRightASCII_c σ' digitB g hcell l hl) fun v hv => ⟨.a (.v (.string (mkB (trimR digitB l)))), trivial, hv.symm, ?_⟩
  refine oj_callP rfl rfl rfl rfl rfl Tryd.call158 (by (repeat' (first | exact trivial | constructor))) (trimLeftASCII_c σ' digitB g hcell (trimR digitB l)) fun v hv => ⟨.a (.v (.string (mkB ((trimR digitB l).dropWhile digitB)))), trivial, hv.symm, ?_⟩
  refine oj_run TT rfl ?_
  (repeat (first | refine oj_then ?_ | refine cj_ret ?_ | refine nj_then_ret ?_))
  refine nj_ret TT rfl fun β w' _ _ => ?_
  rfl

theorem dropWhile_nil (p : UInt8 → Bool) : ∀ (l : List UInt8), l.dropWhile p = [] ↔ ∀ u ∈ l, p u = true
  | [] => by simp
  | x :: l => by
    rw [List.dropWhile_cons]
    split
    · rename_i h
      rw [dropWhile_nil p l]
      simp [h]
    · rename_i h
      simp [h]

theorem trim_digits (l : List UInt8) : (trimR digitB l).dropWhile digitB = [] ↔ ∀ u ∈ l, digitB u = true := by
  have hR : trimR digitB l = [] ↔ ∀ u ∈ l, digitB u = true := by
    unfold trimR
    rw [List.reverse_eq_nil_iff, dropWhile_nil]
    simp
  constructor
  · intro h
    rw [dropWhile_nil] at h
    by_cases h0 : trimR digitB l = []
    · exact hR.1 h0
    · exfalso
      have hlast : ∀ u, (trimR digitB l).getLast? = some u → digitB u = false := by
        intro u hu
        unfold trimR at hu
        rw [List.getLast?_reverse] at hu
        have := List.head?_dropWhile_not digitB l.reverse
        rw [hu] at this
        simpa using this
      cases hg : (trimR digitB l).getLast? with
      | none => rw [List.getLast?_eq_none_iff] at hg; exact h0 hg
      | some u =>
        have h1 := hlast u hg
        have h2 := h u (List.mem_of_getLast? hg)
        rw [h1] at h2; cases h2
  · intro h
    rw [hR.2 h]
    rfl

/-! ### dec.Sane -/

def decSane (d : GDec) : Bool :=
  let l := d.dg.data.toList
  if l.length = 0 then !d.neg && decide (d.ex = 0)
  else decide (l.length ≤ 40) && l.all digitB && decide (-800 ≤ d.ex) && decide (d.ex ≤ 800) && decide (-400 ≤ l.length + d.ex) && decide (l.length + d.ex ≤ 400) && l.head? != some 48 && l.getLast? != some 48

set_option maxRecDepth 100000 in
set_option maxHeartbeats 1000000 in
theorem height_c (σ : Snap) (d : GDec) (h1 : d.dg.size ≤ 1000) (h2 : -1000 ≤ d.ex) (h3 : d.ex ≤ 1000) : PlainS Tryd.prog 149 [.agg (decCells d)] σ (fun v => v = .int .i64 (d.dg.size + d.ex)) := by
  refine enter_p Tryd.func149 rfl rfl (by (repeat' (first | exact trivial | exact decCells_lt _ _ | constructor))) fun w => ?_
  (repeat (first | refine cj_seq ?_ | (refine cj_region ?_; refine oj_run TT rfl ?_) | refine oj_then ?_ | refine cj_ret ?_ | (refine oj_add rfl rfl rfl rfl rfl rfl (by omega) ?_; refine oj_run TT rfl ?_)))
  refine nj_ret TT rfl fun β w' _ _ => ?_
  rfl

theorem und23 : Tryd.prog.underlying 23 = some (.struct (Tryd.prog.fieldsOf 23)) := by kernel_rfl

def fieldsAre : List Field → List (Nat × Nat) → Bool
  | [], [] => true
  | f :: fs, (t, o) :: l => f.name != "_" && Nat.beq f.type t && Nat.beq f.offset o && fieldsAre fs l
  | _, _ => false

theorem fieldsAre_cons {l : List Field} {t o : Nat} {r : List (Nat × Nat)} (h : fieldsAre l ((t, o) :: r) = true) : ∃ f fs, l = f :: fs ∧ f.name ≠ "_" ∧ f.type = t ∧ f.offset = o ∧ fieldsAre fs r = true := by
  cases l with
  | nil => cases h
  | cons f fs =>
    simp only [fieldsAre, Bool.and_eq_true, bne_iff_ne, ne_eq] at h
    exact ⟨f, fs, rfl, h.1.1.1, Nat.eq_of_beq_eq_true h.1.1.2, Nat.eq_of_beq_eq_true h.1.2, h.2⟩

theorem eqFields_cons {P : Program} {w : World} {d : Nat} {xs ys : Array Value} {f : Field} {fs : List Field} {a b : Value} {r : Bool} (hn : f.name ≠ "_") (ha : (part f.type xs f.offset).run P w = .ok a w) (hb : (part f.type ys f.offset).run P w = .ok b w)
    (he : (Op.equalIn d f.type a b).run P w = .ok r w) : (Op.eqFields d xs ys (f :: fs)).run P w = if r then (Op.eqFields d xs ys fs).run P w else .ok false w := by
  simp only [Op.eqFields, if_pos hn, Sem.run_bind, ha, hb, he, Result.andThen_ok]
  cases r <;> simp

theorem run_part1 {P : Program} {w : World} {t : TypeId} {xs : Array Value} {o : Nat} {d : TypeDesc} {v : Value} (hu : P.underlying t = some d) (hd : aggD d = false) (hv : xs[o]? = some v) : (part t xs o).run P w = .ok v w := by
  simp only [part, Sem.run_bind, run_isAgg hu, hd, Result.andThen_ok, Bool.false_eq_true, if_false, hv, Sem.run_pure]

theorem und9 : Tryd.prog.underlying 9 = some .string := by kernel_rfl
theorem und3 : Tryd.prog.underlying 3 = some (.int .i64) := by kernel_rfl

theorem run_eqStr {P : Program} {w : World} (d : Nat) (t : TypeId) (a b : ByteArray) (h : P.underlying t = some .string) : (Op.equalIn (d + 1) t (.string a) (.string b)).run P w = .ok (decide (a = b)) w := by
  simp only [Op.equalIn, Sem.run_bind, run_underlying h, Result.andThen_ok, Sem.run_pure]
  congr 1
  rw [beq_toListBytes, ByteArray.toList_eq, ByteArray.toList_eq, Bool.eq_iff_iff]
  simp only [beq_iff_eq, decide_eq_true_eq]
  exact ⟨fun h => ByteArray.ext (Array.ext' h), fun h => by rw [h]⟩

theorem eqDec_ok (m : Nat) (a b : GDec) (w : World) : (Op.equalIn (m + 1 + 1) 23 (.agg #[.bool a.neg, .string a.dg, .int .i64 a.ex]) (.agg #[.bool b.neg, .string b.dg, .int .i64 b.ex])).run Tryd.prog w = .ok (decide (a = b)) w := by
  rw [run_equalIn_agg w (m + 1) 23 _ _ und23 (by kernel_rfl)]
  have h : fieldsAre (Tryd.prog.fieldsOf 23).toList [(4, 0), (9, 1), (3, 2)] = true := by kernel_rfl
  generalize (Tryd.prog.fieldsOf 23).toList = fl at h
  obtain ⟨f0, fl, rfl, n0, t0, o0, h⟩ := fieldsAre_cons h
  obtain ⟨f1, fl, rfl, n1, t1, o1, h⟩ := fieldsAre_cons h
  obtain ⟨f2, fl, rfl, n2, t2, o2, h⟩ := fieldsAre_cons h
  cases fl with
  | cons _ _ => cases h
  | nil =>
    rw [eqFields_cons (r := a.neg == b.neg) n0 (run_part1 (v := .bool a.neg) (by rw [t0]; exact und4) rfl (by rw [o0]; rfl)) (run_part1 (v := .bool b.neg) (by rw [t0]; exact und4) rfl (by rw [o0]; rfl)) (run_equalIn_bool' w m f0.type a.neg b.neg (by rw [t0]; exact und4))]
    rw [eqFields_cons (r := decide (a.dg = b.dg)) n1 (run_part1 (v := .string a.dg) (by rw [t1]; exact und9) rfl (by rw [o1]; rfl)) (run_part1 (v := .string b.dg) (by rw [t1]; exact und9) rfl (by rw [o1]; rfl)) (run_eqStr m f1.type a.dg b.dg (by rw [t1]; exact und9))]
    rw [eqFields_cons (r := a.ex == b.ex) n2 (run_part1 (v := .int .i64 a.ex) (by rw [t2]; exact und3) rfl (by rw [o2]; rfl)) (run_part1 (v := .int .i64 b.ex) (by rw [t2]; exact und3) rfl (by rw [o2]; rfl)) (run_equalIn_int w m f2.type .i64 .i64 a.ex b.ex (by rw [t2]; exact und3))]
    simp only [Op.eqFields, Sem.run_pure]
    have : (decide (a = b)) = (a.neg == b.neg && (decide (a.dg = b.dg) && a.ex == b.ex)) := by
      rw [Bool.eq_iff_iff]
      cases a; cases b
      simp
    rw [this]
    cases (a.neg == b.neg) <;> cases decide (a.dg = b.dg) <;> cases (a.ex == b.ex) <;> rfl

/-- Two decimals compared. -/
theorem oj_eqDec {cf : Cf} {Q : Exit → Act → World → Prop} {σ : Snap} {env : Env} {hp : HP} {A : List AE} {nh : Nat} {it : Item} {rest : List Item} {d : Nat} {x y : Operand} {yt : TypeId} {ca cb : List AT} (a b : GDec) (hP : cf.P = Tryd.prog)
    (hop : it.o.op = .binOp .eql 23 x y yt) (hd : it.o.dst = some d) (hg : guardVal it.guard env = some true) (hN : Nat.blt d cf.N = true) (hx : evalO env x = some (.agg ca)) (hy : evalO env y = some (.agg cb)) (hca : ∀ β, ca.map (AT.den β) = (decCells a).map (AT.den β)) (hcb : ∀ β, cb.map (AT.den β) = (decCells b).map (AT.den β))
    (hk : OJ cf rest Q σ ((d, .a (.b (decide (a = b)))) :: env) hp A nh) : OJ cf (it :: rest) Q σ env hp A nh := by
  refine oj_val (.a (.b (decide (a = b)))) hd hg hN trivial (fun _ ac β ha w => ?_) hk
  have h1 : ac.eval x = .agg #[.bool a.neg, .string a.dg, .int .i64 a.ex] := (evalO_eval ha hx).trans (by simp only [SV.den, hca]; rfl)
  have h2 : ac.eval y = .agg #[.bool b.neg, .string b.dg, .int .i64 b.ex] := (evalO_eval ha hy).trans (by simp only [SV.den, hcb]; rfl)
  rw [hP]
  have hG : (eqGuard .eql 23 x y (.agg #[.bool a.neg, .string a.dg, .int .i64 a.ex]) (.agg #[.bool b.neg, .string b.dg, .int .i64 b.ex])).run Tryd.prog w = .ok () w := run_eqGuard_agg w _ _ _ _ _ _ (by kernel_rfl)
  have hE : (Op.equalIn 10000 23 (.agg #[.bool a.neg, .string a.dg, .int .i64 a.ex]) (.agg #[.bool b.neg, .string b.dg, .int .i64 b.ex])).run Tryd.prog w = .ok (decide (a = b)) w := eqDec_ok 9998 a b w
  have hB : (binOp .eql 23 (.agg #[.bool a.neg, .string a.dg, .int .i64 a.ex]) (.agg #[.bool b.neg, .string b.dg, .int .i64 b.ex])).run Tryd.prog w = .ok (.bool (decide (a = b))) w := by
    rw [run_eql_struct, hE]
    rfl
  simp only [execOp, hop, h1, h2, Sem.run_bind, hG, hB, Result.andThen_ok, Sem.run_pure]
  rfl

theorem decSane_mk (ng : Bool) (l : List UInt8) (ex : Int) (h0 : l.length ≠ 0) : decSane ⟨ng, mkB l, ex⟩ = (decide (l.length ≤ 40) && l.all digitB && decide (-800 ≤ ex) && decide (ex ≤ 800) && decide (-400 ≤ l.length + ex) && decide (l.length + ex ≤ 400) && l.head? != some 48 && l.getLast? != some 48) := by
  unfold decSane
  exact if_neg h0

def dec0 : GDec := ⟨false, ⟨#[]⟩, 0⟩

set_option maxRecDepth 100000 in
set_option maxHeartbeats 1000000 in
theorem decSane_c (σ : Snap) (d : GDec) (hd : d.dg.size ≤ mostLen) : PlainS Tryd.prog 136 [.agg (decCells d)] σ (fun v => v = .bool (decSane d)) := by
  obtain ⟨ng, dg, ex⟩ := d
  obtain ⟨l, rfl⟩ := mkB_ex dg
  have hsz := mkB_size l
  simp only at hd
  rw [hsz] at hd
  have hd' := hd
  simp only [mostLen] at hd'
  refine enter_p Tryd.func136 rfl rfl (by (repeat' (first | exact trivial | exact decCells_lt _ _ | constructor))) fun w => ?_
  (repeat (first | refine cj_seq ?_ | (refine cj_region ?_; refine oj_run TT rfl ?_) | refine oj_then ?_ | refine cj_block ?_))
  refine cj_if rfl (fun h => ?_) (fun h => ?_)
  · have h0 : l = [] := by simpa using h
    subst h0
    (repeat (first | refine cj_seq ?_ | (refine cj_region ?_; refine oj_run TT rfl ?_)))
    refine oj_eqDec ⟨ng, mkB [], ex⟩ dec0 rfl rfl rfl rfl rfl rfl rfl (fun _ => rfl) (fun _ => rfl) (oj_run TT rfl ?_)
    (repeat (first | refine oj_then ?_ | refine cj_ret ?_ | refine nj_then_ret ?_ | refine nj_block_ret ?_))
    refine nj_ret TT rfl fun β w' _ _ => ?_
    show Value.bool _ = _
    congr 1
    simp only [decSane, mkB_list, List.length_nil, if_true, dec0, GDec.mk.injEq]
    rw [Bool.eq_iff_iff]
    cases ng <;> simp [mkB]
  · have h0 : l ≠ [] := by simpa using h
    have hl0 : l.length ≠ 0 := by simpa using h0
    have hlb : (mkB l).size = l.length := hsz
    (repeat (first | refine cj_seq ?_ | (refine cj_region ?_; refine oj_run TT rfl ?_)))
    refine oj_split 17 rfl (fun h => ?_) (fun h => ?_)
    · have h40 : 40 < l.length := by simp at h; omega
      refine oj_run TT rfl ?_
      (repeat (first | refine cj_seq ?_ | (refine cj_region ?_; refine oj_run TT rfl ?_) | refine oj_then ?_ | refine cj_if_t rfl ?_ | refine cj_ret ?_ | refine nj_then_ret ?_ | refine nj_block_ret ?_))
      refine nj_ret TT rfl fun β w' _ _ => ?_
      show Value.bool false = _
      congr 1
      rw [decSane_mk _ _ _ hl0, show decide (l.length ≤ 40) = false by simp; omega]
      simp
    have h40 : l.length ≤ 40 := by simp at h; omega
    refine oj_run TT rfl ?_
    refine oj_callP rfl rfl rfl rfl rfl Tryd.call148 (by (repeat' (first | exact trivial | constructor))) (Trim_c σ l hd) fun v hv => ⟨.a (.v (.string (mkB ((trimR digitB l).dropWhile digitB)))), trivial, hv.symm, ?_⟩
    refine oj_run TT rfl ?_
    (repeat refine oj_then ?_)
    have htr : (decide (mkB ((trimR digitB l).dropWhile digitB) = ⟨#[]⟩)) = l.all digitB := by
      rw [Bool.eq_iff_iff, decide_eq_true_eq, List.all_eq_true, ← trim_digits]
      exact ⟨fun h => mkB_inj h, fun h => by rw [h]; rfl⟩
    refine cj_if rfl (fun h => ?_) (fun h => ?_)
    · rw [htr] at h
      (repeat (first | refine cj_seq ?_ | (refine cj_region ?_; refine oj_run TT rfl ?_) | refine oj_then ?_ | refine cj_ret ?_ | refine nj_then_ret ?_ | refine nj_block_ret ?_))
      refine nj_ret TT rfl fun β w' _ _ => ?_
      show Value.bool false = _
      congr 1
      rw [decSane_mk _ _ _ hl0, show l.all digitB = false by simpa using h]
      simp
    rw [htr] at h
    have hall : l.all digitB = true := by simpa using h
    (repeat (first | refine cj_seq ?_ | (refine cj_region ?_; refine oj_run TT rfl ?_)))
    refine oj_split 27 rfl (fun h => ?_) (fun h => ?_)
    · refine oj_run TT rfl ?_
      (repeat (first | refine cj_seq ?_ | (refine cj_region ?_; refine oj_run TT rfl ?_) | refine oj_then ?_ | refine cj_if_t rfl ?_ | refine cj_ret ?_ | refine nj_then_ret ?_ | refine nj_block_ret ?_))
      refine nj_ret TT rfl fun β w' _ _ => ?_
      show Value.bool false = _
      congr 1
      have : ex < -800 := by simpa using h
      rw [decSane_mk _ _ _ hl0, show decide (-800 ≤ ex) = false by simp; omega]
      simp
    have hex1 : -800 ≤ ex := by simpa using h
    refine oj_run TT rfl ?_
    (repeat refine oj_then ?_)
    refine cj_if rfl (fun h => ?_) (fun h => ?_)
    · (repeat (first | refine cj_seq ?_ | (refine cj_region ?_; refine oj_run TT rfl ?_) | refine oj_then ?_ | refine cj_ret ?_ | refine nj_then_ret ?_ | refine nj_block_ret ?_))
      refine nj_ret TT rfl fun β w' _ _ => ?_
      show Value.bool false = _
      congr 1
      have : 800 < ex := by simpa using h
      rw [decSane_mk _ _ _ hl0, show decide (ex ≤ 800) = false by simp; omega]
      simp
    have hex2 : ex ≤ 800 := by simpa using h
    (repeat (first | refine cj_seq ?_ | (refine cj_region ?_; refine oj_run TT rfl ?_) | refine cj_skip ?_ | refine nj_then ?_ | refine nj_block ?_))
    refine oj_callP rfl rfl rfl rfl rfl Tryd.call149 (by (repeat' (first | exact trivial | exact decCells_lt _ _ | constructor))) (height_c σ ⟨ng, mkB l, ex⟩ (by show (mkB l).size ≤ 1000; omega) (by show -1000 ≤ ex; omega) (by show ex ≤ 1000; omega)) fun v hv => ⟨.a (.v (.int .i64 ((mkB l).size + ex))), trivial, hv.symm, ?_⟩
    refine oj_run TT rfl ?_
    (repeat (first | refine cj_seq ?_ | (refine cj_region ?_; refine oj_run TT rfl ?_) | refine oj_then ?_))
    have hfin : decSane ⟨ng, mkB l, ex⟩ = (decide (-400 ≤ l.length + ex) && decide (l.length + ex ≤ 400) && l.head? != some 48 && l.getLast? != some 48) := by
      rw [decSane_mk _ _ _ hl0, hall, show decide (l.length ≤ 40) = true by simp; omega, show decide (-800 ≤ ex) = true by simp; omega, show decide (ex ≤ 800) = true by simp; omega]
      simp
    have hx : (((mkB l).size : Nat) : Int) = l.length := by rw [hsz]
    refine oj_split 36 rfl (fun h => ?_) (fun h => ?_)
    rotate_left
    · refine oj_run TT rfl ?_
      (repeat (first | refine oj_then ?_ | refine cj_ret ?_))
      refine nj_ret TT rfl fun β w' _ _ => ?_
      show Value.bool false = _
      congr 1
      rw [hfin, show decide (-400 ≤ (l.length : Int) + ex) = false by rw [← hx]; exact h]
      simp
    have e1 : decide (-400 ≤ (l.length : Int) + ex) = true := by rw [← hx]; exact h
    refine oj_run TT rfl ?_
    refine oj_split 40 rfl (fun h => ?_) (fun h => ?_)
    rotate_left
    · refine oj_run TT rfl ?_
      (repeat (first | refine oj_then ?_ | refine cj_ret ?_))
      refine nj_ret TT rfl fun β w' _ _ => ?_
      show Value.bool false = _
      congr 1
      rw [hfin, show decide ((l.length : Int) + ex ≤ 400) = false by rw [← hx]; exact h]
      simp
    have e2 : decide ((l.length : Int) + ex ≤ 400) = true := by rw [← hx]; exact h
    refine oj_run TT rfl ?_
    have hlt : 0 < l.length := by omega
    refine oj_index_str (u := l[0]) TT rfl rfl rfl rfl rfl rfl rfl rfl (by omega) (by simp [hlt]) (oj_run TT rfl ?_)
    have e3 : (l.head? != some 48) = !decide ((l[0].toNat : Int) = 48) := by
      rw [List.head?_eq_getElem?, List.getElem?_eq_getElem hlt, Bool.eq_iff_iff]
      simp [← UInt8.toNat_inj]
      omega
    refine oj_split 46 rfl (fun h => ?_) (fun h => ?_)
    rotate_left
    · refine oj_run TT rfl ?_
      (repeat (first | refine oj_then ?_ | refine cj_ret ?_))
      refine nj_ret TT rfl fun β w' _ _ => ?_
      show Value.bool false = _
      congr 1
      rw [hfin, e3, h]
      simp
    refine oj_run TT rfl ?_
    refine oj_minus rfl rfl rfl rfl rfl rfl (by show -9223372036854775808 ≤ ((mkB l).size : Int) - 1 ∧ ((mkB l).size : Int) - 1 ≤ 9223372036854775807; omega) (oj_run TT rfl ?_)
    refine oj_index_str (u := l[l.length - 1]) TT rfl rfl rfl rfl rfl rfl rfl rfl (by show 0 ≤ ((mkB l).size : Int) - 1; omega) (by
      show l[(((mkB l).size : Int) - 1).toNat]? = _
      rw [show (((mkB l).size : Int) - 1).toNat = l.length - 1 by omega, List.getElem?_eq_getElem (by omega)]) (oj_run TT rfl ?_)
    have e4 : (l.getLast? != some 48) = !decide ((l[l.length - 1].toNat : Int) = 48) := by
      rw [List.getLast?_eq_getElem?, List.getElem?_eq_getElem (by omega), Bool.eq_iff_iff]
      simp [← UInt8.toNat_inj]
      omega
    (repeat (first | refine oj_then ?_ | refine cj_ret ?_))
    refine nj_ret TT rfl fun β w' _ _ => ?_
    show Value.bool _ = _
    congr 1
    rw [hfin, e1, e2, e3, e4, h]
    simp
end Go.Sy
