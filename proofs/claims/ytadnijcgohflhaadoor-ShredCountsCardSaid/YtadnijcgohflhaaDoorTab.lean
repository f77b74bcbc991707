import Derived.Test.YtadnijcgohflhaaDoorProg
import Derived.Test.YtadnijcgohflhaaDoorSyF
import Derived.KernelRfl
namespace Go.Sy
open Go.Proofs
def tt : List (Nat × TI) := [
  (1, ⟨1, false, [.v .nilFunc], [], .func, 8⟩),
  (2, ⟨1, false, [.v (.int .i64 0)], [], .int .i64, 8⟩),
  (3, ⟨1, false, [.v (.int .i64 0)], [], .int .i64, 8⟩),
  (4, ⟨1, false, [.ff], [], .bool, 1⟩),
  (5, ⟨1, false, [.v (.int .u8 0)], [], .int .u8, 1⟩),
  (6, ⟨1, false, [.v (.int .u8 0)], [], .int .u8, 1⟩),
  (7, ⟨4, true, [.v (.int .i64 0), .v (.int .i64 0), .ff, .v (.int .u8 0)], [(0, 1, some false), (1, 1, some false), (2, 1, some false), (3, 1, some false)], .struct, 24⟩),
  (8, ⟨4, true, [.v (.int .i64 0), .v (.int .i64 0), .ff, .v (.int .u8 0)], [(0, 1, some false), (1, 1, some false), (2, 1, some false), (3, 1, some false)], .struct, 24⟩),
  (9, ⟨1, false, [.v (.string ⟨#[]⟩)], [], .str, 16⟩),
  (10, ⟨1, false, [.v (.string ⟨#[]⟩)], [], .str, 16⟩),
  (11, ⟨1, false, [.v (.string ⟨#[]⟩)], [], .str, 16⟩),
  (12, ⟨1, false, [.v (.int .u64 0)], [], .int .u64, 8⟩),
  (13, ⟨2, true, [.v (.string ⟨#[]⟩), .v (.int .u64 0)], [(0, 1, some false), (1, 1, some false)], .struct, 24⟩),
  (14, ⟨2, true, [.v (.string ⟨#[]⟩), .v (.int .u64 0)], [(0, 1, some false), (1, 1, some false)], .struct, 24⟩),
  (15, ⟨1, false, [.v (.pointer none)], [], .ptr 235, 8⟩),
  (16, ⟨1, false, [.v (.pointer none)], [], .ptr 238, 8⟩),
  (17, ⟨1, false, [.v (.pointer none)], [], .ptr 247, 8⟩),
  (18, ⟨1, true, [.v (.pointer none)], [(0, 1, some false)], .struct, 8⟩),
  (19, ⟨1, true, [.v (.pointer none)], [(0, 1, some false)], .struct, 8⟩),
  (20, ⟨1, false, [.v .nilIface], [], .iface, 16⟩),
  (21, ⟨1, false, [.v (.int .i32 0)], [], .int .i32, 4⟩),
  (22, ⟨3, true, [.ff, .v (.string ⟨#[]⟩), .v (.int .i64 0)], [(0, 1, some false), (1, 1, some false), (2, 1, some false)], .struct, 32⟩),
  (23, ⟨3, true, [.ff, .v (.string ⟨#[]⟩), .v (.int .i64 0)], [(0, 1, some false), (1, 1, some false), (2, 1, some false)], .struct, 32⟩),
  (24, ⟨1, false, [.v (.slice none 0 0)], [], .slice 27, 24⟩),
  (25, ⟨1, false, [.v (.slice none 0 0)], [], .slice 125, 24⟩),
  (26, ⟨8, true, [.v (.int .i64 0), .ff, .ff, .v (.string ⟨#[]⟩), .v (.int .i64 0), .v (.string ⟨#[]⟩), .v (.slice none 0 0), .v (.slice none 0 0)], [(0, 1, some false), (1, 1, some false), (2, 3, some true), (5, 1, some false), (6, 1, some false), (7, 1, some false)], .struct, 112⟩),
  (27, ⟨8, true, [.v (.int .i64 0), .ff, .ff, .v (.string ⟨#[]⟩), .v (.int .i64 0), .v (.string ⟨#[]⟩), .v (.slice none 0 0), .v (.slice none 0 0)], [(0, 1, some false), (1, 1, some false), (2, 3, some true), (5, 1, some false), (6, 1, some false), (7, 1, some false)], .struct, 112⟩),
  (28, ⟨1, false, [.v .nilFunc], [], .func, 8⟩),
  (29, ⟨1, false, [.v .nilFunc], [], .func, 8⟩),
  (30, ⟨1, false, [.v (.int .i64 0)], [], .int .i64, 8⟩),
  (31, ⟨1, false, [.v .nilFunc], [], .func, 8⟩),
  (32, ⟨1, false, [.v (.slice none 0 0)], [], .slice 36, 24⟩),
  (34, ⟨1, false, [.v .nilFunc], [], .func, 8⟩),
  (35, ⟨11, true, [.v (.int .i64 0), .v (.int .i64 0), .v (.int .i64 0), .v (.int .i64 0), .ff, .v (.string ⟨#[]⟩), .ff, .ff, .v (.string ⟨#[]⟩), .v (.int .i64 0), .v (.string ⟨#[]⟩)], [(0, 1, some false), (1, 1, some false), (2, 1, some false), (3, 1, some false), (4, 1, some false), (5, 1, some false), (6, 1, some false), (7, 3, some true), (10, 1, some false)], .struct, 112⟩),
  (36, ⟨11, true, [.v (.int .i64 0), .v (.int .i64 0), .v (.int .i64 0), .v (.int .i64 0), .ff, .v (.string ⟨#[]⟩), .ff, .ff, .v (.string ⟨#[]⟩), .v (.int .i64 0), .v (.string ⟨#[]⟩)], [(0, 1, some false), (1, 1, some false), (2, 1, some false), (3, 1, some false), (4, 1, some false), (5, 1, some false), (6, 1, some false), (7, 3, some true), (10, 1, some false)], .struct, 112⟩),
  (38, ⟨1, false, [.v .nilFunc], [], .func, 8⟩),
  (39, ⟨1, false, [.v .nilFunc], [], .func, 8⟩),
  (40, ⟨1, false, [.v .nilFunc], [], .func, 8⟩),
  (41, ⟨1, false, [.v .nilFunc], [], .func, 8⟩),
  (42, ⟨1, false, [.v .nilFunc], [], .func, 8⟩),
  (43, ⟨1, false, [.v (.slice none 0 0)], [], .slice 3, 24⟩),
  (44, ⟨1, false, [.v .nilFunc], [], .func, 8⟩),
  (45, ⟨1, false, [.v (.slice none 0 0)], [], .slice 129, 24⟩),
  (46, ⟨1, false, [.v .nilFunc], [], .func, 8⟩),
  (47, ⟨1, false, [.v .nilFunc], [], .func, 8⟩),
  (48, ⟨1, false, [.v (.slice none 0 0)], [], .slice 132, 24⟩),
  (49, ⟨1, false, [.v .nilFunc], [], .func, 8⟩),
  (51, ⟨1, false, [.v .nilFunc], [], .func, 8⟩),
  (52, ⟨1, false, [.v .nilFunc], [], .func, 8⟩),
  (53, ⟨1, false, [.v .nilFunc], [], .func, 8⟩),
  (54, ⟨1, false, [.v .nilFunc], [], .func, 8⟩),
  (55, ⟨1, false, [.v .nilFunc], [], .func, 8⟩),
  (56, ⟨1, false, [.v .nilFunc], [], .func, 8⟩),
  (57, ⟨1, false, [.v .nilFunc], [], .func, 8⟩),
  (58, ⟨1, false, [.v .nilFunc], [], .func, 8⟩),
  (59, ⟨1, false, [.v .nilFunc], [], .func, 8⟩),
  (60, ⟨1, false, [.v .nilFunc], [], .func, 8⟩),
  (61, ⟨1, false, [.v .nilFunc], [], .func, 8⟩),
  (62, ⟨1, false, [.v .nilFunc], [], .func, 8⟩),
  (63, ⟨1, false, [.v .nilFunc], [], .func, 8⟩),
  (64, ⟨1, false, [.v .nilFunc], [], .func, 8⟩),
  (66, ⟨1, false, [.v .nilFunc], [], .func, 8⟩),
  (67, ⟨1, false, [.v (.slice none 0 0)], [], .slice 75, 24⟩),
  (68, ⟨1, false, [.v .nilFunc], [], .func, 8⟩),
  (69, ⟨1, false, [.v (.slice none 0 0)], [], .slice 85, 24⟩),
  (70, ⟨2, true, [.v (.slice none 0 0), .v (.int .i64 0)], [(0, 1, some false), (1, 1, some false)], .struct, 32⟩),
  (71, ⟨2, true, [.v (.slice none 0 0), .v (.int .i64 0)], [(0, 1, some false), (1, 1, some false)], .struct, 32⟩),
  (73, ⟨1, false, [.v .nilFunc], [], .func, 8⟩),
  (74, ⟨1, false, [.v .nilFunc], [], .func, 8⟩),
  (75, ⟨1, false, [.v (.slice none 0 0)], [], .slice 9, 24⟩),
  (76, ⟨1, false, [.v .nilFunc], [], .func, 8⟩),
  (77, ⟨1, false, [.v (.slice none 0 0)], [], .slice 144, 24⟩),
  (78, ⟨2, true, [.v (.slice none 0 0), .v (.int .i64 0)], [(0, 1, some false), (1, 1, some false)], .struct, 32⟩),
  (79, ⟨2, true, [.v (.slice none 0 0), .v (.int .i64 0)], [(0, 1, some false), (1, 1, some false)], .struct, 32⟩),
  (80, ⟨1, false, [.v .nilFunc], [], .func, 8⟩),
  (81, ⟨1, false, [.v .nilFunc], [], .func, 8⟩),
  (82, ⟨1, false, [.v .nilFunc], [], .func, 8⟩),
  (83, ⟨1, false, [.v .nilFunc], [], .func, 8⟩),
  (84, ⟨3, true, [.v (.int .i64 0), .v (.slice none 0 0), .v (.int .i64 0)], [(0, 1, some false), (1, 1, some false), (2, 1, some false)], .struct, 40⟩),
  (85, ⟨3, true, [.v (.int .i64 0), .v (.slice none 0 0), .v (.int .i64 0)], [(0, 1, some false), (1, 1, some false), (2, 1, some false)], .struct, 40⟩),
  (86, ⟨1, false, [.v .nilFunc], [], .func, 8⟩),
  (87, ⟨1, false, [.v .nilFunc], [], .func, 8⟩),
  (88, ⟨2, true, [.v (.int .i64 0), .v (.string ⟨#[]⟩)], [(0, 1, some false), (1, 1, some false)], .struct, 24⟩),
  (89, ⟨2, true, [.v (.int .i64 0), .v (.string ⟨#[]⟩)], [(0, 1, some false), (1, 1, some false)], .struct, 24⟩),
  (90, ⟨1, false, [.v (.slice none 0 0)], [], .slice 89, 24⟩),
  (91, ⟨1, false, [.v .nilFunc], [], .func, 8⟩),
  (92, ⟨1, false, [.v .nilFunc], [], .func, 8⟩),
  (93, ⟨1, false, [.v .nilFunc], [], .func, 8⟩),
  (94, ⟨1, false, [.v .nilFunc], [], .func, 8⟩),
  (95, ⟨1, false, [.v .nilFunc], [], .func, 8⟩),
  (96, ⟨1, false, [.v .nilFunc], [], .func, 8⟩),
  (97, ⟨2, true, [.v (.int .i64 0), .v (.int .i64 0)], [(0, 1, some false), (1, 1, some false)], .struct, 16⟩),
  (98, ⟨2, true, [.v (.int .i64 0), .v (.int .i64 0)], [(0, 1, some false), (1, 1, some false)], .struct, 16⟩),
  (100, ⟨1, false, [.v .nilFunc], [], .func, 8⟩),
  (101, ⟨1, false, [.v .nilFunc], [], .func, 8⟩),
  (102, ⟨1, false, [.v .nilFunc], [], .func, 8⟩),
  (103, ⟨1, false, [.v .nilFunc], [], .func, 8⟩),
  (104, ⟨1, false, [.v .nilFunc], [], .func, 8⟩),
  (105, ⟨1, false, [.v .nilFunc], [], .func, 8⟩),
  (106, ⟨1, false, [.v .nilFunc], [], .func, 8⟩),
  (107, ⟨1, false, [.v .nilFunc], [], .func, 8⟩),
  (108, ⟨1, false, [.v .nilFunc], [], .func, 8⟩),
  (109, ⟨1, false, [.v .nilFunc], [], .func, 8⟩),
  (110, ⟨1, false, [.v .nilFunc], [], .func, 8⟩),
  (111, ⟨1, false, [.v .nilFunc], [], .func, 8⟩),
  (112, ⟨1, false, [.v (.pointer none)], [], .ptr 114, 8⟩),
  (113, ⟨1, true, [.v (.int .i64 0)], [(0, 1, some false)], .struct, 8⟩),
  (114, ⟨1, true, [.v (.int .i64 0)], [(0, 1, some false)], .struct, 8⟩),
  (115, ⟨1, false, [.v .nilFunc], [], .func, 8⟩),
  (116, ⟨1, false, [.v (.pointer none)], [], .ptr 118, 8⟩),
  (117, ⟨3, true, [.v (.slice none 0 0), .v (.int .i64 0), .v (.int .i64 0)], [(0, 1, some false), (1, 1, some false), (2, 1, some false)], .struct, 40⟩),
  (118, ⟨3, true, [.v (.slice none 0 0), .v (.int .i64 0), .v (.int .i64 0)], [(0, 1, some false), (1, 1, some false), (2, 1, some false)], .struct, 40⟩),
  (119, ⟨1, false, [.v .nilFunc], [], .func, 8⟩),
  (120, ⟨1, false, [.v (.pointer none)], [], .ptr 122, 8⟩),
  (121, ⟨2, true, [.v (.slice none 0 0), .v (.int .i64 0)], [(0, 1, some false), (1, 1, some false)], .struct, 32⟩),
  (122, ⟨2, true, [.v (.slice none 0 0), .v (.int .i64 0)], [(0, 1, some false), (1, 1, some false)], .struct, 32⟩),
  (123, ⟨1, false, [.v .nilFunc], [], .func, 8⟩),
  (124, ⟨9, true, [.v (.string ⟨#[]⟩), .v (.int .i64 0), .ff, .ff, .v (.string ⟨#[]⟩), .v (.int .i64 0), .v (.string ⟨#[]⟩), .v (.slice none 0 0), .v (.slice none 0 0)], [(0, 1, some false), (1, 8, some true)], .struct, 128⟩),
  (125, ⟨9, true, [.v (.string ⟨#[]⟩), .v (.int .i64 0), .ff, .ff, .v (.string ⟨#[]⟩), .v (.int .i64 0), .v (.string ⟨#[]⟩), .v (.slice none 0 0), .v (.slice none 0 0)], [(0, 1, some false), (1, 8, some true)], .struct, 128⟩),
  (126, ⟨1, false, [.v .nilFunc], [], .func, 8⟩),
  (127, ⟨1, false, [.v .nilFunc], [], .func, 8⟩),
  (128, ⟨3, true, [.v (.string ⟨#[]⟩), .v (.int .i64 0), .ff], [(0, 1, some false), (1, 1, some false), (2, 1, some false)], .struct, 32⟩),
  (129, ⟨3, true, [.v (.string ⟨#[]⟩), .v (.int .i64 0), .ff], [(0, 1, some false), (1, 1, some false), (2, 1, some false)], .struct, 32⟩),
  (130, ⟨1, false, [.v .nilFunc], [], .func, 8⟩),
  (131, ⟨1, false, [.v .nilFunc], [], .func, 8⟩),
  (132, ⟨11, true, [.v (.int .i64 0), .v (.int .i64 0), .v (.int .i64 0), .v (.int .i64 0), .ff, .v (.string ⟨#[]⟩), .ff, .ff, .v (.string ⟨#[]⟩), .v (.int .i64 0), .v (.string ⟨#[]⟩)], [(0, 1, some false), (1, 1, some false), (2, 1, some false), (3, 1, some false), (4, 1, some false), (5, 1, some false), (6, 1, some false), (7, 3, some true), (10, 1, some false)], .struct, 112⟩),
  (133, ⟨1, false, [.v (.pointer none)], [], .ptr 135, 8⟩),
  (134, ⟨3, true, [.v (.slice none 0 0), .v (.int .i64 0), .v (.int .i64 0)], [(0, 1, some false), (1, 1, some false), (2, 1, some false)], .struct, 40⟩),
  (135, ⟨3, true, [.v (.slice none 0 0), .v (.int .i64 0), .v (.int .i64 0)], [(0, 1, some false), (1, 1, some false), (2, 1, some false)], .struct, 40⟩),
  (136, ⟨1, false, [.v .nilFunc], [], .func, 8⟩),
  (138, ⟨1, false, [.v .nilFunc], [], .func, 8⟩),
  (140, ⟨1, false, [.v .nilFunc], [], .func, 8⟩),
  (141, ⟨1, false, [.v .nilFunc], [], .func, 8⟩),
  (142, ⟨1, false, [.v .nilFunc], [], .func, 8⟩),
  (143, ⟨1, false, [.v .nilFunc], [], .func, 8⟩),
  (144, ⟨3, true, [.v (.int .i64 0), .v (.slice none 0 0), .v (.int .i64 0)], [(0, 1, some false), (1, 1, some false), (2, 1, some false)], .struct, 40⟩),
  (145, ⟨1, false, [.v .nilFunc], [], .func, 8⟩),
  (146, ⟨1, false, [.v .nilFunc], [], .func, 8⟩),
  (147, ⟨1, false, [.v .nilFunc], [], .func, 8⟩),
  (148, ⟨1, false, [.v .nilFunc], [], .func, 8⟩),
  (149, ⟨1, false, [.v .nilFunc], [], .func, 8⟩),
  (150, ⟨1, false, [.v .nilFunc], [], .func, 8⟩),
  (151, ⟨1, false, [.v .nilFunc], [], .func, 8⟩),
  (152, ⟨3, true, [.v (.int .i64 0), .v (.int .i64 0), .v (.int .i64 0)], [(0, 1, some false), (1, 1, some false), (2, 1, some false)], .struct, 24⟩),
  (153, ⟨3, true, [.v (.int .i64 0), .v (.int .i64 0), .v (.int .i64 0)], [(0, 1, some false), (1, 1, some false), (2, 1, some false)], .struct, 24⟩),
  (155, ⟨1, false, [.v .nilFunc], [], .func, 8⟩),
  (156, ⟨1, false, [.v .nilFunc], [], .func, 8⟩),
  (157, ⟨1, false, [.v .nilFunc], [], .func, 8⟩),
  (158, ⟨24, true, [.v (.slice none 0 0), .v (.int .i64 0), .v (.int .i64 0), .v (.int .i64 0), .v (.int .i64 0), .v (.int .i64 0), .v (.int .i64 0), .ff, .v (.string ⟨#[]⟩), .ff, .ff, .v (.string ⟨#[]⟩), .v (.int .i64 0), .v (.string ⟨#[]⟩), .v (.int .i64 0), .ff, .ff, .v (.string ⟨#[]⟩), .v (.int .i64 0), .v (.string ⟨#[]⟩), .v (.slice none 0 0), .v (.slice none 0 0), .v (.int .i64 0), .v .nilFunc], [(0, 1, some false), (1, 1, some false), (2, 1, some false), (3, 11, some true), (14, 8, some true), (22, 1, some false), (23, 1, some false)], .struct, 280⟩),
  (159, ⟨24, true, [.v (.slice none 0 0), .v (.int .i64 0), .v (.int .i64 0), .v (.int .i64 0), .v (.int .i64 0), .v (.int .i64 0), .v (.int .i64 0), .ff, .v (.string ⟨#[]⟩), .ff, .ff, .v (.string ⟨#[]⟩), .v (.int .i64 0), .v (.string ⟨#[]⟩), .v (.int .i64 0), .ff, .ff, .v (.string ⟨#[]⟩), .v (.int .i64 0), .v (.string ⟨#[]⟩), .v (.slice none 0 0), .v (.slice none 0 0), .v (.int .i64 0), .v .nilFunc], [(0, 1, some false), (1, 1, some false), (2, 1, some false), (3, 11, some true), (14, 8, some true), (22, 1, some false), (23, 1, some false)], .struct, 280⟩),
  (160, ⟨1, false, [.v .nilFunc], [], .func, 8⟩),
  (161, ⟨1, false, [.v .nilFunc], [], .func, 8⟩),
  (162, ⟨1, false, [.v .nilFunc], [], .func, 8⟩),
  (163, ⟨1, false, [.v .nilFunc], [], .func, 8⟩),
  (164, ⟨1, false, [.v .nilFunc], [], .func, 8⟩),
  (165, ⟨1, false, [.v .nilFunc], [], .func, 8⟩),
  (166, ⟨1, false, [.v .nilFunc], [], .func, 8⟩),
  (167, ⟨1, false, [.v .nilFunc], [], .func, 8⟩),
  (168, ⟨1, false, [.v .nilFunc], [], .func, 8⟩),
  (169, ⟨1, false, [.v .nilFunc], [], .func, 8⟩),
  (170, ⟨1, false, [.v .nilFunc], [], .func, 8⟩),
  (171, ⟨1, false, [.v .nilFunc], [], .func, 8⟩),
  (172, ⟨1, false, [.v .nilFunc], [], .func, 8⟩),
  (173, ⟨1, false, [.v .nilFunc], [], .func, 8⟩),
  (174, ⟨1, false, [.v .nilFunc], [], .func, 8⟩),
  (175, ⟨1, false, [.v .nilFunc], [], .func, 8⟩),
  (177, ⟨1, false, [.v .nilFunc], [], .func, 8⟩),
  (178, ⟨1, false, [.v .nilFunc], [], .func, 8⟩),
  (179, ⟨1, false, [.v .nilFunc], [], .func, 8⟩),
  (180, ⟨1, false, [.v .nilFunc], [], .func, 8⟩),
  (181, ⟨1, false, [.v (.slice none 0 0)], [], .slice 4, 24⟩),
  (182, ⟨1, false, [.v .nilFunc], [], .func, 8⟩),
  (183, ⟨1, false, [.v .nilFunc], [], .func, 8⟩),
  (184, ⟨1, false, [.v (.slice none 0 0)], [], .slice 5, 24⟩),
  (185, ⟨1, false, [.v .nilFunc], [], .func, 8⟩),
  (186, ⟨1, false, [.v .nilFunc], [], .func, 8⟩),
  (187, ⟨1, false, [.v .nilFunc], [], .func, 8⟩),
  (188, ⟨1, false, [.v .nilFunc], [], .func, 8⟩),
  (189, ⟨1, false, [.v .nilFunc], [], .func, 8⟩),
  (190, ⟨1, false, [.v .nilFunc], [], .func, 8⟩),
  (191, ⟨1, false, [.v .nilFunc], [], .func, 8⟩),
  (192, ⟨1, false, [.v .nilFunc], [], .func, 8⟩),
  (193, ⟨1, false, [.v (.map none)], [], .map 9 4, 8⟩),
  (194, ⟨1, false, [.v .nilFunc], [], .func, 8⟩),
  (195, ⟨1, false, [.v .nilFunc], [], .func, 8⟩),
  (197, ⟨1, false, [.v .nilFunc], [], .func, 8⟩),
  (199, ⟨1, false, [.v .nilFunc], [], .func, 8⟩),
  (200, ⟨1, false, [.v (.slice none 0 0)], [], .slice 32, 24⟩),
  (201, ⟨1, false, [.v .nilFunc], [], .func, 8⟩),
  (202, ⟨1, false, [.v .nilFunc], [], .func, 8⟩),
  (203, ⟨1, false, [.v .nilFunc], [], .func, 8⟩),
  (204, ⟨1, false, [.v .nilFunc], [], .func, 8⟩),
  (205, ⟨1, false, [.v .nilFunc], [], .func, 8⟩),
  (206, ⟨3, true, [.v (.int .u8 0), .v (.int .u8 0), .v (.int .i32 0)], [(0, 1, some false), (1, 1, some false), (2, 1, some false)], .struct, 8⟩),
  (207, ⟨3, true, [.v (.int .u8 0), .v (.int .u8 0), .v (.int .i32 0)], [(0, 1, some false), (1, 1, some false), (2, 1, some false)], .struct, 8⟩),
  (208, ⟨12, true, [.v (.int .u8 0), .v (.int .u8 0), .v (.int .i32 0), .v (.int .u8 0), .v (.int .u8 0), .v (.int .i32 0), .v (.int .u8 0), .v (.int .u8 0), .v (.int .i32 0), .v (.int .u8 0), .v (.int .u8 0), .v (.int .i32 0)], [], .array 4 207, 32⟩),
  (209, ⟨1, false, [.v .nilFunc], [], .func, 8⟩),
  (210, ⟨1, false, [.v (.int .u64 0)], [], .int .u64, 8⟩),
  (211, ⟨1, false, [.v .nilFunc], [], .func, 8⟩),
  (212, ⟨1, false, [.v .nilFunc], [], .func, 8⟩),
  (214, ⟨256, true, List.replicate 256 .ff, [], .array 256 4, 256⟩),
  (216, ⟨1, false, [.v .nilFunc], [], .func, 8⟩),
  (217, ⟨1, false, [.v .nilFunc], [], .func, 8⟩),
  (218, ⟨1, false, [.v (.pointer none)], [], .ptr 214, 8⟩),
  (219, ⟨1, false, [.v .nilFunc], [], .func, 8⟩),
  (220, ⟨1, false, [.v .nilFunc], [], .func, 8⟩),
  (221, ⟨1, false, [.v .nilFunc], [], .func, 8⟩),
  (222, ⟨1, false, [.v .nilFunc], [], .func, 8⟩),
  (223, ⟨1, false, [.v .nilFunc], [], .func, 8⟩),
  (224, ⟨1, false, [.v .nilFunc], [], .func, 8⟩),
  (225, ⟨1, false, [.v .nilFunc], [], .func, 8⟩),
  (226, ⟨1, false, [.v .nilFunc], [], .func, 8⟩),
  (228, ⟨2, true, [.v (.int .u8 0), .v (.int .u8 0)], [(0, 1, some false), (1, 1, some false)], .struct, 2⟩),
  (229, ⟨2, true, [.v (.int .u8 0), .v (.int .u8 0)], [(0, 1, some false), (1, 1, some false)], .struct, 2⟩),
  (230, ⟨32, true, [.v (.int .u8 0), .v (.int .u8 0), .v (.int .u8 0), .v (.int .u8 0), .v (.int .u8 0), .v (.int .u8 0), .v (.int .u8 0), .v (.int .u8 0), .v (.int .u8 0), .v (.int .u8 0), .v (.int .u8 0), .v (.int .u8 0), .v (.int .u8 0), .v (.int .u8 0), .v (.int .u8 0), .v (.int .u8 0), .v (.int .u8 0), .v (.int .u8 0), .v (.int .u8 0), .v (.int .u8 0), .v (.int .u8 0), .v (.int .u8 0), .v (.int .u8 0), .v (.int .u8 0), .v (.int .u8 0), .v (.int .u8 0), .v (.int .u8 0), .v (.int .u8 0), .v (.int .u8 0), .v (.int .u8 0), .v (.int .u8 0), .v (.int .u8 0)], [], .array 16 229, 32⟩),
  (231, ⟨1, false, [.v .nilFunc], [], .func, 8⟩),
  (232, ⟨1, false, [.v .nilFunc], [], .func, 8⟩),
  (233, ⟨1, false, [.v .nilFunc], [], .func, 8⟩),
  (234, ⟨4, true, [.v (.pointer none), .v (.pointer none), .v (.pointer none), .v (.string ⟨#[]⟩)], [(0, 1, some false), (1, 1, some false), (2, 1, some false), (3, 1, some false)], .struct, 40⟩),
  (235, ⟨4, true, [.v (.pointer none), .v (.pointer none), .v (.pointer none), .v (.string ⟨#[]⟩)], [(0, 1, some false), (1, 1, some false), (2, 1, some false), (3, 1, some false)], .struct, 40⟩),
  (236, ⟨0, true, [], [], .array 0 16, 0⟩),
  (237, ⟨0, true, [], [(0, 0, some true)], .struct, 0⟩),
  (238, ⟨0, true, [], [(0, 0, some true)], .struct, 0⟩),
  (239, ⟨1, false, [.v (.int .u32 0)], [], .int .u32, 4⟩),
  (240, ⟨1, false, [.v (.int .u8 0)], [], .int .u8, 1⟩),
  (241, ⟨1, false, [.v (.int .u8 0)], [], .int .u8, 1⟩),
  (242, ⟨1, false, [.v .nilFunc], [], .func, 8⟩),
  (243, ⟨1, false, [.v (.pointer none)], [], .ptr 5, 8⟩),
  (244, ⟨1, false, [.v (.int .i32 0)], [], .int .i32, 4⟩),
  (245, ⟨1, false, [.v (.int .i32 0)], [], .int .i32, 4⟩),
  (246, ⟨11, true, [.v (.int .u64 0), .v (.int .u64 0), .v (.int .u32 0), .v (.int .u8 0), .v (.int .u8 0), .v (.int .u8 0), .v (.int .u8 0), .v .nilFunc, .v (.pointer none), .v (.int .i32 0), .v (.int .i32 0)], [(0, 1, some false), (1, 1, some false), (2, 1, some false), (3, 1, some false), (4, 1, some false), (5, 1, some false), (6, 1, some false), (7, 1, some false), (8, 1, some false), (9, 1, some false), (10, 1, some false)], .struct, 48⟩),
  (247, ⟨11, true, [.v (.int .u64 0), .v (.int .u64 0), .v (.int .u32 0), .v (.int .u8 0), .v (.int .u8 0), .v (.int .u8 0), .v (.int .u8 0), .v .nilFunc, .v (.pointer none), .v (.int .i32 0), .v (.int .i32 0)], [(0, 1, some false), (1, 1, some false), (2, 1, some false), (3, 1, some false), (4, 1, some false), (5, 1, some false), (6, 1, some false), (7, 1, some false), (8, 1, some false), (9, 1, some false), (10, 1, some false)], .struct, 48⟩),
  (248, ⟨1, false, [.v (.pointer none)], [], .other, 8⟩)
]
theorem tt1 : tiOf Tryd.prog 1 = some ⟨1, false, [.v .nilFunc], [], .func, 8⟩ := by kernel_rfl
theorem tt2 : tiOf Tryd.prog 2 = some ⟨1, false, [.v (.int .i64 0)], [], .int .i64, 8⟩ := by kernel_rfl
theorem tt3 : tiOf Tryd.prog 3 = some ⟨1, false, [.v (.int .i64 0)], [], .int .i64, 8⟩ := by kernel_rfl
theorem tt4 : tiOf Tryd.prog 4 = some ⟨1, false, [.ff], [], .bool, 1⟩ := by kernel_rfl
theorem tt5 : tiOf Tryd.prog 5 = some ⟨1, false, [.v (.int .u8 0)], [], .int .u8, 1⟩ := by kernel_rfl
theorem tt6 : tiOf Tryd.prog 6 = some ⟨1, false, [.v (.int .u8 0)], [], .int .u8, 1⟩ := by kernel_rfl
theorem tt7 : tiOf Tryd.prog 7 = some ⟨4, true, [.v (.int .i64 0), .v (.int .i64 0), .ff, .v (.int .u8 0)], [(0, 1, some false), (1, 1, some false), (2, 1, some false), (3, 1, some false)], .struct, 24⟩ := by kernel_rfl
theorem tt8 : tiOf Tryd.prog 8 = some ⟨4, true, [.v (.int .i64 0), .v (.int .i64 0), .ff, .v (.int .u8 0)], [(0, 1, some false), (1, 1, some false), (2, 1, some false), (3, 1, some false)], .struct, 24⟩ := by kernel_rfl
theorem tt9 : tiOf Tryd.prog 9 = some ⟨1, false, [.v (.string ⟨#[]⟩)], [], .str, 16⟩ := by kernel_rfl
theorem tt10 : tiOf Tryd.prog 10 = some ⟨1, false, [.v (.string ⟨#[]⟩)], [], .str, 16⟩ := by kernel_rfl
theorem tt11 : tiOf Tryd.prog 11 = some ⟨1, false, [.v (.string ⟨#[]⟩)], [], .str, 16⟩ := by kernel_rfl
theorem tt12 : tiOf Tryd.prog 12 = some ⟨1, false, [.v (.int .u64 0)], [], .int .u64, 8⟩ := by kernel_rfl
theorem tt13 : tiOf Tryd.prog 13 = some ⟨2, true, [.v (.string ⟨#[]⟩), .v (.int .u64 0)], [(0, 1, some false), (1, 1, some false)], .struct, 24⟩ := by kernel_rfl
theorem tt14 : tiOf Tryd.prog 14 = some ⟨2, true, [.v (.string ⟨#[]⟩), .v (.int .u64 0)], [(0, 1, some false), (1, 1, some false)], .struct, 24⟩ := by kernel_rfl
theorem tt15 : tiOf Tryd.prog 15 = some ⟨1, false, [.v (.pointer none)], [], .ptr 235, 8⟩ := by kernel_rfl
theorem tt16 : tiOf Tryd.prog 16 = some ⟨1, false, [.v (.pointer none)], [], .ptr 238, 8⟩ := by kernel_rfl
theorem tt17 : tiOf Tryd.prog 17 = some ⟨1, false, [.v (.pointer none)], [], .ptr 247, 8⟩ := by kernel_rfl
theorem tt18 : tiOf Tryd.prog 18 = some ⟨1, true, [.v (.pointer none)], [(0, 1, some false)], .struct, 8⟩ := by kernel_rfl
theorem tt19 : tiOf Tryd.prog 19 = some ⟨1, true, [.v (.pointer none)], [(0, 1, some false)], .struct, 8⟩ := by kernel_rfl
theorem tt20 : tiOf Tryd.prog 20 = some ⟨1, false, [.v .nilIface], [], .iface, 16⟩ := by kernel_rfl
theorem tt21 : tiOf Tryd.prog 21 = some ⟨1, false, [.v (.int .i32 0)], [], .int .i32, 4⟩ := by kernel_rfl
theorem tt22 : tiOf Tryd.prog 22 = some ⟨3, true, [.ff, .v (.string ⟨#[]⟩), .v (.int .i64 0)], [(0, 1, some false), (1, 1, some false), (2, 1, some false)], .struct, 32⟩ := by kernel_rfl
theorem tt23 : tiOf Tryd.prog 23 = some ⟨3, true, [.ff, .v (.string ⟨#[]⟩), .v (.int .i64 0)], [(0, 1, some false), (1, 1, some false), (2, 1, some false)], .struct, 32⟩ := by kernel_rfl
theorem tt24 : tiOf Tryd.prog 24 = some ⟨1, false, [.v (.slice none 0 0)], [], .slice 27, 24⟩ := by kernel_rfl
theorem tt25 : tiOf Tryd.prog 25 = some ⟨1, false, [.v (.slice none 0 0)], [], .slice 125, 24⟩ := by kernel_rfl
theorem tt26 : tiOf Tryd.prog 26 = some ⟨8, true, [.v (.int .i64 0), .ff, .ff, .v (.string ⟨#[]⟩), .v (.int .i64 0), .v (.string ⟨#[]⟩), .v (.slice none 0 0), .v (.slice none 0 0)], [(0, 1, some false), (1, 1, some false), (2, 3, some true), (5, 1, some false), (6, 1, some false), (7, 1, some false)], .struct, 112⟩ := by kernel_rfl
theorem tt27 : tiOf Tryd.prog 27 = some ⟨8, true, [.v (.int .i64 0), .ff, .ff, .v (.string ⟨#[]⟩), .v (.int .i64 0), .v (.string ⟨#[]⟩), .v (.slice none 0 0), .v (.slice none 0 0)], [(0, 1, some false), (1, 1, some false), (2, 3, some true), (5, 1, some false), (6, 1, some false), (7, 1, some false)], .struct, 112⟩ := by kernel_rfl
theorem tt28 : tiOf Tryd.prog 28 = some ⟨1, false, [.v .nilFunc], [], .func, 8⟩ := by kernel_rfl
theorem tt29 : tiOf Tryd.prog 29 = some ⟨1, false, [.v .nilFunc], [], .func, 8⟩ := by kernel_rfl
theorem tt30 : tiOf Tryd.prog 30 = some ⟨1, false, [.v (.int .i64 0)], [], .int .i64, 8⟩ := by kernel_rfl
theorem tt31 : tiOf Tryd.prog 31 = some ⟨1, false, [.v .nilFunc], [], .func, 8⟩ := by kernel_rfl
theorem tt32 : tiOf Tryd.prog 32 = some ⟨1, false, [.v (.slice none 0 0)], [], .slice 36, 24⟩ := by kernel_rfl
theorem tt34 : tiOf Tryd.prog 34 = some ⟨1, false, [.v .nilFunc], [], .func, 8⟩ := by kernel_rfl
theorem tt35 : tiOf Tryd.prog 35 = some ⟨11, true, [.v (.int .i64 0), .v (.int .i64 0), .v (.int .i64 0), .v (.int .i64 0), .ff, .v (.string ⟨#[]⟩), .ff, .ff, .v (.string ⟨#[]⟩), .v (.int .i64 0), .v (.string ⟨#[]⟩)], [(0, 1, some false), (1, 1, some false), (2, 1, some false), (3, 1, some false), (4, 1, some false), (5, 1, some false), (6, 1, some false), (7, 3, some true), (10, 1, some false)], .struct, 112⟩ := by kernel_rfl
theorem tt36 : tiOf Tryd.prog 36 = some ⟨11, true, [.v (.int .i64 0), .v (.int .i64 0), .v (.int .i64 0), .v (.int .i64 0), .ff, .v (.string ⟨#[]⟩), .ff, .ff, .v (.string ⟨#[]⟩), .v (.int .i64 0), .v (.string ⟨#[]⟩)], [(0, 1, some false), (1, 1, some false), (2, 1, some false), (3, 1, some false), (4, 1, some false), (5, 1, some false), (6, 1, some false), (7, 3, some true), (10, 1, some false)], .struct, 112⟩ := by kernel_rfl
theorem tt38 : tiOf Tryd.prog 38 = some ⟨1, false, [.v .nilFunc], [], .func, 8⟩ := by kernel_rfl
theorem tt39 : tiOf Tryd.prog 39 = some ⟨1, false, [.v .nilFunc], [], .func, 8⟩ := by kernel_rfl
theorem tt40 : tiOf Tryd.prog 40 = some ⟨1, false, [.v .nilFunc], [], .func, 8⟩ := by kernel_rfl
theorem tt41 : tiOf Tryd.prog 41 = some ⟨1, false, [.v .nilFunc], [], .func, 8⟩ := by kernel_rfl
theorem tt42 : tiOf Tryd.prog 42 = some ⟨1, false, [.v .nilFunc], [], .func, 8⟩ := by kernel_rfl
theorem tt43 : tiOf Tryd.prog 43 = some ⟨1, false, [.v (.slice none 0 0)], [], .slice 3, 24⟩ := by kernel_rfl
theorem tt44 : tiOf Tryd.prog 44 = some ⟨1, false, [.v .nilFunc], [], .func, 8⟩ := by kernel_rfl
theorem tt45 : tiOf Tryd.prog 45 = some ⟨1, false, [.v (.slice none 0 0)], [], .slice 129, 24⟩ := by kernel_rfl
theorem tt46 : tiOf Tryd.prog 46 = some ⟨1, false, [.v .nilFunc], [], .func, 8⟩ := by kernel_rfl
theorem tt47 : tiOf Tryd.prog 47 = some ⟨1, false, [.v .nilFunc], [], .func, 8⟩ := by kernel_rfl
theorem tt48 : tiOf Tryd.prog 48 = some ⟨1, false, [.v (.slice none 0 0)], [], .slice 132, 24⟩ := by kernel_rfl
theorem tt49 : tiOf Tryd.prog 49 = some ⟨1, false, [.v .nilFunc], [], .func, 8⟩ := by kernel_rfl
theorem tt51 : tiOf Tryd.prog 51 = some ⟨1, false, [.v .nilFunc], [], .func, 8⟩ := by kernel_rfl
theorem tt52 : tiOf Tryd.prog 52 = some ⟨1, false, [.v .nilFunc], [], .func, 8⟩ := by kernel_rfl
theorem tt53 : tiOf Tryd.prog 53 = some ⟨1, false, [.v .nilFunc], [], .func, 8⟩ := by kernel_rfl
theorem tt54 : tiOf Tryd.prog 54 = some ⟨1, false, [.v .nilFunc], [], .func, 8⟩ := by kernel_rfl
theorem tt55 : tiOf Tryd.prog 55 = some ⟨1, false, [.v .nilFunc], [], .func, 8⟩ := by kernel_rfl
theorem tt56 : tiOf Tryd.prog 56 = some ⟨1, false, [.v .nilFunc], [], .func, 8⟩ := by kernel_rfl
theorem tt57 : tiOf Tryd.prog 57 = some ⟨1, false, [.v .nilFunc], [], .func, 8⟩ := by kernel_rfl
theorem tt58 : tiOf Tryd.prog 58 = some ⟨1, false, [.v .nilFunc], [], .func, 8⟩ := by kernel_rfl
theorem tt59 : tiOf Tryd.prog 59 = some ⟨1, false, [.v .nilFunc], [], .func, 8⟩ := by kernel_rfl
theorem tt60 : tiOf Tryd.prog 60 = some ⟨1, false, [.v .nilFunc], [], .func, 8⟩ := by kernel_rfl
theorem tt61 : tiOf Tryd.prog 61 = some ⟨1, false, [.v .nilFunc], [], .func, 8⟩ := by kernel_rfl
theorem tt62 : tiOf Tryd.prog 62 = some ⟨1, false, [.v .nilFunc], [], .func, 8⟩ := by kernel_rfl
theorem tt63 : tiOf Tryd.prog 63 = some ⟨1, false, [.v .nilFunc], [], .func, 8⟩ := by kernel_rfl
theorem tt64 : tiOf Tryd.prog 64 = some ⟨1, false, [.v .nilFunc], [], .func, 8⟩ := by kernel_rfl
theorem tt66 : tiOf Tryd.prog 66 = some ⟨1, false, [.v .nilFunc], [], .func, 8⟩ := by kernel_rfl
theorem tt67 : tiOf Tryd.prog 67 = some ⟨1, false, [.v (.slice none 0 0)], [], .slice 75, 24⟩ := by kernel_rfl
theorem tt68 : tiOf Tryd.prog 68 = some ⟨1, false, [.v .nilFunc], [], .func, 8⟩ := by kernel_rfl
theorem tt69 : tiOf Tryd.prog 69 = some ⟨1, false, [.v (.slice none 0 0)], [], .slice 85, 24⟩ := by kernel_rfl
theorem tt70 : tiOf Tryd.prog 70 = some ⟨2, true, [.v (.slice none 0 0), .v (.int .i64 0)], [(0, 1, some false), (1, 1, some false)], .struct, 32⟩ := by kernel_rfl
theorem tt71 : tiOf Tryd.prog 71 = some ⟨2, true, [.v (.slice none 0 0), .v (.int .i64 0)], [(0, 1, some false), (1, 1, some false)], .struct, 32⟩ := by kernel_rfl
theorem tt73 : tiOf Tryd.prog 73 = some ⟨1, false, [.v .nilFunc], [], .func, 8⟩ := by kernel_rfl
theorem tt74 : tiOf Tryd.prog 74 = some ⟨1, false, [.v .nilFunc], [], .func, 8⟩ := by kernel_rfl
theorem tt75 : tiOf Tryd.prog 75 = some ⟨1, false, [.v (.slice none 0 0)], [], .slice 9, 24⟩ := by kernel_rfl
theorem tt76 : tiOf Tryd.prog 76 = some ⟨1, false, [.v .nilFunc], [], .func, 8⟩ := by kernel_rfl
theorem tt77 : tiOf Tryd.prog 77 = some ⟨1, false, [.v (.slice none 0 0)], [], .slice 144, 24⟩ := by kernel_rfl
theorem tt78 : tiOf Tryd.prog 78 = some ⟨2, true, [.v (.slice none 0 0), .v (.int .i64 0)], [(0, 1, some false), (1, 1, some false)], .struct, 32⟩ := by kernel_rfl
theorem tt79 : tiOf Tryd.prog 79 = some ⟨2, true, [.v (.slice none 0 0), .v (.int .i64 0)], [(0, 1, some false), (1, 1, some false)], .struct, 32⟩ := by kernel_rfl
theorem tt80 : tiOf Tryd.prog 80 = some ⟨1, false, [.v .nilFunc], [], .func, 8⟩ := by kernel_rfl
theorem tt81 : tiOf Tryd.prog 81 = some ⟨1, false, [.v .nilFunc], [], .func, 8⟩ := by kernel_rfl
theorem tt82 : tiOf Tryd.prog 82 = some ⟨1, false, [.v .nilFunc], [], .func, 8⟩ := by kernel_rfl
theorem tt83 : tiOf Tryd.prog 83 = some ⟨1, false, [.v .nilFunc], [], .func, 8⟩ := by kernel_rfl
theorem tt84 : tiOf Tryd.prog 84 = some ⟨3, true, [.v (.int .i64 0), .v (.slice none 0 0), .v (.int .i64 0)], [(0, 1, some false), (1, 1, some false), (2, 1, some false)], .struct, 40⟩ := by kernel_rfl
theorem tt85 : tiOf Tryd.prog 85 = some ⟨3, true, [.v (.int .i64 0), .v (.slice none 0 0), .v (.int .i64 0)], [(0, 1, some false), (1, 1, some false), (2, 1, some false)], .struct, 40⟩ := by kernel_rfl
theorem tt86 : tiOf Tryd.prog 86 = some ⟨1, false, [.v .nilFunc], [], .func, 8⟩ := by kernel_rfl
theorem tt87 : tiOf Tryd.prog 87 = some ⟨1, false, [.v .nilFunc], [], .func, 8⟩ := by kernel_rfl
theorem tt88 : tiOf Tryd.prog 88 = some ⟨2, true, [.v (.int .i64 0), .v (.string ⟨#[]⟩)], [(0, 1, some false), (1, 1, some false)], .struct, 24⟩ := by kernel_rfl
theorem tt89 : tiOf Tryd.prog 89 = some ⟨2, true, [.v (.int .i64 0), .v (.string ⟨#[]⟩)], [(0, 1, some false), (1, 1, some false)], .struct, 24⟩ := by kernel_rfl
theorem tt90 : tiOf Tryd.prog 90 = some ⟨1, false, [.v (.slice none 0 0)], [], .slice 89, 24⟩ := by kernel_rfl
theorem tt91 : tiOf Tryd.prog 91 = some ⟨1, false, [.v .nilFunc], [], .func, 8⟩ := by kernel_rfl
theorem tt92 : tiOf Tryd.prog 92 = some ⟨1, false, [.v .nilFunc], [], .func, 8⟩ := by kernel_rfl
theorem tt93 : tiOf Tryd.prog 93 = some ⟨1, false, [.v .nilFunc], [], .func, 8⟩ := by kernel_rfl
theorem tt94 : tiOf Tryd.prog 94 = some ⟨1, false, [.v .nilFunc], [], .func, 8⟩ := by kernel_rfl
theorem tt95 : tiOf Tryd.prog 95 = some ⟨1, false, [.v .nilFunc], [], .func, 8⟩ := by kernel_rfl
theorem tt96 : tiOf Tryd.prog 96 = some ⟨1, false, [.v .nilFunc], [], .func, 8⟩ := by kernel_rfl
theorem tt97 : tiOf Tryd.prog 97 = some ⟨2, true, [.v (.int .i64 0), .v (.int .i64 0)], [(0, 1, some false), (1, 1, some false)], .struct, 16⟩ := by kernel_rfl
theorem tt98 : tiOf Tryd.prog 98 = some ⟨2, true, [.v (.int .i64 0), .v (.int .i64 0)], [(0, 1, some false), (1, 1, some false)], .struct, 16⟩ := by kernel_rfl
theorem tt100 : tiOf Tryd.prog 100 = some ⟨1, false, [.v .nilFunc], [], .func, 8⟩ := by kernel_rfl
theorem tt101 : tiOf Tryd.prog 101 = some ⟨1, false, [.v .nilFunc], [], .func, 8⟩ := by kernel_rfl
theorem tt102 : tiOf Tryd.prog 102 = some ⟨1, false, [.v .nilFunc], [], .func, 8⟩ := by kernel_rfl
theorem tt103 : tiOf Tryd.prog 103 = some ⟨1, false, [.v .nilFunc], [], .func, 8⟩ := by kernel_rfl
theorem tt104 : tiOf Tryd.prog 104 = some ⟨1, false, [.v .nilFunc], [], .func, 8⟩ := by kernel_rfl
theorem tt105 : tiOf Tryd.prog 105 = some ⟨1, false, [.v .nilFunc], [], .func, 8⟩ := by kernel_rfl
theorem tt106 : tiOf Tryd.prog 106 = some ⟨1, false, [.v .nilFunc], [], .func, 8⟩ := by kernel_rfl
theorem tt107 : tiOf Tryd.prog 107 = some ⟨1, false, [.v .nilFunc], [], .func, 8⟩ := by kernel_rfl
theorem tt108 : tiOf Tryd.prog 108 = some ⟨1, false, [.v .nilFunc], [], .func, 8⟩ := by kernel_rfl
theorem tt109 : tiOf Tryd.prog 109 = some ⟨1, false, [.v .nilFunc], [], .func, 8⟩ := by kernel_rfl
theorem tt110 : tiOf Tryd.prog 110 = some ⟨1, false, [.v .nilFunc], [], .func, 8⟩ := by kernel_rfl
theorem tt111 : tiOf Tryd.prog 111 = some ⟨1, false, [.v .nilFunc], [], .func, 8⟩ := by kernel_rfl
theorem tt112 : tiOf Tryd.prog 112 = some ⟨1, false, [.v (.pointer none)], [], .ptr 114, 8⟩ := by kernel_rfl
theorem tt113 : tiOf Tryd.prog 113 = some ⟨1, true, [.v (.int .i64 0)], [(0, 1, some false)], .struct, 8⟩ := by kernel_rfl
theorem tt114 : tiOf Tryd.prog 114 = some ⟨1, true, [.v (.int .i64 0)], [(0, 1, some false)], .struct, 8⟩ := by kernel_rfl
theorem tt115 : tiOf Tryd.prog 115 = some ⟨1, false, [.v .nilFunc], [], .func, 8⟩ := by kernel_rfl
theorem tt116 : tiOf Tryd.prog 116 = some ⟨1, false, [.v (.pointer none)], [], .ptr 118, 8⟩ := by kernel_rfl
theorem tt117 : tiOf Tryd.prog 117 = some ⟨3, true, [.v (.slice none 0 0), .v (.int .i64 0), .v (.int .i64 0)], [(0, 1, some false), (1, 1, some false), (2, 1, some false)], .struct, 40⟩ := by kernel_rfl
theorem tt118 : tiOf Tryd.prog 118 = some ⟨3, true, [.v (.slice none 0 0), .v (.int .i64 0), .v (.int .i64 0)], [(0, 1, some false), (1, 1, some false), (2, 1, some false)], .struct, 40⟩ := by kernel_rfl
theorem tt119 : tiOf Tryd.prog 119 = some ⟨1, false, [.v .nilFunc], [], .func, 8⟩ := by kernel_rfl
theorem tt120 : tiOf Tryd.prog 120 = some ⟨1, false, [.v (.pointer none)], [], .ptr 122, 8⟩ := by kernel_rfl
theorem tt121 : tiOf Tryd.prog 121 = some ⟨2, true, [.v (.slice none 0 0), .v (.int .i64 0)], [(0, 1, some false), (1, 1, some false)], .struct, 32⟩ := by kernel_rfl
theorem tt122 : tiOf Tryd.prog 122 = some ⟨2, true, [.v (.slice none 0 0), .v (.int .i64 0)], [(0, 1, some false), (1, 1, some false)], .struct, 32⟩ := by kernel_rfl
theorem tt123 : tiOf Tryd.prog 123 = some ⟨1, false, [.v .nilFunc], [], .func, 8⟩ := by kernel_rfl
theorem tt124 : tiOf Tryd.prog 124 = some ⟨9, true, [.v (.string ⟨#[]⟩), .v (.int .i64 0), .ff, .ff, .v (.string ⟨#[]⟩), .v (.int .i64 0), .v (.string ⟨#[]⟩), .v (.slice none 0 0), .v (.slice none 0 0)], [(0, 1, some false), (1, 8, some true)], .struct, 128⟩ := by kernel_rfl
theorem tt125 : tiOf Tryd.prog 125 = some ⟨9, true, [.v (.string ⟨#[]⟩), .v (.int .i64 0), .ff, .ff, .v (.string ⟨#[]⟩), .v (.int .i64 0), .v (.string ⟨#[]⟩), .v (.slice none 0 0), .v (.slice none 0 0)], [(0, 1, some false), (1, 8, some true)], .struct, 128⟩ := by kernel_rfl
theorem tt126 : tiOf Tryd.prog 126 = some ⟨1, false, [.v .nilFunc], [], .func, 8⟩ := by kernel_rfl
theorem tt127 : tiOf Tryd.prog 127 = some ⟨1, false, [.v .nilFunc], [], .func, 8⟩ := by kernel_rfl
theorem tt128 : tiOf Tryd.prog 128 = some ⟨3, true, [.v (.string ⟨#[]⟩), .v (.int .i64 0), .ff], [(0, 1, some false), (1, 1, some false), (2, 1, some false)], .struct, 32⟩ := by kernel_rfl
theorem tt129 : tiOf Tryd.prog 129 = some ⟨3, true, [.v (.string ⟨#[]⟩), .v (.int .i64 0), .ff], [(0, 1, some false), (1, 1, some false), (2, 1, some false)], .struct, 32⟩ := by kernel_rfl
theorem tt130 : tiOf Tryd.prog 130 = some ⟨1, false, [.v .nilFunc], [], .func, 8⟩ := by kernel_rfl
theorem tt131 : tiOf Tryd.prog 131 = some ⟨1, false, [.v .nilFunc], [], .func, 8⟩ := by kernel_rfl
theorem tt132 : tiOf Tryd.prog 132 = some ⟨11, true, [.v (.int .i64 0), .v (.int .i64 0), .v (.int .i64 0), .v (.int .i64 0), .ff, .v (.string ⟨#[]⟩), .ff, .ff, .v (.string ⟨#[]⟩), .v (.int .i64 0), .v (.string ⟨#[]⟩)], [(0, 1, some false), (1, 1, some false), (2, 1, some false), (3, 1, some false), (4, 1, some false), (5, 1, some false), (6, 1, some false), (7, 3, some true), (10, 1, some false)], .struct, 112⟩ := by kernel_rfl
theorem tt133 : tiOf Tryd.prog 133 = some ⟨1, false, [.v (.pointer none)], [], .ptr 135, 8⟩ := by kernel_rfl
theorem tt134 : tiOf Tryd.prog 134 = some ⟨3, true, [.v (.slice none 0 0), .v (.int .i64 0), .v (.int .i64 0)], [(0, 1, some false), (1, 1, some false), (2, 1, some false)], .struct, 40⟩ := by kernel_rfl
theorem tt135 : tiOf Tryd.prog 135 = some ⟨3, true, [.v (.slice none 0 0), .v (.int .i64 0), .v (.int .i64 0)], [(0, 1, some false), (1, 1, some false), (2, 1, some false)], .struct, 40⟩ := by kernel_rfl
theorem tt136 : tiOf Tryd.prog 136 = some ⟨1, false, [.v .nilFunc], [], .func, 8⟩ := by kernel_rfl
theorem tt138 : tiOf Tryd.prog 138 = some ⟨1, false, [.v .nilFunc], [], .func, 8⟩ := by kernel_rfl
theorem tt140 : tiOf Tryd.prog 140 = some ⟨1, false, [.v .nilFunc], [], .func, 8⟩ := by kernel_rfl
theorem tt141 : tiOf Tryd.prog 141 = some ⟨1, false, [.v .nilFunc], [], .func, 8⟩ := by kernel_rfl
theorem tt142 : tiOf Tryd.prog 142 = some ⟨1, false, [.v .nilFunc], [], .func, 8⟩ := by kernel_rfl
theorem tt143 : tiOf Tryd.prog 143 = some ⟨1, false, [.v .nilFunc], [], .func, 8⟩ := by kernel_rfl
theorem tt144 : tiOf Tryd.prog 144 = some ⟨3, true, [.v (.int .i64 0), .v (.slice none 0 0), .v (.int .i64 0)], [(0, 1, some false), (1, 1, some false), (2, 1, some false)], .struct, 40⟩ := by kernel_rfl
theorem tt145 : tiOf Tryd.prog 145 = some ⟨1, false, [.v .nilFunc], [], .func, 8⟩ := by kernel_rfl
theorem tt146 : tiOf Tryd.prog 146 = some ⟨1, false, [.v .nilFunc], [], .func, 8⟩ := by kernel_rfl
theorem tt147 : tiOf Tryd.prog 147 = some ⟨1, false, [.v .nilFunc], [], .func, 8⟩ := by kernel_rfl
theorem tt148 : tiOf Tryd.prog 148 = some ⟨1, false, [.v .nilFunc], [], .func, 8⟩ := by kernel_rfl
theorem tt149 : tiOf Tryd.prog 149 = some ⟨1, false, [.v .nilFunc], [], .func, 8⟩ := by kernel_rfl
theorem tt150 : tiOf Tryd.prog 150 = some ⟨1, false, [.v .nilFunc], [], .func, 8⟩ := by kernel_rfl
theorem tt151 : tiOf Tryd.prog 151 = some ⟨1, false, [.v .nilFunc], [], .func, 8⟩ := by kernel_rfl
theorem tt152 : tiOf Tryd.prog 152 = some ⟨3, true, [.v (.int .i64 0), .v (.int .i64 0), .v (.int .i64 0)], [(0, 1, some false), (1, 1, some false), (2, 1, some false)], .struct, 24⟩ := by kernel_rfl
theorem tt153 : tiOf Tryd.prog 153 = some ⟨3, true, [.v (.int .i64 0), .v (.int .i64 0), .v (.int .i64 0)], [(0, 1, some false), (1, 1, some false), (2, 1, some false)], .struct, 24⟩ := by kernel_rfl
theorem tt155 : tiOf Tryd.prog 155 = some ⟨1, false, [.v .nilFunc], [], .func, 8⟩ := by kernel_rfl
theorem tt156 : tiOf Tryd.prog 156 = some ⟨1, false, [.v .nilFunc], [], .func, 8⟩ := by kernel_rfl
theorem tt157 : tiOf Tryd.prog 157 = some ⟨1, false, [.v .nilFunc], [], .func, 8⟩ := by kernel_rfl
theorem tt158 : tiOf Tryd.prog 158 = some ⟨24, true, [.v (.slice none 0 0), .v (.int .i64 0), .v (.int .i64 0), .v (.int .i64 0), .v (.int .i64 0), .v (.int .i64 0), .v (.int .i64 0), .ff, .v (.string ⟨#[]⟩), .ff, .ff, .v (.string ⟨#[]⟩), .v (.int .i64 0), .v (.string ⟨#[]⟩), .v (.int .i64 0), .ff, .ff, .v (.string ⟨#[]⟩), .v (.int .i64 0), .v (.string ⟨#[]⟩), .v (.slice none 0 0), .v (.slice none 0 0), .v (.int .i64 0), .v .nilFunc], [(0, 1, some false), (1, 1, some false), (2, 1, some false), (3, 11, some true), (14, 8, some true), (22, 1, some false), (23, 1, some false)], .struct, 280⟩ := by kernel_rfl
theorem tt159 : tiOf Tryd.prog 159 = some ⟨24, true, [.v (.slice none 0 0), .v (.int .i64 0), .v (.int .i64 0), .v (.int .i64 0), .v (.int .i64 0), .v (.int .i64 0), .v (.int .i64 0), .ff, .v (.string ⟨#[]⟩), .ff, .ff, .v (.string ⟨#[]⟩), .v (.int .i64 0), .v (.string ⟨#[]⟩), .v (.int .i64 0), .ff, .ff, .v (.string ⟨#[]⟩), .v (.int .i64 0), .v (.string ⟨#[]⟩), .v (.slice none 0 0), .v (.slice none 0 0), .v (.int .i64 0), .v .nilFunc], [(0, 1, some false), (1, 1, some false), (2, 1, some false), (3, 11, some true), (14, 8, some true), (22, 1, some false), (23, 1, some false)], .struct, 280⟩ := by kernel_rfl
theorem tt160 : tiOf Tryd.prog 160 = some ⟨1, false, [.v .nilFunc], [], .func, 8⟩ := by kernel_rfl
theorem tt161 : tiOf Tryd.prog 161 = some ⟨1, false, [.v .nilFunc], [], .func, 8⟩ := by kernel_rfl
theorem tt162 : tiOf Tryd.prog 162 = some ⟨1, false, [.v .nilFunc], [], .func, 8⟩ := by kernel_rfl
theorem tt163 : tiOf Tryd.prog 163 = some ⟨1, false, [.v .nilFunc], [], .func, 8⟩ := by kernel_rfl
theorem tt164 : tiOf Tryd.prog 164 = some ⟨1, false, [.v .nilFunc], [], .func, 8⟩ := by kernel_rfl
theorem tt165 : tiOf Tryd.prog 165 = some ⟨1, false, [.v .nilFunc], [], .func, 8⟩ := by kernel_rfl
theorem tt166 : tiOf Tryd.prog 166 = some ⟨1, false, [.v .nilFunc], [], .func, 8⟩ := by kernel_rfl
theorem tt167 : tiOf Tryd.prog 167 = some ⟨1, false, [.v .nilFunc], [], .func, 8⟩ := by kernel_rfl
theorem tt168 : tiOf Tryd.prog 168 = some ⟨1, false, [.v .nilFunc], [], .func, 8⟩ := by kernel_rfl
theorem tt169 : tiOf Tryd.prog 169 = some ⟨1, false, [.v .nilFunc], [], .func, 8⟩ := by kernel_rfl
theorem tt170 : tiOf Tryd.prog 170 = some ⟨1, false, [.v .nilFunc], [], .func, 8⟩ := by kernel_rfl
theorem tt171 : tiOf Tryd.prog 171 = some ⟨1, false, [.v .nilFunc], [], .func, 8⟩ := by kernel_rfl
theorem tt172 : tiOf Tryd.prog 172 = some ⟨1, false, [.v .nilFunc], [], .func, 8⟩ := by kernel_rfl
theorem tt173 : tiOf Tryd.prog 173 = some ⟨1, false, [.v .nilFunc], [], .func, 8⟩ := by kernel_rfl
theorem tt174 : tiOf Tryd.prog 174 = some ⟨1, false, [.v .nilFunc], [], .func, 8⟩ := by kernel_rfl
theorem tt175 : tiOf Tryd.prog 175 = some ⟨1, false, [.v .nilFunc], [], .func, 8⟩ := by kernel_rfl
theorem tt177 : tiOf Tryd.prog 177 = some ⟨1, false, [.v .nilFunc], [], .func, 8⟩ := by kernel_rfl
theorem tt178 : tiOf Tryd.prog 178 = some ⟨1, false, [.v .nilFunc], [], .func, 8⟩ := by kernel_rfl
theorem tt179 : tiOf Tryd.prog 179 = some ⟨1, false, [.v .nilFunc], [], .func, 8⟩ := by kernel_rfl
theorem tt180 : tiOf Tryd.prog 180 = some ⟨1, false, [.v .nilFunc], [], .func, 8⟩ := by kernel_rfl
theorem tt181 : tiOf Tryd.prog 181 = some ⟨1, false, [.v (.slice none 0 0)], [], .slice 4, 24⟩ := by kernel_rfl
theorem tt182 : tiOf Tryd.prog 182 = some ⟨1, false, [.v .nilFunc], [], .func, 8⟩ := by kernel_rfl
theorem tt183 : tiOf Tryd.prog 183 = some ⟨1, false, [.v .nilFunc], [], .func, 8⟩ := by kernel_rfl
theorem tt184 : tiOf Tryd.prog 184 = some ⟨1, false, [.v (.slice none 0 0)], [], .slice 5, 24⟩ := by kernel_rfl
theorem tt185 : tiOf Tryd.prog 185 = some ⟨1, false, [.v .nilFunc], [], .func, 8⟩ := by kernel_rfl
theorem tt186 : tiOf Tryd.prog 186 = some ⟨1, false, [.v .nilFunc], [], .func, 8⟩ := by kernel_rfl
theorem tt187 : tiOf Tryd.prog 187 = some ⟨1, false, [.v .nilFunc], [], .func, 8⟩ := by kernel_rfl
theorem tt188 : tiOf Tryd.prog 188 = some ⟨1, false, [.v .nilFunc], [], .func, 8⟩ := by kernel_rfl
theorem tt189 : tiOf Tryd.prog 189 = some ⟨1, false, [.v .nilFunc], [], .func, 8⟩ := by kernel_rfl
theorem tt190 : tiOf Tryd.prog 190 = some ⟨1, false, [.v .nilFunc], [], .func, 8⟩ := by kernel_rfl
theorem tt191 : tiOf Tryd.prog 191 = some ⟨1, false, [.v .nilFunc], [], .func, 8⟩ := by kernel_rfl
theorem tt192 : tiOf Tryd.prog 192 = some ⟨1, false, [.v .nilFunc], [], .func, 8⟩ := by kernel_rfl
theorem tt193 : tiOf Tryd.prog 193 = some ⟨1, false, [.v (.map none)], [], .map 9 4, 8⟩ := by kernel_rfl
theorem tt194 : tiOf Tryd.prog 194 = some ⟨1, false, [.v .nilFunc], [], .func, 8⟩ := by kernel_rfl
theorem tt195 : tiOf Tryd.prog 195 = some ⟨1, false, [.v .nilFunc], [], .func, 8⟩ := by kernel_rfl
theorem tt197 : tiOf Tryd.prog 197 = some ⟨1, false, [.v .nilFunc], [], .func, 8⟩ := by kernel_rfl
theorem tt199 : tiOf Tryd.prog 199 = some ⟨1, false, [.v .nilFunc], [], .func, 8⟩ := by kernel_rfl
theorem tt200 : tiOf Tryd.prog 200 = some ⟨1, false, [.v (.slice none 0 0)], [], .slice 32, 24⟩ := by kernel_rfl
theorem tt201 : tiOf Tryd.prog 201 = some ⟨1, false, [.v .nilFunc], [], .func, 8⟩ := by kernel_rfl
theorem tt202 : tiOf Tryd.prog 202 = some ⟨1, false, [.v .nilFunc], [], .func, 8⟩ := by kernel_rfl
theorem tt203 : tiOf Tryd.prog 203 = some ⟨1, false, [.v .nilFunc], [], .func, 8⟩ := by kernel_rfl
theorem tt204 : tiOf Tryd.prog 204 = some ⟨1, false, [.v .nilFunc], [], .func, 8⟩ := by kernel_rfl
theorem tt205 : tiOf Tryd.prog 205 = some ⟨1, false, [.v .nilFunc], [], .func, 8⟩ := by kernel_rfl
theorem tt206 : tiOf Tryd.prog 206 = some ⟨3, true, [.v (.int .u8 0), .v (.int .u8 0), .v (.int .i32 0)], [(0, 1, some false), (1, 1, some false), (2, 1, some false)], .struct, 8⟩ := by kernel_rfl
theorem tt207 : tiOf Tryd.prog 207 = some ⟨3, true, [.v (.int .u8 0), .v (.int .u8 0), .v (.int .i32 0)], [(0, 1, some false), (1, 1, some false), (2, 1, some false)], .struct, 8⟩ := by kernel_rfl
theorem tt208 : tiOf Tryd.prog 208 = some ⟨12, true, [.v (.int .u8 0), .v (.int .u8 0), .v (.int .i32 0), .v (.int .u8 0), .v (.int .u8 0), .v (.int .i32 0), .v (.int .u8 0), .v (.int .u8 0), .v (.int .i32 0), .v (.int .u8 0), .v (.int .u8 0), .v (.int .i32 0)], [], .array 4 207, 32⟩ := by kernel_rfl
theorem tt209 : tiOf Tryd.prog 209 = some ⟨1, false, [.v .nilFunc], [], .func, 8⟩ := by kernel_rfl
theorem tt210 : tiOf Tryd.prog 210 = some ⟨1, false, [.v (.int .u64 0)], [], .int .u64, 8⟩ := by kernel_rfl
theorem tt211 : tiOf Tryd.prog 211 = some ⟨1, false, [.v .nilFunc], [], .func, 8⟩ := by kernel_rfl
theorem tt212 : tiOf Tryd.prog 212 = some ⟨1, false, [.v .nilFunc], [], .func, 8⟩ := by kernel_rfl
theorem tt214 : tiOf Tryd.prog 214 = some ⟨256, true, List.replicate 256 .ff, [], .array 256 4, 256⟩ := by kernel_rfl
theorem tt216 : tiOf Tryd.prog 216 = some ⟨1, false, [.v .nilFunc], [], .func, 8⟩ := by kernel_rfl
theorem tt217 : tiOf Tryd.prog 217 = some ⟨1, false, [.v .nilFunc], [], .func, 8⟩ := by kernel_rfl
theorem tt218 : tiOf Tryd.prog 218 = some ⟨1, false, [.v (.pointer none)], [], .ptr 214, 8⟩ := by kernel_rfl
theorem tt219 : tiOf Tryd.prog 219 = some ⟨1, false, [.v .nilFunc], [], .func, 8⟩ := by kernel_rfl
theorem tt220 : tiOf Tryd.prog 220 = some ⟨1, false, [.v .nilFunc], [], .func, 8⟩ := by kernel_rfl
theorem tt221 : tiOf Tryd.prog 221 = some ⟨1, false, [.v .nilFunc], [], .func, 8⟩ := by kernel_rfl
theorem tt222 : tiOf Tryd.prog 222 = some ⟨1, false, [.v .nilFunc], [], .func, 8⟩ := by kernel_rfl
theorem tt223 : tiOf Tryd.prog 223 = some ⟨1, false, [.v .nilFunc], [], .func, 8⟩ := by kernel_rfl
theorem tt224 : tiOf Tryd.prog 224 = some ⟨1, false, [.v .nilFunc], [], .func, 8⟩ := by kernel_rfl
theorem tt225 : tiOf Tryd.prog 225 = some ⟨1, false, [.v .nilFunc], [], .func, 8⟩ := by kernel_rfl
theorem tt226 : tiOf Tryd.prog 226 = some ⟨1, false, [.v .nilFunc], [], .func, 8⟩ := by kernel_rfl
theorem tt228 : tiOf Tryd.prog 228 = some ⟨2, true, [.v (.int .u8 0), .v (.int .u8 0)], [(0, 1, some false), (1, 1, some false)], .struct, 2⟩ := by kernel_rfl
theorem tt229 : tiOf Tryd.prog 229 = some ⟨2, true, [.v (.int .u8 0), .v (.int .u8 0)], [(0, 1, some false), (1, 1, some false)], .struct, 2⟩ := by kernel_rfl
theorem tt230 : tiOf Tryd.prog 230 = some ⟨32, true, [.v (.int .u8 0), .v (.int .u8 0), .v (.int .u8 0), .v (.int .u8 0), .v (.int .u8 0), .v (.int .u8 0), .v (.int .u8 0), .v (.int .u8 0), .v (.int .u8 0), .v (.int .u8 0), .v (.int .u8 0), .v (.int .u8 0), .v (.int .u8 0), .v (.int .u8 0), .v (.int .u8 0), .v (.int .u8 0), .v (.int .u8 0), .v (.int .u8 0), .v (.int .u8 0), .v (.int .u8 0), .v (.int .u8 0), .v (.int .u8 0), .v (.int .u8 0), .v (.int .u8 0), .v (.int .u8 0), .v (.int .u8 0), .v (.int .u8 0), .v (.int .u8 0), .v (.int .u8 0), .v (.int .u8 0), .v (.int .u8 0), .v (.int .u8 0)], [], .array 16 229, 32⟩ := by kernel_rfl
theorem tt231 : tiOf Tryd.prog 231 = some ⟨1, false, [.v .nilFunc], [], .func, 8⟩ := by kernel_rfl
theorem tt232 : tiOf Tryd.prog 232 = some ⟨1, false, [.v .nilFunc], [], .func, 8⟩ := by kernel_rfl
theorem tt233 : tiOf Tryd.prog 233 = some ⟨1, false, [.v .nilFunc], [], .func, 8⟩ := by kernel_rfl
theorem tt234 : tiOf Tryd.prog 234 = some ⟨4, true, [.v (.pointer none), .v (.pointer none), .v (.pointer none), .v (.string ⟨#[]⟩)], [(0, 1, some false), (1, 1, some false), (2, 1, some false), (3, 1, some false)], .struct, 40⟩ := by kernel_rfl
theorem tt235 : tiOf Tryd.prog 235 = some ⟨4, true, [.v (.pointer none), .v (.pointer none), .v (.pointer none), .v (.string ⟨#[]⟩)], [(0, 1, some false), (1, 1, some false), (2, 1, some false), (3, 1, some false)], .struct, 40⟩ := by kernel_rfl
theorem tt236 : tiOf Tryd.prog 236 = some ⟨0, true, [], [], .array 0 16, 0⟩ := by kernel_rfl
theorem tt237 : tiOf Tryd.prog 237 = some ⟨0, true, [], [(0, 0, some true)], .struct, 0⟩ := by kernel_rfl
theorem tt238 : tiOf Tryd.prog 238 = some ⟨0, true, [], [(0, 0, some true)], .struct, 0⟩ := by kernel_rfl
theorem tt239 : tiOf Tryd.prog 239 = some ⟨1, false, [.v (.int .u32 0)], [], .int .u32, 4⟩ := by kernel_rfl
theorem tt240 : tiOf Tryd.prog 240 = some ⟨1, false, [.v (.int .u8 0)], [], .int .u8, 1⟩ := by kernel_rfl
theorem tt241 : tiOf Tryd.prog 241 = some ⟨1, false, [.v (.int .u8 0)], [], .int .u8, 1⟩ := by kernel_rfl
theorem tt242 : tiOf Tryd.prog 242 = some ⟨1, false, [.v .nilFunc], [], .func, 8⟩ := by kernel_rfl
theorem tt243 : tiOf Tryd.prog 243 = some ⟨1, false, [.v (.pointer none)], [], .ptr 5, 8⟩ := by kernel_rfl
theorem tt244 : tiOf Tryd.prog 244 = some ⟨1, false, [.v (.int .i32 0)], [], .int .i32, 4⟩ := by kernel_rfl
theorem tt245 : tiOf Tryd.prog 245 = some ⟨1, false, [.v (.int .i32 0)], [], .int .i32, 4⟩ := by kernel_rfl
theorem tt246 : tiOf Tryd.prog 246 = some ⟨11, true, [.v (.int .u64 0), .v (.int .u64 0), .v (.int .u32 0), .v (.int .u8 0), .v (.int .u8 0), .v (.int .u8 0), .v (.int .u8 0), .v .nilFunc, .v (.pointer none), .v (.int .i32 0), .v (.int .i32 0)], [(0, 1, some false), (1, 1, some false), (2, 1, some false), (3, 1, some false), (4, 1, some false), (5, 1, some false), (6, 1, some false), (7, 1, some false), (8, 1, some false), (9, 1, some false), (10, 1, some false)], .struct, 48⟩ := by kernel_rfl
theorem tt247 : tiOf Tryd.prog 247 = some ⟨11, true, [.v (.int .u64 0), .v (.int .u64 0), .v (.int .u32 0), .v (.int .u8 0), .v (.int .u8 0), .v (.int .u8 0), .v (.int .u8 0), .v .nilFunc, .v (.pointer none), .v (.int .i32 0), .v (.int .i32 0)], [(0, 1, some false), (1, 1, some false), (2, 1, some false), (3, 1, some false), (4, 1, some false), (5, 1, some false), (6, 1, some false), (7, 1, some false), (8, 1, some false), (9, 1, some false), (10, 1, some false)], .struct, 48⟩ := by kernel_rfl
theorem tt248 : tiOf Tryd.prog 248 = some ⟨1, false, [.v (.pointer none)], [], .other, 8⟩ := by kernel_rfl
theorem TT : TTok Tryd.prog tt := TTok.cons tt1 (TTok.cons tt2 (TTok.cons tt3 (TTok.cons tt4 (TTok.cons tt5 (TTok.cons tt6 (TTok.cons tt7 (TTok.cons tt8 (TTok.cons tt9 (TTok.cons tt10 (TTok.cons tt11 (TTok.cons tt12 (TTok.cons tt13 (TTok.cons tt14 (TTok.cons tt15 (TTok.cons tt16 (TTok.cons tt17 (TTok.cons tt18 (TTok.cons tt19 (TTok.cons tt20 (TTok.cons tt21 (TTok.cons tt22 (TTok.cons tt23 (TTok.cons tt24 (TTok.cons tt25 (TTok.cons tt26 (TTok.cons tt27 (TTok.cons tt28 (TTok.cons tt29 (TTok.cons tt30 (TTok.cons tt31 (TTok.cons tt32 (TTok.cons tt34 (TTok.cons tt35 (TTok.cons tt36 (TTok.cons tt38 (TTok.cons tt39 (TTok.cons tt40 (TTok.cons tt41 (TTok.cons tt42 (TTok.cons tt43 (TTok.cons tt44 (TTok.cons tt45 (TTok.cons tt46 (TTok.cons tt47 (TTok.cons tt48 (TTok.cons tt49 (TTok.cons tt51 (TTok.cons tt52 (TTok.cons tt53 (TTok.cons tt54 (TTok.cons tt55 (TTok.cons tt56 (TTok.cons tt57 (TTok.cons tt58 (TTok.cons tt59 (TTok.cons tt60 (TTok.cons tt61 (TTok.cons tt62 (TTok.cons tt63 (TTok.cons tt64 (TTok.cons tt66 (TTok.cons tt67 (TTok.cons tt68 (TTok.cons tt69 (TTok.cons tt70 (TTok.cons tt71 (TTok.cons tt73 (TTok.cons tt74 (TTok.cons tt75 (TTok.cons tt76 (TTok.cons tt77 (TTok.cons tt78 (TTok.cons tt79 (TTok.cons tt80 (TTok.cons tt81 (TTok.cons tt82 (TTok.cons tt83 (TTok.cons tt84 (TTok.cons tt85 (TTok.cons tt86 (TTok.cons tt87 (TTok.cons tt88 (TTok.cons tt89 (TTok.cons tt90 (TTok.cons tt91 (TTok.cons tt92 (TTok.cons tt93 (TTok.cons tt94 (TTok.cons tt95 (TTok.cons tt96 (TTok.cons tt97 (TTok.cons tt98 (TTok.cons tt100 (TTok.cons tt101 (TTok.cons tt102 (TTok.cons tt103 (TTok.cons tt104 (TTok.cons tt105 (TTok.cons tt106 (TTok.cons tt107 (TTok.cons tt108 (TTok.cons tt109 (TTok.cons tt110 (TTok.cons tt111 (TTok.cons tt112 (TTok.cons tt113 (TTok.cons tt114 (TTok.cons tt115 (TTok.cons tt116 (TTok.cons tt117 (TTok.cons tt118 (TTok.cons tt119 (TTok.cons tt120 (TTok.cons tt121 (TTok.cons tt122 (TTok.cons tt123 (TTok.cons tt124 (TTok.cons tt125 (TTok.cons tt126 (TTok.cons tt127 (TTok.cons tt128 (TTok.cons tt129 (TTok.cons tt130 (TTok.cons tt131 (TTok.cons tt132 (TTok.cons tt133 (TTok.cons tt134 (TTok.cons tt135 (TTok.cons tt136 (TTok.cons tt138 (TTok.cons tt140 (TTok.cons tt141 (TTok.cons tt142 (TTok.cons tt143 (TTok.cons tt144 (TTok.cons tt145 (TTok.cons tt146 (TTok.cons tt147 (TTok.cons tt148 (TTok.cons tt149 (TTok.cons tt150 (TTok.cons tt151 (TTok.cons tt152 (TTok.cons tt153 (TTok.cons tt155 (TTok.cons tt156 (TTok.cons tt157 (TTok.cons tt158 (TTok.cons tt159 (TTok.cons tt160 (TTok.cons tt161 (TTok.cons tt162 (TTok.cons tt163 (TTok.cons tt164 (TTok.cons tt165 (TTok.cons tt166 (TTok.cons tt167 (TTok.cons tt168 (TTok.cons tt169 (TTok.cons tt170 (TTok.cons tt171 (TTok.cons tt172 (TTok.cons tt173 (TTok.cons tt174 (TTok.cons tt175 (TTok.cons tt177 (TTok.cons tt178 (TTok.cons tt179 (TTok.cons tt180 (TTok.cons tt181 (TTok.cons tt182 (TTok.cons tt183 (TTok.cons tt184 (TTok.cons tt185 (TTok.cons tt186 (TTok.cons tt187 (TTok.cons tt188 (TTok.cons tt189 (TTok.cons tt190 (TTok.cons tt191 (TTok.cons tt192 (TTok.cons tt193 (TTok.cons tt194 (TTok.cons tt195 (TTok.cons tt197 (TTok.cons tt199 (TTok.cons tt200 (TTok.cons tt201 (TTok.cons tt202 (TTok.cons tt203 (TTok.cons tt204 (TTok.cons tt205 (TTok.cons tt206 (TTok.cons tt207 (TTok.cons tt208 (TTok.cons tt209 (TTok.cons tt210 (TTok.cons tt211 (TTok.cons tt212 (TTok.cons tt214 (TTok.cons tt216 (TTok.cons tt217 (TTok.cons tt218 (TTok.cons tt219 (TTok.cons tt220 (TTok.cons tt221 (TTok.cons tt222 (TTok.cons tt223 (TTok.cons tt224 (TTok.cons tt225 (TTok.cons tt226 (TTok.cons tt228 (TTok.cons tt229 (TTok.cons tt230 (TTok.cons tt231 (TTok.cons tt232 (TTok.cons tt233 (TTok.cons tt234 (TTok.cons tt235 (TTok.cons tt236 (TTok.cons tt237 (TTok.cons tt238 (TTok.cons tt239 (TTok.cons tt240 (TTok.cons tt241 (TTok.cons tt242 (TTok.cons tt243 (TTok.cons tt244 (TTok.cons tt245 (TTok.cons tt246 (TTok.cons tt247 (TTok.cons tt248 (TTok.nil _)))))))))))))))))))))))))))))))))))))))))))))))))))))))))))))))))))))))))))))))))))))))))))))))))))))))))))))))))))))))))))))))))))))))))))))))))))))))))))))))))))))))))))))))))))))))))))))))))))))))))))))))))))))))))))))))))))))))))
end Go.Sy
