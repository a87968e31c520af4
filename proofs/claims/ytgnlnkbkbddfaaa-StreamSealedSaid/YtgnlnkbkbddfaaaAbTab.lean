/- The table of types: each is the program's. By program (gentab.py). -/
import Derived.Test.YtgnlnkbkbddfaaaProg
import Derived.Test.YtgnlnkbkbddfaaaAbBaseA
import Derived.KernelRfl
import Derived.Attr
namespace Go.Ab

def tabL : List (Nat × TI) := [
  (1, ⟨1, 8, .func, [.nilFunc]⟩),
  (2, ⟨1, 8, .int .i64, [.int .i64 0]⟩),
  (3, ⟨1, 8, .int .i64, [.int .i64 0]⟩),
  (4, ⟨1, 1, .bool, [.bool false]⟩),
  (5, ⟨1, 1, .int .u8, [.int .u8 0]⟩),
  (6, ⟨1, 1, .int .u8, [.int .u8 0]⟩),
  (7, ⟨4, 24, .struct [(0, 2), (1, 3), (2, 4), (3, 6)], [.int .i64 0, .int .i64 0, .bool false, .int .u8 0]⟩),
  (8, ⟨4, 24, .struct [(0, 2), (1, 3), (2, 4), (3, 6)], [.int .i64 0, .int .i64 0, .bool false, .int .u8 0]⟩),
  (9, ⟨1, 16, .str, [.string ⟨#[]⟩]⟩),
  (10, ⟨1, 16, .str, [.string ⟨#[]⟩]⟩),
  (11, ⟨1, 16, .str, [.string ⟨#[]⟩]⟩),
  (12, ⟨1, 8, .int .u64, [.int .u64 0]⟩),
  (13, ⟨2, 24, .struct [(0, 9), (1, 12)], [.string ⟨#[]⟩, .int .u64 0]⟩),
  (14, ⟨2, 24, .struct [(0, 9), (1, 12)], [.string ⟨#[]⟩, .int .u64 0]⟩),
  (15, ⟨1, 8, .ptr 319, [.pointer none]⟩),
  (16, ⟨1, 8, .ptr 322, [.pointer none]⟩),
  (17, ⟨1, 8, .ptr 330, [.pointer none]⟩),
  (18, ⟨1, 8, .struct [(0, 17)], [.pointer none]⟩),
  (19, ⟨1, 8, .struct [(0, 17)], [.pointer none]⟩),
  (20, ⟨1, 16, .iface, [.nilIface]⟩),
  (21, ⟨1, 4, .int .i32, [.int .i32 0]⟩),
  (22, ⟨1, 24, .slice 5, [.slice none 0 0]⟩),
  (23, ⟨1, 8, .func, [.nilFunc]⟩),
  (24, ⟨1, 8, .func, [.nilFunc]⟩),
  (25, ⟨1, 24, .slice 113, [.slice none 0 0]⟩),
  (26, ⟨1, 8, .int .i64, [.int .i64 0]⟩),
  (28, ⟨1, 8, .func, [.nilFunc]⟩),
  (29, ⟨1, 8, .func, [.nilFunc]⟩),
  (30, ⟨1, 8, .func, [.nilFunc]⟩),
  (31, ⟨1, 4, .int .u32, [.int .u32 0]⟩),
  (32, ⟨1, 8, .func, [.nilFunc]⟩),
  (34, ⟨1, 8, .func, [.nilFunc]⟩),
  (35, ⟨1, 8, .func, [.nilFunc]⟩),
  (36, ⟨1, 8, .func, [.nilFunc]⟩),
  (37, ⟨1, 8, .int .i64, [.int .i64 0]⟩),
  (38, ⟨1, 8, .int .i64, [.int .i64 0]⟩),
  (39, ⟨1, 8, .int .i64, [.int .i64 0]⟩),
  (40, ⟨12, 96, .arr 12 39, [.int .i64 0, .int .i64 0, .int .i64 0, .int .i64 0, .int .i64 0, .int .i64 0, .int .i64 0, .int .i64 0, .int .i64 0, .int .i64 0, .int .i64 0, .int .i64 0]⟩),
  (41, ⟨12, 96, .arr 12 39, [.int .i64 0, .int .i64 0, .int .i64 0, .int .i64 0, .int .i64 0, .int .i64 0, .int .i64 0, .int .i64 0, .int .i64 0, .int .i64 0, .int .i64 0, .int .i64 0]⟩),
  (42, ⟨3, 24, .arr 3 39, [.int .i64 0, .int .i64 0, .int .i64 0]⟩),
  (43, ⟨3, 24, .arr 3 39, [.int .i64 0, .int .i64 0, .int .i64 0]⟩),
  (44, ⟨6, 48, .struct [(0, 43), (3, 43)], [.int .i64 0, .int .i64 0, .int .i64 0, .int .i64 0, .int .i64 0, .int .i64 0]⟩),
  (45, ⟨6, 48, .struct [(0, 43), (3, 43)], [.int .i64 0, .int .i64 0, .int .i64 0, .int .i64 0, .int .i64 0, .int .i64 0]⟩),
  (46, ⟨24, 192, .struct [(0, 38), (1, 41), (13, 3), (14, 45), (20, 3), (21, 3), (22, 4), (23, 3)], [.int .i64 0, .int .i64 0, .int .i64 0, .int .i64 0, .int .i64 0, .int .i64 0, .int .i64 0, .int .i64 0, .int .i64 0, .int .i64 0, .int .i64 0, .int .i64 0, .int .i64 0, .int .i64 0, .int .i64 0, .int .i64 0, .int .i64 0, .int .i64 0, .int .i64 0, .int .i64 0, .int .i64 0, .int .i64 0, .bool false, .int .i64 0]⟩),
  (47, ⟨24, 192, .struct [(0, 38), (1, 41), (13, 3), (14, 45), (20, 3), (21, 3), (22, 4), (23, 3)], [.int .i64 0, .int .i64 0, .int .i64 0, .int .i64 0, .int .i64 0, .int .i64 0, .int .i64 0, .int .i64 0, .int .i64 0, .int .i64 0, .int .i64 0, .int .i64 0, .int .i64 0, .int .i64 0, .int .i64 0, .int .i64 0, .int .i64 0, .int .i64 0, .int .i64 0, .int .i64 0, .int .i64 0, .int .i64 0, .bool false, .int .i64 0]⟩),
  (48, ⟨13, 104, .struct [(0, 41), (12, 4)], [.int .i64 0, .int .i64 0, .int .i64 0, .int .i64 0, .int .i64 0, .int .i64 0, .int .i64 0, .int .i64 0, .int .i64 0, .int .i64 0, .int .i64 0, .int .i64 0, .bool false]⟩),
  (49, ⟨13, 104, .struct [(0, 41), (12, 4)], [.int .i64 0, .int .i64 0, .int .i64 0, .int .i64 0, .int .i64 0, .int .i64 0, .int .i64 0, .int .i64 0, .int .i64 0, .int .i64 0, .int .i64 0, .int .i64 0, .bool false]⟩),
  (50, ⟨12, 96, .struct [(0, 37), (1, 3), (2, 3), (3, 3), (4, 4), (5, 3), (6, 45)], [.int .i64 0, .int .i64 0, .int .i64 0, .int .i64 0, .bool false, .int .i64 0, .int .i64 0, .int .i64 0, .int .i64 0, .int .i64 0, .int .i64 0, .int .i64 0]⟩),
  (51, ⟨12, 96, .struct [(0, 37), (1, 3), (2, 3), (3, 3), (4, 4), (5, 3), (6, 45)], [.int .i64 0, .int .i64 0, .int .i64 0, .int .i64 0, .bool false, .int .i64 0, .int .i64 0, .int .i64 0, .int .i64 0, .int .i64 0, .int .i64 0, .int .i64 0]⟩),
  (53, ⟨1, 8, .func, [.nilFunc]⟩),
  (54, ⟨12, 96, .struct [(0, 37), (1, 3), (2, 3), (3, 3), (4, 4), (5, 3), (6, 45)], [.int .i64 0, .int .i64 0, .int .i64 0, .int .i64 0, .bool false, .int .i64 0, .int .i64 0, .int .i64 0, .int .i64 0, .int .i64 0, .int .i64 0, .int .i64 0]⟩),
  (56, ⟨1, 8, .func, [.nilFunc]⟩),
  (57, ⟨1, 24, .slice 54, [.slice none 0 0]⟩),
  (58, ⟨1, 8, .func, [.nilFunc]⟩),
  (59, ⟨1, 24, .slice 51, [.slice none 0 0]⟩),
  (60, ⟨1, 8, .func, [.nilFunc]⟩),
  (61, ⟨1, 24, .slice 37, [.slice none 0 0]⟩),
  (63, ⟨1, 8, .func, [.nilFunc]⟩),
  (64, ⟨1, 8, .func, [.nilFunc]⟩),
  (65, ⟨1, 8, .func, [.nilFunc]⟩),
  (66, ⟨1, 8, .func, [.nilFunc]⟩),
  (67, ⟨1, 8, .func, [.nilFunc]⟩),
  (68, ⟨1, 8, .func, [.nilFunc]⟩),
  (69, ⟨1, 8, .func, [.nilFunc]⟩),
  (70, ⟨1, 8, .func, [.nilFunc]⟩),
  (71, ⟨1, 8, .func, [.nilFunc]⟩),
  (72, ⟨1, 24, .slice 77, [.slice none 0 0]⟩),
  (73, ⟨1, 8, .func, [.nilFunc]⟩),
  (74, ⟨1, 8, .func, [.nilFunc]⟩),
  (75, ⟨1, 24, .slice 3, [.slice none 0 0]⟩),
  (76, ⟨5, 72, .struct [(0, 3), (1, 3), (2, 4), (3, 75), (4, 75)], [.int .i64 0, .int .i64 0, .bool false, .slice none 0 0, .slice none 0 0]⟩),
  (77, ⟨5, 72, .struct [(0, 3), (1, 3), (2, 4), (3, 75), (4, 75)], [.int .i64 0, .int .i64 0, .bool false, .slice none 0 0, .slice none 0 0]⟩),
  (79, ⟨1, 8, .func, [.nilFunc]⟩),
  (80, ⟨1, 8, .func, [.nilFunc]⟩),
  (81, ⟨1, 8, .func, [.nilFunc]⟩),
  (82, ⟨1, 8, .func, [.nilFunc]⟩),
  (83, ⟨1, 8, .func, [.nilFunc]⟩),
  (84, ⟨1, 8, .func, [.nilFunc]⟩),
  (85, ⟨1, 8, .func, [.nilFunc]⟩),
  (86, ⟨1, 8, .func, [.nilFunc]⟩),
  (87, ⟨1, 8, .func, [.nilFunc]⟩),
  (88, ⟨1, 8, .func, [.nilFunc]⟩),
  (89, ⟨1, 24, .slice 99, [.slice none 0 0]⟩),
  (90, ⟨1, 8, .func, [.nilFunc]⟩),
  (91, ⟨1, 8, .ptr 169, [.pointer none]⟩),
  (92, ⟨1, 8, .func, [.nilFunc]⟩),
  (93, ⟨1, 8, .ptr 96, [.pointer none]⟩),
  (94, ⟨1, 24, .slice 174, [.slice none 0 0]⟩),
  (95, ⟨1, 24, .struct [(0, 94)], [.slice none 0 0]⟩),
  (96, ⟨1, 24, .struct [(0, 94)], [.slice none 0 0]⟩),
  (97, ⟨1, 8, .func, [.nilFunc]⟩),
  (98, ⟨2, 32, .struct [(0, 5), (1, 61)], [.int .u8 0, .slice none 0 0]⟩),
  (99, ⟨2, 32, .struct [(0, 5), (1, 61)], [.int .u8 0, .slice none 0 0]⟩),
  (101, ⟨1, 8, .func, [.nilFunc]⟩),
  (102, ⟨1, 8, .func, [.nilFunc]⟩),
  (103, ⟨1, 8, .func, [.nilFunc]⟩),
  (104, ⟨1, 8, .func, [.nilFunc]⟩),
  (105, ⟨1, 8, .func, [.nilFunc]⟩),
  (106, ⟨1, 8, .func, [.nilFunc]⟩),
  (107, ⟨1, 8, .func, [.nilFunc]⟩),
  (108, ⟨1, 8, .func, [.nilFunc]⟩),
  (109, ⟨1, 8, .func, [.nilFunc]⟩),
  (110, ⟨1, 8, .func, [.nilFunc]⟩),
  (111, ⟨1, 8, .func, [.nilFunc]⟩),
  (112, ⟨7, 72, .struct [(0, 3), (1, 3), (2, 4), (3, 3), (4, 3), (5, 3), (6, 61)], [.int .i64 0, .int .i64 0, .bool false, .int .i64 0, .int .i64 0, .int .i64 0, .slice none 0 0]⟩),
  (113, ⟨7, 72, .struct [(0, 3), (1, 3), (2, 4), (3, 3), (4, 3), (5, 3), (6, 61)], [.int .i64 0, .int .i64 0, .bool false, .int .i64 0, .int .i64 0, .int .i64 0, .slice none 0 0]⟩),
  (114, ⟨1, 8, .func, [.nilFunc]⟩),
  (115, ⟨1, 8, .func, [.nilFunc]⟩),
  (116, ⟨1, 8, .func, [.nilFunc]⟩),
  (117, ⟨1, 8, .ptr 191, [.pointer none]⟩),
  (118, ⟨1, 8, .func, [.nilFunc]⟩),
  (119, ⟨1, 8, .struct [(0, 117)], [.pointer none]⟩),
  (120, ⟨1, 8, .struct [(0, 117)], [.pointer none]⟩),
  (121, ⟨1, 8, .func, [.nilFunc]⟩),
  (122, ⟨1, 8, .ptr 124, [.pointer none]⟩),
  (123, ⟨2, 32, .struct [(0, 22), (1, 4)], [.slice none 0 0, .bool false]⟩),
  (124, ⟨2, 32, .struct [(0, 22), (1, 4)], [.slice none 0 0, .bool false]⟩),
  (125, ⟨1, 8, .func, [.nilFunc]⟩),
  (126, ⟨1, 8, .func, [.nilFunc]⟩),
  (127, ⟨1, 8, .func, [.nilFunc]⟩),
  (128, ⟨1, 8, .func, [.nilFunc]⟩),
  (129, ⟨1, 8, .func, [.nilFunc]⟩),
  (130, ⟨1, 8, .func, [.nilFunc]⟩),
  (131, ⟨1, 8, .int .u64, [.int .u64 0]⟩),
  (132, ⟨1, 8, .func, [.nilFunc]⟩),
  (134, ⟨1, 8, .func, [.nilFunc]⟩),
  (135, ⟨1, 8, .func, [.nilFunc]⟩),
  (136, ⟨1, 8, .int .i64, [.int .i64 0]⟩),
  (137, ⟨1, 8, .func, [.nilFunc]⟩),
  (138, ⟨1, 8, .func, [.nilFunc]⟩),
  (139, ⟨1, 8, .func, [.nilFunc]⟩),
  (140, ⟨1, 8, .func, [.nilFunc]⟩),
  (141, ⟨1, 8, .func, [.nilFunc]⟩),
  (142, ⟨1, 8, .func, [.nilFunc]⟩),
  (144, ⟨1, 8, .func, [.nilFunc]⟩),
  (145, ⟨1, 8, .func, [.nilFunc]⟩),
  (146, ⟨1, 8, .func, [.nilFunc]⟩),
  (147, ⟨1, 8, .func, [.nilFunc]⟩),
  (148, ⟨1, 8, .func, [.nilFunc]⟩),
  (149, ⟨32, 256, .arr 32 3, [.int .i64 0, .int .i64 0, .int .i64 0, .int .i64 0, .int .i64 0, .int .i64 0, .int .i64 0, .int .i64 0, .int .i64 0, .int .i64 0, .int .i64 0, .int .i64 0, .int .i64 0, .int .i64 0, .int .i64 0, .int .i64 0, .int .i64 0, .int .i64 0, .int .i64 0, .int .i64 0, .int .i64 0, .int .i64 0, .int .i64 0, .int .i64 0, .int .i64 0, .int .i64 0, .int .i64 0, .int .i64 0, .int .i64 0, .int .i64 0, .int .i64 0, .int .i64 0]⟩),
  (151, ⟨1, 8, .func, [.nilFunc]⟩),
  (152, ⟨1, 8, .func, [.nilFunc]⟩),
  (153, ⟨1, 8, .func, [.nilFunc]⟩),
  (154, ⟨1, 8, .func, [.nilFunc]⟩),
  (155, ⟨1, 8, .func, [.nilFunc]⟩),
  (156, ⟨1, 8, .func, [.nilFunc]⟩),
  (157, ⟨1, 8, .func, [.nilFunc]⟩),
  (158, ⟨1, 8, .func, [.nilFunc]⟩),
  (159, ⟨1, 8, .func, [.nilFunc]⟩),
  (160, ⟨1, 8, .func, [.nilFunc]⟩),
  (161, ⟨1, 8, .func, [.nilFunc]⟩),
  (162, ⟨1, 8, .func, [.nilFunc]⟩),
  (163, ⟨1, 8, .func, [.nilFunc]⟩),
  (164, ⟨1, 8, .func, [.nilFunc]⟩),
  (165, ⟨1, 8, .func, [.nilFunc]⟩),
  (166, ⟨1, 8, .map 37 37, [.map none]⟩),
  (167, ⟨1, 8, .map 37 61, [.map none]⟩),
  (168, ⟨2, 16, .struct [(0, 166), (1, 167)], [.map none, .map none]⟩),
  (169, ⟨2, 16, .struct [(0, 166), (1, 167)], [.map none, .map none]⟩),
  (171, ⟨1, 8, .func, [.nilFunc]⟩),
  (172, ⟨1, 8, .func, [.nilFunc]⟩),
  (173, ⟨2, 16, .struct [(0, 37), (1, 37)], [.int .i64 0, .int .i64 0]⟩),
  (174, ⟨2, 16, .struct [(0, 37), (1, 37)], [.int .i64 0, .int .i64 0]⟩),
  (175, ⟨1, 8, .func, [.nilFunc]⟩),
  (176, ⟨1, 8, .func, [.nilFunc]⟩),
  (177, ⟨1, 8, .func, [.nilFunc]⟩),
  (178, ⟨1, 8, .func, [.nilFunc]⟩),
  (179, ⟨1, 8, .func, [.nilFunc]⟩),
  (180, ⟨1, 8, .func, [.nilFunc]⟩),
  (181, ⟨1, 8, .func, [.nilFunc]⟩),
  (182, ⟨1, 8, .func, [.nilFunc]⟩),
  (183, ⟨1, 8, .func, [.nilFunc]⟩),
  (184, ⟨1, 8, .func, [.nilFunc]⟩),
  (185, ⟨1, 8, .func, [.nilFunc]⟩),
  (186, ⟨1, 8, .func, [.nilFunc]⟩),
  (187, ⟨1, 8, .func, [.nilFunc]⟩),
  (188, ⟨1, 8, .func, [.nilFunc]⟩),
  (189, ⟨1, 8, .func, [.nilFunc]⟩),
  (190, ⟨2, 32, .struct [(0, 22), (1, 4)], [.slice none 0 0, .bool false]⟩),
  (191, ⟨2, 32, .struct [(0, 22), (1, 4)], [.slice none 0 0, .bool false]⟩),
  (192, ⟨1, 8, .func, [.nilFunc]⟩),
  (193, ⟨1, 8, .ptr 26, [.pointer none]⟩),
  (194, ⟨0, 0, .struct [], []⟩),
  (195, ⟨0, 0, .struct [], []⟩),
  (196, ⟨1, 8, .func, [.nilFunc]⟩),
  (197, ⟨1, 8, .func, [.nilFunc]⟩),
  (198, ⟨1, 8, .func, [.nilFunc]⟩),
  (199, ⟨1, 8, .func, [.nilFunc]⟩),
  (200, ⟨1, 8, .func, [.nilFunc]⟩),
  (201, ⟨1, 8, .func, [.nilFunc]⟩),
  (202, ⟨1, 8, .func, [.nilFunc]⟩),
  (203, ⟨1, 8, .ptr 205, [.pointer none]⟩),
  (204, ⟨2, 32, .struct [(0, 22), (1, 4)], [.slice none 0 0, .bool false]⟩),
  (205, ⟨2, 32, .struct [(0, 22), (1, 4)], [.slice none 0 0, .bool false]⟩),
  (206, ⟨1, 8, .func, [.nilFunc]⟩),
  (207, ⟨1, 8, .func, [.nilFunc]⟩),
  (208, ⟨1, 8, .func, [.nilFunc]⟩),
  (209, ⟨1, 8, .func, [.nilFunc]⟩),
  (210, ⟨1, 8, .func, [.nilFunc]⟩),
  (212, ⟨1, 8, .func, [.nilFunc]⟩),
  (213, ⟨1, 24, .slice 39, [.slice none 0 0]⟩),
  (214, ⟨1, 24, .slice 136, [.slice none 0 0]⟩),
  (216, ⟨1, 8, .func, [.nilFunc]⟩),
  (217, ⟨1, 8, .func, [.nilFunc]⟩),
  (218, ⟨1, 8, .func, [.nilFunc]⟩),
  (219, ⟨1, 8, .func, [.nilFunc]⟩),
  (220, ⟨1, 8, .func, [.nilFunc]⟩),
  (221, ⟨1, 8, .func, [.nilFunc]⟩),
  (222, ⟨1, 8, .func, [.nilFunc]⟩),
  (223, ⟨1, 8, .func, [.nilFunc]⟩),
  (224, ⟨1, 8, .func, [.nilFunc]⟩),
  (225, ⟨1, 8, .func, [.nilFunc]⟩),
  (226, ⟨1, 8, .func, [.nilFunc]⟩),
  (227, ⟨1, 8, .func, [.nilFunc]⟩),
  (228, ⟨1, 8, .func, [.nilFunc]⟩),
  (229, ⟨1, 8, .func, [.nilFunc]⟩),
  (230, ⟨1, 8, .func, [.nilFunc]⟩),
  (231, ⟨2, 16, .struct [(0, 3), (1, 230)], [.int .i64 0, .nilFunc]⟩),
  (232, ⟨2, 16, .struct [(0, 3), (1, 230)], [.int .i64 0, .nilFunc]⟩),
  (233, ⟨10, 80, .arr 5 232, [.int .i64 0, .nilFunc, .int .i64 0, .nilFunc, .int .i64 0, .nilFunc, .int .i64 0, .nilFunc, .int .i64 0, .nilFunc]⟩),
  (234, ⟨1, 8, .func, [.nilFunc]⟩),
  (235, ⟨1, 8, .ptr 3, [.pointer none]⟩),
  (236, ⟨1, 8, .ptr 113, [.pointer none]⟩),
  (237, ⟨1, 8, .func, [.nilFunc]⟩),
  (238, ⟨7, 56, .struct [(0, 3), (1, 3), (2, 4), (3, 3), (4, 3), (5, 3), (6, 39)], [.int .i64 0, .int .i64 0, .bool false, .int .i64 0, .int .i64 0, .int .i64 0, .int .i64 0]⟩),
  (239, ⟨7, 56, .struct [(0, 3), (1, 3), (2, 4), (3, 3), (4, 3), (5, 3), (6, 39)], [.int .i64 0, .int .i64 0, .bool false, .int .i64 0, .int .i64 0, .int .i64 0, .int .i64 0]⟩),
  (240, ⟨1, 8, .func, [.nilFunc]⟩),
  (241, ⟨1, 8, .func, [.nilFunc]⟩),
  (242, ⟨1, 8, .func, [.nilFunc]⟩),
  (243, ⟨1, 8, .func, [.nilFunc]⟩),
  (244, ⟨1, 24, .slice 41, [.slice none 0 0]⟩),
  (245, ⟨1, 8, .func, [.nilFunc]⟩),
  (246, ⟨1, 8, .func, [.nilFunc]⟩),
  (247, ⟨1, 24, .slice 45, [.slice none 0 0]⟩),
  (248, ⟨1, 8, .func, [.nilFunc]⟩),
  (249, ⟨1, 8, .func, [.nilFunc]⟩),
  (250, ⟨1, 8, .func, [.nilFunc]⟩),
  (252, ⟨1, 8, .func, [.nilFunc]⟩),
  (253, ⟨1, 8, .func, [.nilFunc]⟩),
  (254, ⟨1, 8, .func, [.nilFunc]⟩),
  (255, ⟨1, 8, .func, [.nilFunc]⟩),
  (256, ⟨1, 8, .func, [.nilFunc]⟩),
  (257, ⟨1, 8, .func, [.nilFunc]⟩),
  (258, ⟨1, 8, .func, [.nilFunc]⟩),
  (259, ⟨1, 24, .slice 43, [.slice none 0 0]⟩),
  (260, ⟨1, 8, .func, [.nilFunc]⟩),
  (261, ⟨1, 8, .func, [.nilFunc]⟩),
  (262, ⟨1, 8, .int .i64, [.int .i64 0]⟩),
  (264, ⟨1, 8, .func, [.nilFunc]⟩),
  (265, ⟨1, 8, .func, [.nilFunc]⟩),
  (266, ⟨1, 8, .func, [.nilFunc]⟩),
  (267, ⟨1, 8, .func, [.nilFunc]⟩),
  (268, ⟨1, 8, .func, [.nilFunc]⟩),
  (269, ⟨1, 8, .func, [.nilFunc]⟩),
  (270, ⟨1, 8, .int .u64, [.int .u64 0]⟩),
  (271, ⟨1, 8, .func, [.nilFunc]⟩),
  (272, ⟨1, 8, .func, [.nilFunc]⟩),
  (274, ⟨1, 8, .func, [.nilFunc]⟩),
  (275, ⟨1, 8, .func, [.nilFunc]⟩),
  (276, ⟨1, 8, .func, [.nilFunc]⟩),
  (277, ⟨7, 56, .struct [(0, 3), (1, 3), (2, 4), (3, 3), (4, 3), (5, 3), (6, 39)], [.int .i64 0, .int .i64 0, .bool false, .int .i64 0, .int .i64 0, .int .i64 0, .int .i64 0]⟩),
  (278, ⟨1, 8, .func, [.nilFunc]⟩),
  (279, ⟨1, 8, .map 136 278, [.map none]⟩),
  (280, ⟨1, 8, .func, [.nilFunc]⟩),
  (281, ⟨1, 8, .ptr 47, [.pointer none]⟩),
  (282, ⟨1, 8, .func, [.nilFunc]⟩),
  (283, ⟨1, 8, .func, [.nilFunc]⟩),
  (284, ⟨1, 8, .func, [.nilFunc]⟩),
  (285, ⟨1, 8, .func, [.nilFunc]⟩),
  (286, ⟨1, 8, .func, [.nilFunc]⟩),
  (287, ⟨1, 8, .func, [.nilFunc]⟩),
  (289, ⟨1, 8, .func, [.nilFunc]⟩),
  (290, ⟨1, 8, .func, [.nilFunc]⟩),
  (291, ⟨1, 8, .func, [.nilFunc]⟩),
  (292, ⟨1, 8, .func, [.nilFunc]⟩),
  (293, ⟨1, 8, .func, [.nilFunc]⟩),
  (294, ⟨1, 8, .func, [.nilFunc]⟩),
  (295, ⟨1, 8, .func, [.nilFunc]⟩),
  (296, ⟨1, 8, .int .u64, [.int .u64 0]⟩),
  (297, ⟨1, 8, .func, [.nilFunc]⟩),
  (298, ⟨1, 8, .func, [.nilFunc]⟩),
  (299, ⟨1, 8, .func, [.nilFunc]⟩),
  (300, ⟨1, 8, .func, [.nilFunc]⟩),
  (301, ⟨1, 8, .func, [.nilFunc]⟩),
  (302, ⟨1, 8, .func, [.nilFunc]⟩),
  (303, ⟨1, 8, .func, [.nilFunc]⟩),
  (304, ⟨1, 8, .func, [.nilFunc]⟩),
  (305, ⟨1, 8, .func, [.nilFunc]⟩),
  (306, ⟨1, 8, .func, [.nilFunc]⟩),
  (307, ⟨2, 16, .struct [(0, 3), (1, 3)], [.int .i64 0, .int .i64 0]⟩),
  (308, ⟨2, 16, .struct [(0, 3), (1, 3)], [.int .i64 0, .int .i64 0]⟩),
  (309, ⟨1, 8, .func, [.nilFunc]⟩),
  (310, ⟨1, 8, .func, [.nilFunc]⟩),
  (311, ⟨1, 8, .ptr 296, [.pointer none]⟩),
  (312, ⟨1, 8, .func, [.nilFunc]⟩),
  (313, ⟨1, 8, .func, [.nilFunc]⟩),
  (314, ⟨1, 8, .func, [.nilFunc]⟩),
  (315, ⟨1, 24, .slice 308, [.slice none 0 0]⟩),
  (316, ⟨1, 8, .func, [.nilFunc]⟩),
  (317, ⟨1, 8, .func, [.nilFunc]⟩),
  (318, ⟨4, 40, .struct [(0, 17), (1, 17), (2, 17), (3, 9)], [.pointer none, .pointer none, .pointer none, .string ⟨#[]⟩]⟩),
  (319, ⟨4, 40, .struct [(0, 17), (1, 17), (2, 17), (3, 9)], [.pointer none, .pointer none, .pointer none, .string ⟨#[]⟩]⟩),
  (320, ⟨0, 0, .arr 0 16, []⟩),
  (321, ⟨0, 0, .struct [(0, 320)], []⟩),
  (322, ⟨0, 0, .struct [(0, 320)], []⟩),
  (323, ⟨1, 1, .int .u8, [.int .u8 0]⟩),
  (324, ⟨1, 1, .int .u8, [.int .u8 0]⟩),
  (325, ⟨1, 8, .func, [.nilFunc]⟩),
  (326, ⟨1, 8, .ptr 5, [.pointer none]⟩),
  (327, ⟨1, 4, .int .i32, [.int .i32 0]⟩),
  (328, ⟨1, 4, .int .i32, [.int .i32 0]⟩),
  (329, ⟨11, 48, .struct [(0, 12), (1, 12), (2, 31), (3, 323), (4, 5), (5, 5), (6, 324), (7, 325), (8, 326), (9, 327), (10, 328)], [.int .u64 0, .int .u64 0, .int .u32 0, .int .u8 0, .int .u8 0, .int .u8 0, .int .u8 0, .nilFunc, .pointer none, .int .i32 0, .int .i32 0]⟩),
  (330, ⟨11, 48, .struct [(0, 12), (1, 12), (2, 31), (3, 323), (4, 5), (5, 5), (6, 324), (7, 325), (8, 326), (9, 327), (10, 328)], [.int .u64 0, .int .u64 0, .int .u32 0, .int .u8 0, .int .u8 0, .int .u8 0, .int .u8 0, .nilFunc, .pointer none, .int .i32 0, .int .i32 0]⟩)]

def tabOf : List (Nat × TI) → Types
  | [], _ => none
  | (t, i) :: l, u => bif t == u then some i else tabOf l u

def tab : Types := tabOf tabL

theorem tabOf_ok {P : Program} : ∀ {l : List (Nat × TI)}, (l.all fun q => tiOk P q.1 q.2) = true → TOk P (tabOf l)
  | [], _, _, _, h => by cases h
  | (s, i) :: l, ho, t, j, h => by
    simp only [List.all_cons, Bool.and_eq_true] at ho
    simp only [tabOf] at h
    cases hst : s == t with
    | true => rw [hst] at h; simp only [cond_true, Option.some.injEq] at h; subst h; rw [← eq_of_beq hst]; exact ho.1
    | false => rw [hst] at h; simp only [cond_false] at h; exact tabOf_ok ho.2 t j h

theorem tab_ok : TOk Go.Proofs.Try.prog tab := tabOf_ok (by kernel_rfl)

theorem tab_1 : tab 1 = some ⟨1, 8, .func, [.nilFunc]⟩ := by kernel_rfl
theorem tab_2 : tab 2 = some ⟨1, 8, .int .i64, [.int .i64 0]⟩ := by kernel_rfl
theorem tab_3 : tab 3 = some ⟨1, 8, .int .i64, [.int .i64 0]⟩ := by kernel_rfl
theorem tab_4 : tab 4 = some ⟨1, 1, .bool, [.bool false]⟩ := by kernel_rfl
theorem tab_5 : tab 5 = some ⟨1, 1, .int .u8, [.int .u8 0]⟩ := by kernel_rfl
theorem tab_6 : tab 6 = some ⟨1, 1, .int .u8, [.int .u8 0]⟩ := by kernel_rfl
theorem tab_7 : tab 7 = some ⟨4, 24, .struct [(0, 2), (1, 3), (2, 4), (3, 6)], [.int .i64 0, .int .i64 0, .bool false, .int .u8 0]⟩ := by kernel_rfl
theorem tab_8 : tab 8 = some ⟨4, 24, .struct [(0, 2), (1, 3), (2, 4), (3, 6)], [.int .i64 0, .int .i64 0, .bool false, .int .u8 0]⟩ := by kernel_rfl
theorem tab_9 : tab 9 = some ⟨1, 16, .str, [.string ⟨#[]⟩]⟩ := by kernel_rfl
theorem tab_10 : tab 10 = some ⟨1, 16, .str, [.string ⟨#[]⟩]⟩ := by kernel_rfl
theorem tab_11 : tab 11 = some ⟨1, 16, .str, [.string ⟨#[]⟩]⟩ := by kernel_rfl
theorem tab_12 : tab 12 = some ⟨1, 8, .int .u64, [.int .u64 0]⟩ := by kernel_rfl
theorem tab_13 : tab 13 = some ⟨2, 24, .struct [(0, 9), (1, 12)], [.string ⟨#[]⟩, .int .u64 0]⟩ := by kernel_rfl
theorem tab_14 : tab 14 = some ⟨2, 24, .struct [(0, 9), (1, 12)], [.string ⟨#[]⟩, .int .u64 0]⟩ := by kernel_rfl
theorem tab_15 : tab 15 = some ⟨1, 8, .ptr 319, [.pointer none]⟩ := by kernel_rfl
theorem tab_16 : tab 16 = some ⟨1, 8, .ptr 322, [.pointer none]⟩ := by kernel_rfl
theorem tab_17 : tab 17 = some ⟨1, 8, .ptr 330, [.pointer none]⟩ := by kernel_rfl
theorem tab_18 : tab 18 = some ⟨1, 8, .struct [(0, 17)], [.pointer none]⟩ := by kernel_rfl
theorem tab_19 : tab 19 = some ⟨1, 8, .struct [(0, 17)], [.pointer none]⟩ := by kernel_rfl
theorem tab_20 : tab 20 = some ⟨1, 16, .iface, [.nilIface]⟩ := by kernel_rfl
theorem tab_21 : tab 21 = some ⟨1, 4, .int .i32, [.int .i32 0]⟩ := by kernel_rfl
theorem tab_22 : tab 22 = some ⟨1, 24, .slice 5, [.slice none 0 0]⟩ := by kernel_rfl
theorem tab_23 : tab 23 = some ⟨1, 8, .func, [.nilFunc]⟩ := by kernel_rfl
theorem tab_24 : tab 24 = some ⟨1, 8, .func, [.nilFunc]⟩ := by kernel_rfl
theorem tab_25 : tab 25 = some ⟨1, 24, .slice 113, [.slice none 0 0]⟩ := by kernel_rfl
theorem tab_26 : tab 26 = some ⟨1, 8, .int .i64, [.int .i64 0]⟩ := by kernel_rfl
theorem tab_28 : tab 28 = some ⟨1, 8, .func, [.nilFunc]⟩ := by kernel_rfl
theorem tab_29 : tab 29 = some ⟨1, 8, .func, [.nilFunc]⟩ := by kernel_rfl
theorem tab_30 : tab 30 = some ⟨1, 8, .func, [.nilFunc]⟩ := by kernel_rfl
theorem tab_31 : tab 31 = some ⟨1, 4, .int .u32, [.int .u32 0]⟩ := by kernel_rfl
theorem tab_32 : tab 32 = some ⟨1, 8, .func, [.nilFunc]⟩ := by kernel_rfl
theorem tab_34 : tab 34 = some ⟨1, 8, .func, [.nilFunc]⟩ := by kernel_rfl
theorem tab_35 : tab 35 = some ⟨1, 8, .func, [.nilFunc]⟩ := by kernel_rfl
theorem tab_36 : tab 36 = some ⟨1, 8, .func, [.nilFunc]⟩ := by kernel_rfl
theorem tab_37 : tab 37 = some ⟨1, 8, .int .i64, [.int .i64 0]⟩ := by kernel_rfl
theorem tab_38 : tab 38 = some ⟨1, 8, .int .i64, [.int .i64 0]⟩ := by kernel_rfl
theorem tab_39 : tab 39 = some ⟨1, 8, .int .i64, [.int .i64 0]⟩ := by kernel_rfl
theorem tab_40 : tab 40 = some ⟨12, 96, .arr 12 39, [.int .i64 0, .int .i64 0, .int .i64 0, .int .i64 0, .int .i64 0, .int .i64 0, .int .i64 0, .int .i64 0, .int .i64 0, .int .i64 0, .int .i64 0, .int .i64 0]⟩ := by kernel_rfl
theorem tab_41 : tab 41 = some ⟨12, 96, .arr 12 39, [.int .i64 0, .int .i64 0, .int .i64 0, .int .i64 0, .int .i64 0, .int .i64 0, .int .i64 0, .int .i64 0, .int .i64 0, .int .i64 0, .int .i64 0, .int .i64 0]⟩ := by kernel_rfl
theorem tab_42 : tab 42 = some ⟨3, 24, .arr 3 39, [.int .i64 0, .int .i64 0, .int .i64 0]⟩ := by kernel_rfl
theorem tab_43 : tab 43 = some ⟨3, 24, .arr 3 39, [.int .i64 0, .int .i64 0, .int .i64 0]⟩ := by kernel_rfl
theorem tab_44 : tab 44 = some ⟨6, 48, .struct [(0, 43), (3, 43)], [.int .i64 0, .int .i64 0, .int .i64 0, .int .i64 0, .int .i64 0, .int .i64 0]⟩ := by kernel_rfl
theorem tab_45 : tab 45 = some ⟨6, 48, .struct [(0, 43), (3, 43)], [.int .i64 0, .int .i64 0, .int .i64 0, .int .i64 0, .int .i64 0, .int .i64 0]⟩ := by kernel_rfl
theorem tab_46 : tab 46 = some ⟨24, 192, .struct [(0, 38), (1, 41), (13, 3), (14, 45), (20, 3), (21, 3), (22, 4), (23, 3)], [.int .i64 0, .int .i64 0, .int .i64 0, .int .i64 0, .int .i64 0, .int .i64 0, .int .i64 0, .int .i64 0, .int .i64 0, .int .i64 0, .int .i64 0, .int .i64 0, .int .i64 0, .int .i64 0, .int .i64 0, .int .i64 0, .int .i64 0, .int .i64 0, .int .i64 0, .int .i64 0, .int .i64 0, .int .i64 0, .bool false, .int .i64 0]⟩ := by kernel_rfl
theorem tab_47 : tab 47 = some ⟨24, 192, .struct [(0, 38), (1, 41), (13, 3), (14, 45), (20, 3), (21, 3), (22, 4), (23, 3)], [.int .i64 0, .int .i64 0, .int .i64 0, .int .i64 0, .int .i64 0, .int .i64 0, .int .i64 0, .int .i64 0, .int .i64 0, .int .i64 0, .int .i64 0, .int .i64 0, .int .i64 0, .int .i64 0, .int .i64 0, .int .i64 0, .int .i64 0, .int .i64 0, .int .i64 0, .int .i64 0, .int .i64 0, .int .i64 0, .bool false, .int .i64 0]⟩ := by kernel_rfl
theorem tab_48 : tab 48 = some ⟨13, 104, .struct [(0, 41), (12, 4)], [.int .i64 0, .int .i64 0, .int .i64 0, .int .i64 0, .int .i64 0, .int .i64 0, .int .i64 0, .int .i64 0, .int .i64 0, .int .i64 0, .int .i64 0, .int .i64 0, .bool false]⟩ := by kernel_rfl
theorem tab_49 : tab 49 = some ⟨13, 104, .struct [(0, 41), (12, 4)], [.int .i64 0, .int .i64 0, .int .i64 0, .int .i64 0, .int .i64 0, .int .i64 0, .int .i64 0, .int .i64 0, .int .i64 0, .int .i64 0, .int .i64 0, .int .i64 0, .bool false]⟩ := by kernel_rfl
theorem tab_50 : tab 50 = some ⟨12, 96, .struct [(0, 37), (1, 3), (2, 3), (3, 3), (4, 4), (5, 3), (6, 45)], [.int .i64 0, .int .i64 0, .int .i64 0, .int .i64 0, .bool false, .int .i64 0, .int .i64 0, .int .i64 0, .int .i64 0, .int .i64 0, .int .i64 0, .int .i64 0]⟩ := by kernel_rfl
theorem tab_51 : tab 51 = some ⟨12, 96, .struct [(0, 37), (1, 3), (2, 3), (3, 3), (4, 4), (5, 3), (6, 45)], [.int .i64 0, .int .i64 0, .int .i64 0, .int .i64 0, .bool false, .int .i64 0, .int .i64 0, .int .i64 0, .int .i64 0, .int .i64 0, .int .i64 0, .int .i64 0]⟩ := by kernel_rfl
theorem tab_53 : tab 53 = some ⟨1, 8, .func, [.nilFunc]⟩ := by kernel_rfl
theorem tab_54 : tab 54 = some ⟨12, 96, .struct [(0, 37), (1, 3), (2, 3), (3, 3), (4, 4), (5, 3), (6, 45)], [.int .i64 0, .int .i64 0, .int .i64 0, .int .i64 0, .bool false, .int .i64 0, .int .i64 0, .int .i64 0, .int .i64 0, .int .i64 0, .int .i64 0, .int .i64 0]⟩ := by kernel_rfl
theorem tab_56 : tab 56 = some ⟨1, 8, .func, [.nilFunc]⟩ := by kernel_rfl
theorem tab_57 : tab 57 = some ⟨1, 24, .slice 54, [.slice none 0 0]⟩ := by kernel_rfl
theorem tab_58 : tab 58 = some ⟨1, 8, .func, [.nilFunc]⟩ := by kernel_rfl
theorem tab_59 : tab 59 = some ⟨1, 24, .slice 51, [.slice none 0 0]⟩ := by kernel_rfl
theorem tab_60 : tab 60 = some ⟨1, 8, .func, [.nilFunc]⟩ := by kernel_rfl
theorem tab_61 : tab 61 = some ⟨1, 24, .slice 37, [.slice none 0 0]⟩ := by kernel_rfl
theorem tab_63 : tab 63 = some ⟨1, 8, .func, [.nilFunc]⟩ := by kernel_rfl
theorem tab_64 : tab 64 = some ⟨1, 8, .func, [.nilFunc]⟩ := by kernel_rfl
theorem tab_65 : tab 65 = some ⟨1, 8, .func, [.nilFunc]⟩ := by kernel_rfl
theorem tab_66 : tab 66 = some ⟨1, 8, .func, [.nilFunc]⟩ := by kernel_rfl
theorem tab_67 : tab 67 = some ⟨1, 8, .func, [.nilFunc]⟩ := by kernel_rfl
theorem tab_68 : tab 68 = some ⟨1, 8, .func, [.nilFunc]⟩ := by kernel_rfl
theorem tab_69 : tab 69 = some ⟨1, 8, .func, [.nilFunc]⟩ := by kernel_rfl
theorem tab_70 : tab 70 = some ⟨1, 8, .func, [.nilFunc]⟩ := by kernel_rfl
theorem tab_71 : tab 71 = some ⟨1, 8, .func, [.nilFunc]⟩ := by kernel_rfl
theorem tab_72 : tab 72 = some ⟨1, 24, .slice 77, [.slice none 0 0]⟩ := by kernel_rfl
theorem tab_73 : tab 73 = some ⟨1, 8, .func, [.nilFunc]⟩ := by kernel_rfl
theorem tab_74 : tab 74 = some ⟨1, 8, .func, [.nilFunc]⟩ := by kernel_rfl
theorem tab_75 : tab 75 = some ⟨1, 24, .slice 3, [.slice none 0 0]⟩ := by kernel_rfl
theorem tab_76 : tab 76 = some ⟨5, 72, .struct [(0, 3), (1, 3), (2, 4), (3, 75), (4, 75)], [.int .i64 0, .int .i64 0, .bool false, .slice none 0 0, .slice none 0 0]⟩ := by kernel_rfl
theorem tab_77 : tab 77 = some ⟨5, 72, .struct [(0, 3), (1, 3), (2, 4), (3, 75), (4, 75)], [.int .i64 0, .int .i64 0, .bool false, .slice none 0 0, .slice none 0 0]⟩ := by kernel_rfl
theorem tab_79 : tab 79 = some ⟨1, 8, .func, [.nilFunc]⟩ := by kernel_rfl
theorem tab_80 : tab 80 = some ⟨1, 8, .func, [.nilFunc]⟩ := by kernel_rfl
theorem tab_81 : tab 81 = some ⟨1, 8, .func, [.nilFunc]⟩ := by kernel_rfl
theorem tab_82 : tab 82 = some ⟨1, 8, .func, [.nilFunc]⟩ := by kernel_rfl
theorem tab_83 : tab 83 = some ⟨1, 8, .func, [.nilFunc]⟩ := by kernel_rfl
theorem tab_84 : tab 84 = some ⟨1, 8, .func, [.nilFunc]⟩ := by kernel_rfl
theorem tab_85 : tab 85 = some ⟨1, 8, .func, [.nilFunc]⟩ := by kernel_rfl
theorem tab_86 : tab 86 = some ⟨1, 8, .func, [.nilFunc]⟩ := by kernel_rfl
theorem tab_87 : tab 87 = some ⟨1, 8, .func, [.nilFunc]⟩ := by kernel_rfl
theorem tab_88 : tab 88 = some ⟨1, 8, .func, [.nilFunc]⟩ := by kernel_rfl
theorem tab_89 : tab 89 = some ⟨1, 24, .slice 99, [.slice none 0 0]⟩ := by kernel_rfl
theorem tab_90 : tab 90 = some ⟨1, 8, .func, [.nilFunc]⟩ := by kernel_rfl
theorem tab_91 : tab 91 = some ⟨1, 8, .ptr 169, [.pointer none]⟩ := by kernel_rfl
theorem tab_92 : tab 92 = some ⟨1, 8, .func, [.nilFunc]⟩ := by kernel_rfl
theorem tab_93 : tab 93 = some ⟨1, 8, .ptr 96, [.pointer none]⟩ := by kernel_rfl
theorem tab_94 : tab 94 = some ⟨1, 24, .slice 174, [.slice none 0 0]⟩ := by kernel_rfl
theorem tab_95 : tab 95 = some ⟨1, 24, .struct [(0, 94)], [.slice none 0 0]⟩ := by kernel_rfl
theorem tab_96 : tab 96 = some ⟨1, 24, .struct [(0, 94)], [.slice none 0 0]⟩ := by kernel_rfl
theorem tab_97 : tab 97 = some ⟨1, 8, .func, [.nilFunc]⟩ := by kernel_rfl
theorem tab_98 : tab 98 = some ⟨2, 32, .struct [(0, 5), (1, 61)], [.int .u8 0, .slice none 0 0]⟩ := by kernel_rfl
theorem tab_99 : tab 99 = some ⟨2, 32, .struct [(0, 5), (1, 61)], [.int .u8 0, .slice none 0 0]⟩ := by kernel_rfl
theorem tab_101 : tab 101 = some ⟨1, 8, .func, [.nilFunc]⟩ := by kernel_rfl
theorem tab_102 : tab 102 = some ⟨1, 8, .func, [.nilFunc]⟩ := by kernel_rfl
theorem tab_103 : tab 103 = some ⟨1, 8, .func, [.nilFunc]⟩ := by kernel_rfl
theorem tab_104 : tab 104 = some ⟨1, 8, .func, [.nilFunc]⟩ := by kernel_rfl
theorem tab_105 : tab 105 = some ⟨1, 8, .func, [.nilFunc]⟩ := by kernel_rfl
theorem tab_106 : tab 106 = some ⟨1, 8, .func, [.nilFunc]⟩ := by kernel_rfl
theorem tab_107 : tab 107 = some ⟨1, 8, .func, [.nilFunc]⟩ := by kernel_rfl
theorem tab_108 : tab 108 = some ⟨1, 8, .func, [.nilFunc]⟩ := by kernel_rfl
theorem tab_109 : tab 109 = some ⟨1, 8, .func, [.nilFunc]⟩ := by kernel_rfl
theorem tab_110 : tab 110 = some ⟨1, 8, .func, [.nilFunc]⟩ := by kernel_rfl
theorem tab_111 : tab 111 = some ⟨1, 8, .func, [.nilFunc]⟩ := by kernel_rfl
theorem tab_112 : tab 112 = some ⟨7, 72, .struct [(0, 3), (1, 3), (2, 4), (3, 3), (4, 3), (5, 3), (6, 61)], [.int .i64 0, .int .i64 0, .bool false, .int .i64 0, .int .i64 0, .int .i64 0, .slice none 0 0]⟩ := by kernel_rfl
theorem tab_113 : tab 113 = some ⟨7, 72, .struct [(0, 3), (1, 3), (2, 4), (3, 3), (4, 3), (5, 3), (6, 61)], [.int .i64 0, .int .i64 0, .bool false, .int .i64 0, .int .i64 0, .int .i64 0, .slice none 0 0]⟩ := by kernel_rfl
theorem tab_114 : tab 114 = some ⟨1, 8, .func, [.nilFunc]⟩ := by kernel_rfl
theorem tab_115 : tab 115 = some ⟨1, 8, .func, [.nilFunc]⟩ := by kernel_rfl
theorem tab_116 : tab 116 = some ⟨1, 8, .func, [.nilFunc]⟩ := by kernel_rfl
theorem tab_117 : tab 117 = some ⟨1, 8, .ptr 191, [.pointer none]⟩ := by kernel_rfl
theorem tab_118 : tab 118 = some ⟨1, 8, .func, [.nilFunc]⟩ := by kernel_rfl
theorem tab_119 : tab 119 = some ⟨1, 8, .struct [(0, 117)], [.pointer none]⟩ := by kernel_rfl
theorem tab_120 : tab 120 = some ⟨1, 8, .struct [(0, 117)], [.pointer none]⟩ := by kernel_rfl
theorem tab_121 : tab 121 = some ⟨1, 8, .func, [.nilFunc]⟩ := by kernel_rfl
theorem tab_122 : tab 122 = some ⟨1, 8, .ptr 124, [.pointer none]⟩ := by kernel_rfl
theorem tab_123 : tab 123 = some ⟨2, 32, .struct [(0, 22), (1, 4)], [.slice none 0 0, .bool false]⟩ := by kernel_rfl
theorem tab_124 : tab 124 = some ⟨2, 32, .struct [(0, 22), (1, 4)], [.slice none 0 0, .bool false]⟩ := by kernel_rfl
theorem tab_125 : tab 125 = some ⟨1, 8, .func, [.nilFunc]⟩ := by kernel_rfl
theorem tab_126 : tab 126 = some ⟨1, 8, .func, [.nilFunc]⟩ := by kernel_rfl
theorem tab_127 : tab 127 = some ⟨1, 8, .func, [.nilFunc]⟩ := by kernel_rfl
theorem tab_128 : tab 128 = some ⟨1, 8, .func, [.nilFunc]⟩ := by kernel_rfl
theorem tab_129 : tab 129 = some ⟨1, 8, .func, [.nilFunc]⟩ := by kernel_rfl
theorem tab_130 : tab 130 = some ⟨1, 8, .func, [.nilFunc]⟩ := by kernel_rfl
theorem tab_131 : tab 131 = some ⟨1, 8, .int .u64, [.int .u64 0]⟩ := by kernel_rfl
theorem tab_132 : tab 132 = some ⟨1, 8, .func, [.nilFunc]⟩ := by kernel_rfl
theorem tab_134 : tab 134 = some ⟨1, 8, .func, [.nilFunc]⟩ := by kernel_rfl
theorem tab_135 : tab 135 = some ⟨1, 8, .func, [.nilFunc]⟩ := by kernel_rfl
theorem tab_136 : tab 136 = some ⟨1, 8, .int .i64, [.int .i64 0]⟩ := by kernel_rfl
theorem tab_137 : tab 137 = some ⟨1, 8, .func, [.nilFunc]⟩ := by kernel_rfl
theorem tab_138 : tab 138 = some ⟨1, 8, .func, [.nilFunc]⟩ := by kernel_rfl
theorem tab_139 : tab 139 = some ⟨1, 8, .func, [.nilFunc]⟩ := by kernel_rfl
theorem tab_140 : tab 140 = some ⟨1, 8, .func, [.nilFunc]⟩ := by kernel_rfl
theorem tab_141 : tab 141 = some ⟨1, 8, .func, [.nilFunc]⟩ := by kernel_rfl
theorem tab_142 : tab 142 = some ⟨1, 8, .func, [.nilFunc]⟩ := by kernel_rfl
theorem tab_144 : tab 144 = some ⟨1, 8, .func, [.nilFunc]⟩ := by kernel_rfl
theorem tab_145 : tab 145 = some ⟨1, 8, .func, [.nilFunc]⟩ := by kernel_rfl
theorem tab_146 : tab 146 = some ⟨1, 8, .func, [.nilFunc]⟩ := by kernel_rfl
theorem tab_147 : tab 147 = some ⟨1, 8, .func, [.nilFunc]⟩ := by kernel_rfl
theorem tab_148 : tab 148 = some ⟨1, 8, .func, [.nilFunc]⟩ := by kernel_rfl
theorem tab_149 : tab 149 = some ⟨32, 256, .arr 32 3, [.int .i64 0, .int .i64 0, .int .i64 0, .int .i64 0, .int .i64 0, .int .i64 0, .int .i64 0, .int .i64 0, .int .i64 0, .int .i64 0, .int .i64 0, .int .i64 0, .int .i64 0, .int .i64 0, .int .i64 0, .int .i64 0, .int .i64 0, .int .i64 0, .int .i64 0, .int .i64 0, .int .i64 0, .int .i64 0, .int .i64 0, .int .i64 0, .int .i64 0, .int .i64 0, .int .i64 0, .int .i64 0, .int .i64 0, .int .i64 0, .int .i64 0, .int .i64 0]⟩ := by kernel_rfl
theorem tab_151 : tab 151 = some ⟨1, 8, .func, [.nilFunc]⟩ := by kernel_rfl
theorem tab_152 : tab 152 = some ⟨1, 8, .func, [.nilFunc]⟩ := by kernel_rfl
theorem tab_153 : tab 153 = some ⟨1, 8, .func, [.nilFunc]⟩ := by kernel_rfl
theorem tab_154 : tab 154 = some ⟨1, 8, .func, [.nilFunc]⟩ := by kernel_rfl
theorem tab_155 : tab 155 = some ⟨1, 8, .func, [.nilFunc]⟩ := by kernel_rfl
theorem tab_156 : tab 156 = some ⟨1, 8, .func, [.nilFunc]⟩ := by kernel_rfl
theorem tab_157 : tab 157 = some ⟨1, 8, .func, [.nilFunc]⟩ := by kernel_rfl
theorem tab_158 : tab 158 = some ⟨1, 8, .func, [.nilFunc]⟩ := by kernel_rfl
theorem tab_159 : tab 159 = some ⟨1, 8, .func, [.nilFunc]⟩ := by kernel_rfl
theorem tab_160 : tab 160 = some ⟨1, 8, .func, [.nilFunc]⟩ := by kernel_rfl
theorem tab_161 : tab 161 = some ⟨1, 8, .func, [.nilFunc]⟩ := by kernel_rfl
theorem tab_162 : tab 162 = some ⟨1, 8, .func, [.nilFunc]⟩ := by kernel_rfl
theorem tab_163 : tab 163 = some ⟨1, 8, .func, [.nilFunc]⟩ := by kernel_rfl
theorem tab_164 : tab 164 = some ⟨1, 8, .func, [.nilFunc]⟩ := by kernel_rfl
theorem tab_165 : tab 165 = some ⟨1, 8, .func, [.nilFunc]⟩ := by kernel_rfl
theorem tab_166 : tab 166 = some ⟨1, 8, .map 37 37, [.map none]⟩ := by kernel_rfl
theorem tab_167 : tab 167 = some ⟨1, 8, .map 37 61, [.map none]⟩ := by kernel_rfl
theorem tab_168 : tab 168 = some ⟨2, 16, .struct [(0, 166), (1, 167)], [.map none, .map none]⟩ := by kernel_rfl
theorem tab_169 : tab 169 = some ⟨2, 16, .struct [(0, 166), (1, 167)], [.map none, .map none]⟩ := by kernel_rfl
theorem tab_171 : tab 171 = some ⟨1, 8, .func, [.nilFunc]⟩ := by kernel_rfl
theorem tab_172 : tab 172 = some ⟨1, 8, .func, [.nilFunc]⟩ := by kernel_rfl
theorem tab_173 : tab 173 = some ⟨2, 16, .struct [(0, 37), (1, 37)], [.int .i64 0, .int .i64 0]⟩ := by kernel_rfl
theorem tab_174 : tab 174 = some ⟨2, 16, .struct [(0, 37), (1, 37)], [.int .i64 0, .int .i64 0]⟩ := by kernel_rfl
theorem tab_175 : tab 175 = some ⟨1, 8, .func, [.nilFunc]⟩ := by kernel_rfl
theorem tab_176 : tab 176 = some ⟨1, 8, .func, [.nilFunc]⟩ := by kernel_rfl
theorem tab_177 : tab 177 = some ⟨1, 8, .func, [.nilFunc]⟩ := by kernel_rfl
theorem tab_178 : tab 178 = some ⟨1, 8, .func, [.nilFunc]⟩ := by kernel_rfl
theorem tab_179 : tab 179 = some ⟨1, 8, .func, [.nilFunc]⟩ := by kernel_rfl
theorem tab_180 : tab 180 = some ⟨1, 8, .func, [.nilFunc]⟩ := by kernel_rfl
theorem tab_181 : tab 181 = some ⟨1, 8, .func, [.nilFunc]⟩ := by kernel_rfl
theorem tab_182 : tab 182 = some ⟨1, 8, .func, [.nilFunc]⟩ := by kernel_rfl
theorem tab_183 : tab 183 = some ⟨1, 8, .func, [.nilFunc]⟩ := by kernel_rfl
theorem tab_184 : tab 184 = some ⟨1, 8, .func, [.nilFunc]⟩ := by kernel_rfl
theorem tab_185 : tab 185 = some ⟨1, 8, .func, [.nilFunc]⟩ := by kernel_rfl
theorem tab_186 : tab 186 = some ⟨1, 8, .func, [.nilFunc]⟩ := by kernel_rfl
theorem tab_187 : tab 187 = some ⟨1, 8, .func, [.nilFunc]⟩ := by kernel_rfl
theorem tab_188 : tab 188 = some ⟨1, 8, .func, [.nilFunc]⟩ := by kernel_rfl
theorem tab_189 : tab 189 = some ⟨1, 8, .func, [.nilFunc]⟩ := by kernel_rfl
theorem tab_190 : tab 190 = some ⟨2, 32, .struct [(0, 22), (1, 4)], [.slice none 0 0, .bool false]⟩ := by kernel_rfl
theorem tab_191 : tab 191 = some ⟨2, 32, .struct [(0, 22), (1, 4)], [.slice none 0 0, .bool false]⟩ := by kernel_rfl
theorem tab_192 : tab 192 = some ⟨1, 8, .func, [.nilFunc]⟩ := by kernel_rfl
theorem tab_193 : tab 193 = some ⟨1, 8, .ptr 26, [.pointer none]⟩ := by kernel_rfl
theorem tab_194 : tab 194 = some ⟨0, 0, .struct [], []⟩ := by kernel_rfl
theorem tab_195 : tab 195 = some ⟨0, 0, .struct [], []⟩ := by kernel_rfl
theorem tab_196 : tab 196 = some ⟨1, 8, .func, [.nilFunc]⟩ := by kernel_rfl
theorem tab_197 : tab 197 = some ⟨1, 8, .func, [.nilFunc]⟩ := by kernel_rfl
theorem tab_198 : tab 198 = some ⟨1, 8, .func, [.nilFunc]⟩ := by kernel_rfl
theorem tab_199 : tab 199 = some ⟨1, 8, .func, [.nilFunc]⟩ := by kernel_rfl
theorem tab_200 : tab 200 = some ⟨1, 8, .func, [.nilFunc]⟩ := by kernel_rfl
theorem tab_201 : tab 201 = some ⟨1, 8, .func, [.nilFunc]⟩ := by kernel_rfl
theorem tab_202 : tab 202 = some ⟨1, 8, .func, [.nilFunc]⟩ := by kernel_rfl
theorem tab_203 : tab 203 = some ⟨1, 8, .ptr 205, [.pointer none]⟩ := by kernel_rfl
theorem tab_204 : tab 204 = some ⟨2, 32, .struct [(0, 22), (1, 4)], [.slice none 0 0, .bool false]⟩ := by kernel_rfl
theorem tab_205 : tab 205 = some ⟨2, 32, .struct [(0, 22), (1, 4)], [.slice none 0 0, .bool false]⟩ := by kernel_rfl
theorem tab_206 : tab 206 = some ⟨1, 8, .func, [.nilFunc]⟩ := by kernel_rfl
theorem tab_207 : tab 207 = some ⟨1, 8, .func, [.nilFunc]⟩ := by kernel_rfl
theorem tab_208 : tab 208 = some ⟨1, 8, .func, [.nilFunc]⟩ := by kernel_rfl
theorem tab_209 : tab 209 = some ⟨1, 8, .func, [.nilFunc]⟩ := by kernel_rfl
theorem tab_210 : tab 210 = some ⟨1, 8, .func, [.nilFunc]⟩ := by kernel_rfl
theorem tab_212 : tab 212 = some ⟨1, 8, .func, [.nilFunc]⟩ := by kernel_rfl
theorem tab_213 : tab 213 = some ⟨1, 24, .slice 39, [.slice none 0 0]⟩ := by kernel_rfl
theorem tab_214 : tab 214 = some ⟨1, 24, .slice 136, [.slice none 0 0]⟩ := by kernel_rfl
theorem tab_216 : tab 216 = some ⟨1, 8, .func, [.nilFunc]⟩ := by kernel_rfl
theorem tab_217 : tab 217 = some ⟨1, 8, .func, [.nilFunc]⟩ := by kernel_rfl
theorem tab_218 : tab 218 = some ⟨1, 8, .func, [.nilFunc]⟩ := by kernel_rfl
theorem tab_219 : tab 219 = some ⟨1, 8, .func, [.nilFunc]⟩ := by kernel_rfl
theorem tab_220 : tab 220 = some ⟨1, 8, .func, [.nilFunc]⟩ := by kernel_rfl
theorem tab_221 : tab 221 = some ⟨1, 8, .func, [.nilFunc]⟩ := by kernel_rfl
theorem tab_222 : tab 222 = some ⟨1, 8, .func, [.nilFunc]⟩ := by kernel_rfl
theorem tab_223 : tab 223 = some ⟨1, 8, .func, [.nilFunc]⟩ := by kernel_rfl
theorem tab_224 : tab 224 = some ⟨1, 8, .func, [.nilFunc]⟩ := by kernel_rfl
theorem tab_225 : tab 225 = some ⟨1, 8, .func, [.nilFunc]⟩ := by kernel_rfl
theorem tab_226 : tab 226 = some ⟨1, 8, .func, [.nilFunc]⟩ := by kernel_rfl
theorem tab_227 : tab 227 = some ⟨1, 8, .func, [.nilFunc]⟩ := by kernel_rfl
theorem tab_228 : tab 228 = some ⟨1, 8, .func, [.nilFunc]⟩ := by kernel_rfl
theorem tab_229 : tab 229 = some ⟨1, 8, .func, [.nilFunc]⟩ := by kernel_rfl
theorem tab_230 : tab 230 = some ⟨1, 8, .func, [.nilFunc]⟩ := by kernel_rfl
theorem tab_231 : tab 231 = some ⟨2, 16, .struct [(0, 3), (1, 230)], [.int .i64 0, .nilFunc]⟩ := by kernel_rfl
theorem tab_232 : tab 232 = some ⟨2, 16, .struct [(0, 3), (1, 230)], [.int .i64 0, .nilFunc]⟩ := by kernel_rfl
theorem tab_233 : tab 233 = some ⟨10, 80, .arr 5 232, [.int .i64 0, .nilFunc, .int .i64 0, .nilFunc, .int .i64 0, .nilFunc, .int .i64 0, .nilFunc, .int .i64 0, .nilFunc]⟩ := by kernel_rfl
theorem tab_234 : tab 234 = some ⟨1, 8, .func, [.nilFunc]⟩ := by kernel_rfl
theorem tab_235 : tab 235 = some ⟨1, 8, .ptr 3, [.pointer none]⟩ := by kernel_rfl
theorem tab_236 : tab 236 = some ⟨1, 8, .ptr 113, [.pointer none]⟩ := by kernel_rfl
theorem tab_237 : tab 237 = some ⟨1, 8, .func, [.nilFunc]⟩ := by kernel_rfl
theorem tab_238 : tab 238 = some ⟨7, 56, .struct [(0, 3), (1, 3), (2, 4), (3, 3), (4, 3), (5, 3), (6, 39)], [.int .i64 0, .int .i64 0, .bool false, .int .i64 0, .int .i64 0, .int .i64 0, .int .i64 0]⟩ := by kernel_rfl
theorem tab_239 : tab 239 = some ⟨7, 56, .struct [(0, 3), (1, 3), (2, 4), (3, 3), (4, 3), (5, 3), (6, 39)], [.int .i64 0, .int .i64 0, .bool false, .int .i64 0, .int .i64 0, .int .i64 0, .int .i64 0]⟩ := by kernel_rfl
theorem tab_240 : tab 240 = some ⟨1, 8, .func, [.nilFunc]⟩ := by kernel_rfl
theorem tab_241 : tab 241 = some ⟨1, 8, .func, [.nilFunc]⟩ := by kernel_rfl
theorem tab_242 : tab 242 = some ⟨1, 8, .func, [.nilFunc]⟩ := by kernel_rfl
theorem tab_243 : tab 243 = some ⟨1, 8, .func, [.nilFunc]⟩ := by kernel_rfl
theorem tab_244 : tab 244 = some ⟨1, 24, .slice 41, [.slice none 0 0]⟩ := by kernel_rfl
theorem tab_245 : tab 245 = some ⟨1, 8, .func, [.nilFunc]⟩ := by kernel_rfl
theorem tab_246 : tab 246 = some ⟨1, 8, .func, [.nilFunc]⟩ := by kernel_rfl
theorem tab_247 : tab 247 = some ⟨1, 24, .slice 45, [.slice none 0 0]⟩ := by kernel_rfl
theorem tab_248 : tab 248 = some ⟨1, 8, .func, [.nilFunc]⟩ := by kernel_rfl
theorem tab_249 : tab 249 = some ⟨1, 8, .func, [.nilFunc]⟩ := by kernel_rfl
theorem tab_250 : tab 250 = some ⟨1, 8, .func, [.nilFunc]⟩ := by kernel_rfl
theorem tab_252 : tab 252 = some ⟨1, 8, .func, [.nilFunc]⟩ := by kernel_rfl
theorem tab_253 : tab 253 = some ⟨1, 8, .func, [.nilFunc]⟩ := by kernel_rfl
theorem tab_254 : tab 254 = some ⟨1, 8, .func, [.nilFunc]⟩ := by kernel_rfl
theorem tab_255 : tab 255 = some ⟨1, 8, .func, [.nilFunc]⟩ := by kernel_rfl
theorem tab_256 : tab 256 = some ⟨1, 8, .func, [.nilFunc]⟩ := by kernel_rfl
theorem tab_257 : tab 257 = some ⟨1, 8, .func, [.nilFunc]⟩ := by kernel_rfl
theorem tab_258 : tab 258 = some ⟨1, 8, .func, [.nilFunc]⟩ := by kernel_rfl
theorem tab_259 : tab 259 = some ⟨1, 24, .slice 43, [.slice none 0 0]⟩ := by kernel_rfl
theorem tab_260 : tab 260 = some ⟨1, 8, .func, [.nilFunc]⟩ := by kernel_rfl
theorem tab_261 : tab 261 = some ⟨1, 8, .func, [.nilFunc]⟩ := by kernel_rfl
theorem tab_262 : tab 262 = some ⟨1, 8, .int .i64, [.int .i64 0]⟩ := by kernel_rfl
theorem tab_264 : tab 264 = some ⟨1, 8, .func, [.nilFunc]⟩ := by kernel_rfl
theorem tab_265 : tab 265 = some ⟨1, 8, .func, [.nilFunc]⟩ := by kernel_rfl
theorem tab_266 : tab 266 = some ⟨1, 8, .func, [.nilFunc]⟩ := by kernel_rfl
theorem tab_267 : tab 267 = some ⟨1, 8, .func, [.nilFunc]⟩ := by kernel_rfl
theorem tab_268 : tab 268 = some ⟨1, 8, .func, [.nilFunc]⟩ := by kernel_rfl
theorem tab_269 : tab 269 = some ⟨1, 8, .func, [.nilFunc]⟩ := by kernel_rfl
theorem tab_270 : tab 270 = some ⟨1, 8, .int .u64, [.int .u64 0]⟩ := by kernel_rfl
theorem tab_271 : tab 271 = some ⟨1, 8, .func, [.nilFunc]⟩ := by kernel_rfl
theorem tab_272 : tab 272 = some ⟨1, 8, .func, [.nilFunc]⟩ := by kernel_rfl
theorem tab_274 : tab 274 = some ⟨1, 8, .func, [.nilFunc]⟩ := by kernel_rfl
theorem tab_275 : tab 275 = some ⟨1, 8, .func, [.nilFunc]⟩ := by kernel_rfl
theorem tab_276 : tab 276 = some ⟨1, 8, .func, [.nilFunc]⟩ := by kernel_rfl
theorem tab_277 : tab 277 = some ⟨7, 56, .struct [(0, 3), (1, 3), (2, 4), (3, 3), (4, 3), (5, 3), (6, 39)], [.int .i64 0, .int .i64 0, .bool false, .int .i64 0, .int .i64 0, .int .i64 0, .int .i64 0]⟩ := by kernel_rfl
theorem tab_278 : tab 278 = some ⟨1, 8, .func, [.nilFunc]⟩ := by kernel_rfl
theorem tab_279 : tab 279 = some ⟨1, 8, .map 136 278, [.map none]⟩ := by kernel_rfl
theorem tab_280 : tab 280 = some ⟨1, 8, .func, [.nilFunc]⟩ := by kernel_rfl
theorem tab_281 : tab 281 = some ⟨1, 8, .ptr 47, [.pointer none]⟩ := by kernel_rfl
theorem tab_282 : tab 282 = some ⟨1, 8, .func, [.nilFunc]⟩ := by kernel_rfl
theorem tab_283 : tab 283 = some ⟨1, 8, .func, [.nilFunc]⟩ := by kernel_rfl
theorem tab_284 : tab 284 = some ⟨1, 8, .func, [.nilFunc]⟩ := by kernel_rfl
theorem tab_285 : tab 285 = some ⟨1, 8, .func, [.nilFunc]⟩ := by kernel_rfl
theorem tab_286 : tab 286 = some ⟨1, 8, .func, [.nilFunc]⟩ := by kernel_rfl
theorem tab_287 : tab 287 = some ⟨1, 8, .func, [.nilFunc]⟩ := by kernel_rfl
theorem tab_289 : tab 289 = some ⟨1, 8, .func, [.nilFunc]⟩ := by kernel_rfl
theorem tab_290 : tab 290 = some ⟨1, 8, .func, [.nilFunc]⟩ := by kernel_rfl
theorem tab_291 : tab 291 = some ⟨1, 8, .func, [.nilFunc]⟩ := by kernel_rfl
theorem tab_292 : tab 292 = some ⟨1, 8, .func, [.nilFunc]⟩ := by kernel_rfl
theorem tab_293 : tab 293 = some ⟨1, 8, .func, [.nilFunc]⟩ := by kernel_rfl
theorem tab_294 : tab 294 = some ⟨1, 8, .func, [.nilFunc]⟩ := by kernel_rfl
theorem tab_295 : tab 295 = some ⟨1, 8, .func, [.nilFunc]⟩ := by kernel_rfl
theorem tab_296 : tab 296 = some ⟨1, 8, .int .u64, [.int .u64 0]⟩ := by kernel_rfl
theorem tab_297 : tab 297 = some ⟨1, 8, .func, [.nilFunc]⟩ := by kernel_rfl
theorem tab_298 : tab 298 = some ⟨1, 8, .func, [.nilFunc]⟩ := by kernel_rfl
theorem tab_299 : tab 299 = some ⟨1, 8, .func, [.nilFunc]⟩ := by kernel_rfl
theorem tab_300 : tab 300 = some ⟨1, 8, .func, [.nilFunc]⟩ := by kernel_rfl
theorem tab_301 : tab 301 = some ⟨1, 8, .func, [.nilFunc]⟩ := by kernel_rfl
theorem tab_302 : tab 302 = some ⟨1, 8, .func, [.nilFunc]⟩ := by kernel_rfl
theorem tab_303 : tab 303 = some ⟨1, 8, .func, [.nilFunc]⟩ := by kernel_rfl
theorem tab_304 : tab 304 = some ⟨1, 8, .func, [.nilFunc]⟩ := by kernel_rfl
theorem tab_305 : tab 305 = some ⟨1, 8, .func, [.nilFunc]⟩ := by kernel_rfl
theorem tab_306 : tab 306 = some ⟨1, 8, .func, [.nilFunc]⟩ := by kernel_rfl
theorem tab_307 : tab 307 = some ⟨2, 16, .struct [(0, 3), (1, 3)], [.int .i64 0, .int .i64 0]⟩ := by kernel_rfl
theorem tab_308 : tab 308 = some ⟨2, 16, .struct [(0, 3), (1, 3)], [.int .i64 0, .int .i64 0]⟩ := by kernel_rfl
theorem tab_309 : tab 309 = some ⟨1, 8, .func, [.nilFunc]⟩ := by kernel_rfl
theorem tab_310 : tab 310 = some ⟨1, 8, .func, [.nilFunc]⟩ := by kernel_rfl
theorem tab_311 : tab 311 = some ⟨1, 8, .ptr 296, [.pointer none]⟩ := by kernel_rfl
theorem tab_312 : tab 312 = some ⟨1, 8, .func, [.nilFunc]⟩ := by kernel_rfl
theorem tab_313 : tab 313 = some ⟨1, 8, .func, [.nilFunc]⟩ := by kernel_rfl
theorem tab_314 : tab 314 = some ⟨1, 8, .func, [.nilFunc]⟩ := by kernel_rfl
theorem tab_315 : tab 315 = some ⟨1, 24, .slice 308, [.slice none 0 0]⟩ := by kernel_rfl
theorem tab_316 : tab 316 = some ⟨1, 8, .func, [.nilFunc]⟩ := by kernel_rfl
theorem tab_317 : tab 317 = some ⟨1, 8, .func, [.nilFunc]⟩ := by kernel_rfl
theorem tab_318 : tab 318 = some ⟨4, 40, .struct [(0, 17), (1, 17), (2, 17), (3, 9)], [.pointer none, .pointer none, .pointer none, .string ⟨#[]⟩]⟩ := by kernel_rfl
theorem tab_319 : tab 319 = some ⟨4, 40, .struct [(0, 17), (1, 17), (2, 17), (3, 9)], [.pointer none, .pointer none, .pointer none, .string ⟨#[]⟩]⟩ := by kernel_rfl
theorem tab_320 : tab 320 = some ⟨0, 0, .arr 0 16, []⟩ := by kernel_rfl
theorem tab_321 : tab 321 = some ⟨0, 0, .struct [(0, 320)], []⟩ := by kernel_rfl
theorem tab_322 : tab 322 = some ⟨0, 0, .struct [(0, 320)], []⟩ := by kernel_rfl
theorem tab_323 : tab 323 = some ⟨1, 1, .int .u8, [.int .u8 0]⟩ := by kernel_rfl
theorem tab_324 : tab 324 = some ⟨1, 1, .int .u8, [.int .u8 0]⟩ := by kernel_rfl
theorem tab_325 : tab 325 = some ⟨1, 8, .func, [.nilFunc]⟩ := by kernel_rfl
theorem tab_326 : tab 326 = some ⟨1, 8, .ptr 5, [.pointer none]⟩ := by kernel_rfl
theorem tab_327 : tab 327 = some ⟨1, 4, .int .i32, [.int .i32 0]⟩ := by kernel_rfl
theorem tab_328 : tab 328 = some ⟨1, 4, .int .i32, [.int .i32 0]⟩ := by kernel_rfl
theorem tab_329 : tab 329 = some ⟨11, 48, .struct [(0, 12), (1, 12), (2, 31), (3, 323), (4, 5), (5, 5), (6, 324), (7, 325), (8, 326), (9, 327), (10, 328)], [.int .u64 0, .int .u64 0, .int .u32 0, .int .u8 0, .int .u8 0, .int .u8 0, .int .u8 0, .nilFunc, .pointer none, .int .i32 0, .int .i32 0]⟩ := by kernel_rfl
theorem tab_330 : tab 330 = some ⟨11, 48, .struct [(0, 12), (1, 12), (2, 31), (3, 323), (4, 5), (5, 5), (6, 324), (7, 325), (8, 326), (9, 327), (10, 328)], [.int .u64 0, .int .u64 0, .int .u32 0, .int .u8 0, .int .u8 0, .int .u8 0, .int .u8 0, .nilFunc, .pointer none, .int .i32 0, .int .i32 0]⟩ := by kernel_rfl

attribute [go_sem] tab_1 tab_2 tab_3 tab_4 tab_5 tab_6 tab_7 tab_8 tab_9 tab_10 tab_11 tab_12 tab_13 tab_14 tab_15 tab_16 tab_17 tab_18 tab_19 tab_20 tab_21 tab_22 tab_23 tab_24 tab_25 tab_26 tab_28 tab_29 tab_30 tab_31 tab_32 tab_34 tab_35 tab_36 tab_37 tab_38 tab_39 tab_40 tab_41 tab_42 tab_43 tab_44 tab_45 tab_46 tab_47 tab_48 tab_49 tab_50 tab_51 tab_53 tab_54 tab_56 tab_57 tab_58 tab_59 tab_60 tab_61 tab_63 tab_64 tab_65 tab_66 tab_67 tab_68 tab_69 tab_70 tab_71 tab_72 tab_73 tab_74 tab_75 tab_76 tab_77 tab_79 tab_80 tab_81 tab_82 tab_83 tab_84 tab_85 tab_86 tab_87 tab_88 tab_89 tab_90 tab_91 tab_92 tab_93 tab_94 tab_95 tab_96 tab_97 tab_98 tab_99 tab_101 tab_102 tab_103 tab_104 tab_105 tab_106 tab_107 tab_108 tab_109 tab_110 tab_111 tab_112 tab_113 tab_114 tab_115 tab_116 tab_117 tab_118 tab_119 tab_120 tab_121 tab_122 tab_123 tab_124 tab_125 tab_126 tab_127 tab_128 tab_129 tab_130 tab_131 tab_132 tab_134 tab_135 tab_136 tab_137 tab_138 tab_139 tab_140 tab_141 tab_142 tab_144 tab_145 tab_146 tab_147 tab_148 tab_149 tab_151 tab_152 tab_153 tab_154 tab_155 tab_156 tab_157 tab_158 tab_159 tab_160 tab_161 tab_162 tab_163 tab_164 tab_165 tab_166 tab_167 tab_168 tab_169 tab_171 tab_172 tab_173 tab_174 tab_175 tab_176 tab_177 tab_178 tab_179 tab_180 tab_181 tab_182 tab_183 tab_184 tab_185 tab_186 tab_187 tab_188 tab_189 tab_190 tab_191 tab_192 tab_193 tab_194 tab_195 tab_196 tab_197 tab_198 tab_199 tab_200 tab_201 tab_202 tab_203 tab_204 tab_205 tab_206 tab_207 tab_208 tab_209 tab_210 tab_212 tab_213 tab_214 tab_216 tab_217 tab_218 tab_219 tab_220 tab_221 tab_222 tab_223 tab_224 tab_225 tab_226 tab_227 tab_228 tab_229 tab_230 tab_231 tab_232 tab_233 tab_234 tab_235 tab_236 tab_237 tab_238 tab_239 tab_240 tab_241 tab_242 tab_243 tab_244 tab_245 tab_246 tab_247 tab_248 tab_249 tab_250 tab_252 tab_253 tab_254 tab_255 tab_256 tab_257 tab_258 tab_259 tab_260 tab_261 tab_262 tab_264 tab_265 tab_266 tab_267 tab_268 tab_269 tab_270 tab_271 tab_272 tab_274 tab_275 tab_276 tab_277 tab_278 tab_279 tab_280 tab_281 tab_282 tab_283 tab_284 tab_285 tab_286 tab_287 tab_289 tab_290 tab_291 tab_292 tab_293 tab_294 tab_295 tab_296 tab_297 tab_298 tab_299 tab_300 tab_301 tab_302 tab_303 tab_304 tab_305 tab_306 tab_307 tab_308 tab_309 tab_310 tab_311 tab_312 tab_313 tab_314 tab_315 tab_316 tab_317 tab_318 tab_319 tab_320 tab_321 tab_322 tab_323 tab_324 tab_325 tab_326 tab_327 tab_328 tab_329 tab_330

end Go.Ab
