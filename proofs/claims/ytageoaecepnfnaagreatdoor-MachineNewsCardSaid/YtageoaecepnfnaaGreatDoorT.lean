/- The functions of the seat of the machine laws by text, each held against the evaluator by the kernel. Printed by this repo's wip/gen/emit.py. -/
import Derived.Test.YtageoaecepnfnaaGreatDoorProg
import Derived.Test.YtageoaecepnfnaaGreatDoorSyI
namespace Go.Proofs.YtageoaecepnfnaaGreatDoor
open Go Go.Sy Go.RowKit
set_option maxRecDepth 100000
set_option linter.unusedVariables false
/-- math/bits.deBruijn32tab -/
noncomputable def gv0 : Den (.arr 32 (.int .u8)) := [(0#8), (1#8), (28#8), (2#8), (29#8), (14#8), (24#8), (3#8), (30#8), (22#8), (20#8), (15#8), (25#8), (17#8), (4#8), (8#8), (31#8), (27#8), (13#8), (23#8), (21#8), (19#8), (16#8), (7#8), (26#8), (12#8), (18#8), (6#8), (11#8), (5#8), (10#8), (9#8)]
/-- vmfleet/isa.names -/
noncomputable def gv1 : Den (.arr 65 .str) := [[], [97#8, 100#8, 100#8], [115#8, 117#8, 98#8], [97#8, 110#8, 100#8], [111#8, 114#8], [120#8, 111#8, 114#8], [115#8, 104#8, 108#8], [115#8, 104#8, 114#8], [115#8, 97#8, 114#8], [109#8, 117#8, 108#8], [100#8, 105#8, 118#8], [114#8, 101#8, 109#8], [115#8, 108#8, 116#8], [115#8, 108#8, 116#8, 117#8], [], [], [97#8, 100#8, 100#8, 105#8], [97#8, 110#8, 100#8, 105#8], [111#8, 114#8, 105#8], [120#8, 111#8, 114#8, 105#8], [115#8, 104#8, 108#8, 105#8], [115#8, 104#8, 114#8, 105#8], [115#8, 97#8, 114#8, 105#8], [115#8, 108#8, 116#8, 105#8], [108#8, 117#8, 105#8], [], [], [], [], [], [], [], [108#8, 119#8], [108#8, 98#8], [108#8, 98#8, 117#8], [115#8, 119#8], [115#8, 98#8], [], [], [], [98#8, 101#8, 113#8], [98#8, 110#8, 101#8], [98#8, 108#8, 116#8], [98#8, 103#8, 101#8], [98#8, 108#8, 116#8, 117#8], [98#8, 103#8, 101#8, 117#8], [], [], [106#8, 97#8, 108#8], [106#8, 97#8, 108#8, 114#8], [], [], [], [], [], [], [101#8, 99#8, 97#8, 108#8, 108#8], [101#8, 114#8, 101#8, 116#8], [99#8, 115#8, 114#8, 114#8], [99#8, 115#8, 114#8, 119#8], [105#8, 110#8], [111#8, 117#8, 116#8], [119#8, 102#8, 105#8], [102#8, 108#8, 117#8, 115#8, 104#8], [104#8, 97#8, 108#8, 116#8]]
noncomputable def gls : List (Nat × GV) := [(0, ⟨(.arr 32 (.int .u8)), gv0⟩), (1, ⟨(.arr 65 .str), gv1⟩)]
noncomputable def E0 : Env :=
  ⟨[(2, (.int .i64), 8), (3, (.int .i64), 8), (4, .bool, 1), (5, (.int .u8), 1), (9, .str, 16), (21, (.int .i32), 4), (22, (.sl (.int .u32)), 24), (23, (.sl (.int .i64)), 24), (27, (.int .u32), 4), (28, (.arr 16 (.int .u32)), 64), (29, (.arr 8 (.int .u32)), 32), (31, (.cons (.arr 16 (.int .u32)) (.cons (.int .u32) (.cons (.arr 8 (.int .u32)) .nil))), 100), (33, (.cons .str .nil), 16), (35, (.cons .bool (.cons (.int .u32) (.cons .bool .nil))), 12), (37, (.cons (.int .u32) (.cons (.int .u32) (.cons (.int .u32) (.cons (.int .i64) (.cons (.int .i64) (.cons (.int .u32) (.cons (.int .u32) (.cons .str .nil)))))))), 56), (39, (.cons (.int .u32) (.cons (.int .u32) (.cons .bool (.cons (.int .u32) (.cons .bool (.cons (.int .u32) .nil)))))), 24), (41, (.cons (.int .u32) (.cons (.int .u32) .nil)), 8), (42, (.int .u64), 8), (44, (.cons (.cons (.arr 16 (.int .u32)) (.cons (.int .u32) (.cons (.arr 8 (.int .u32)) .nil))) (.cons (.sl (.int .u32)) (.cons (.cons .str .nil) (.cons (.cons .bool (.cons (.int .u32) (.cons .bool .nil))) (.cons (.cons (.int .u32) (.cons (.int .u32) (.cons (.int .u32) (.cons (.int .i64) (.cons (.int .i64) (.cons (.int .u32) (.cons (.int .u32) (.cons .str .nil)))))))) (.cons (.cons (.int .u32) (.cons (.int .u32) (.cons .bool (.cons (.int .u32) (.cons .bool (.cons (.int .u32) .nil)))))) (.cons (.cons (.int .u32) (.cons (.int .u32) .nil)) (.cons (.int .u64) (.cons .bool (.cons .bool .nil)))))))))), 264), (45, (.int .i64), 8), (62, (.cons (.int .i64) (.cons (.int .i64) (.cons (.int .i64) (.cons (.int .i64) (.cons (.int .i32) .nil))))), 40), (64, (.sl (.cons (.int .i64) (.cons (.int .u64) (.cons (.int .u32) (.cons .str .nil))))), 24), (83, (.sl (.int .u8)), 24), (90, (.cons (.int .i64) (.cons (.int .u64) (.cons (.int .u32) (.cons .str .nil)))), 40), (93, (.sl .bool), 24), (132, (.arr 5 .bool), 5), (135, (.cons (.int .i64) (.cons (.int .i64) (.cons (.int .i64) (.cons (.int .u32) .nil)))), 32), (214, (.cons .bool (.cons .bool (.cons .bool (.cons (.int .i32) (.cons (.int .i32) .nil))))), 12), (237, (.arr 32 (.int .u8)), 32), (260, (.cons (.int .u32) (.cons (.int .u32) (.cons (.int .i64) .nil))), 16), (295, (.arr 65 .str), 1040)],
    [(22, 27, 4), (23, 3, 8), (64, 90, 40), (83, 5, 1), (93, 4, 1)],
    [(31, (.cons (.arr 16 (.int .u32)) (.cons (.int .u32) (.cons (.arr 8 (.int .u32)) .nil)))), (33, (.cons .str .nil)), (35, (.cons .bool (.cons (.int .u32) (.cons .bool .nil)))), (37, (.cons (.int .u32) (.cons (.int .u32) (.cons (.int .u32) (.cons (.int .i64) (.cons (.int .i64) (.cons (.int .u32) (.cons (.int .u32) (.cons .str .nil))))))))), (39, (.cons (.int .u32) (.cons (.int .u32) (.cons .bool (.cons (.int .u32) (.cons .bool (.cons (.int .u32) .nil))))))), (41, (.cons (.int .u32) (.cons (.int .u32) .nil)))],
    gls, [],
    [(3, Tryz.f3), (15, Tryz.f15), (16, Tryz.f16), (17, Tryz.f17), (18, Tryz.f18), (19, Tryz.f19), (20, Tryz.f20), (21, Tryz.f21), (22, Tryz.f22), (27, Tryz.f27), (28, Tryz.f28), (29, Tryz.f29), (30, Tryz.f30), (51, Tryz.f51), (52, Tryz.f52), (57, Tryz.f57), (61, Tryz.f61), (62, Tryz.f62), (63, Tryz.f63), (64, Tryz.f64), (65, Tryz.f65), (66, Tryz.f66), (67, Tryz.f67), (68, Tryz.f68), (69, Tryz.f69), (70, Tryz.f70), (73, Tryz.f73), (75, Tryz.f75), (76, Tryz.f76), (77, Tryz.f77), (78, Tryz.f78), (79, Tryz.f79), (80, Tryz.f80), (81, Tryz.f81), (82, Tryz.f82), (83, Tryz.f83), (84, Tryz.f84), (85, Tryz.f85), (86, Tryz.f86), (105, Tryz.f105), (106, Tryz.f106), (130, Tryz.f130), (132, Tryz.f132), (133, Tryz.f133), (140, Tryz.f140), (141, Tryz.f141), (142, Tryz.f142), (143, Tryz.f143), (144, Tryz.f144), (145, Tryz.f145), (146, Tryz.f146), (147, Tryz.f147), (148, Tryz.f148), (149, Tryz.f149), (150, Tryz.f150), (153, Tryz.f153), (154, Tryz.f154), (155, Tryz.f155), (156, Tryz.f156), (157, Tryz.f157), (158, Tryz.f158), (168, Tryz.f168), (169, Tryz.f169), (170, Tryz.f170), (175, Tryz.f175), (176, Tryz.f176), (177, Tryz.f177), (178, Tryz.f178), (179, Tryz.f179), (180, Tryz.f180), (181, Tryz.f181), (182, Tryz.f182), (183, Tryz.f183), (184, Tryz.f184), (185, Tryz.f185), (186, Tryz.f186), (187, Tryz.f187), (188, Tryz.f188), (189, Tryz.f189), (190, Tryz.f190), (191, Tryz.f191), (192, Tryz.f192), (193, Tryz.f193), (194, Tryz.f194), (195, Tryz.f195), (196, Tryz.f196), (197, Tryz.f197), (198, Tryz.f198), (199, Tryz.f199), (200, Tryz.f200), (201, Tryz.f201), (202, Tryz.f202), (220, Tryz.f220), (221, Tryz.f221), (222, Tryz.f222), (223, Tryz.f223), (224, Tryz.f224), (225, Tryz.f225), (226, Tryz.f226), (227, Tryz.f227), (250, Tryz.f250)],
    [(128, 93), (131, 22)]⟩
theorem mo : Tryz.prog.follows .mixedOrders = true := by kernel_rfl
theorem E0_ok : E0.Ok Tryz.prog := Env.ok_of (by kernel_rfl) (by kernel_rfl) (by kernel_rfl)
  (FnsOk.cons Tryz.func3 (by kernel_rfl) <| FnsOk.cons Tryz.func15 (by kernel_rfl) <| FnsOk.cons Tryz.func16 (by kernel_rfl) <| FnsOk.cons Tryz.func17 (by kernel_rfl) <| FnsOk.cons Tryz.func18 (by kernel_rfl) <| FnsOk.cons Tryz.func19 (by kernel_rfl) <| FnsOk.cons Tryz.func20 (by kernel_rfl) <| FnsOk.cons Tryz.func21 (by kernel_rfl) <| FnsOk.cons Tryz.func22 (by kernel_rfl) <| FnsOk.cons Tryz.func27 (by kernel_rfl) <| FnsOk.cons Tryz.func28 (by kernel_rfl) <| FnsOk.cons Tryz.func29 (by kernel_rfl) <| FnsOk.cons Tryz.func30 (by kernel_rfl) <| FnsOk.cons Tryz.func51 (by kernel_rfl) <| FnsOk.cons Tryz.func52 (by kernel_rfl) <| FnsOk.cons Tryz.func57 (by kernel_rfl) <| FnsOk.cons Tryz.func61 (by kernel_rfl) <| FnsOk.cons Tryz.func62 (by kernel_rfl) <| FnsOk.cons Tryz.func63 (by kernel_rfl) <| FnsOk.cons Tryz.func64 (by kernel_rfl) <| FnsOk.cons Tryz.func65 (by kernel_rfl) <| FnsOk.cons Tryz.func66 (by kernel_rfl) <| FnsOk.cons Tryz.func67 (by kernel_rfl) <| FnsOk.cons Tryz.func68 (by kernel_rfl) <| FnsOk.cons Tryz.func69 (by kernel_rfl) <| FnsOk.cons Tryz.func70 (by kernel_rfl) <| FnsOk.cons Tryz.func73 (by kernel_rfl) <| FnsOk.cons Tryz.func75 (by kernel_rfl) <| FnsOk.cons Tryz.func76 (by kernel_rfl) <| FnsOk.cons Tryz.func77 (by kernel_rfl) <| FnsOk.cons Tryz.func78 (by kernel_rfl) <| FnsOk.cons Tryz.func79 (by kernel_rfl) <| FnsOk.cons Tryz.func80 (by kernel_rfl) <| FnsOk.cons Tryz.func81 (by kernel_rfl) <| FnsOk.cons Tryz.func82 (by kernel_rfl) <| FnsOk.cons Tryz.func83 (by kernel_rfl) <| FnsOk.cons Tryz.func84 (by kernel_rfl) <| FnsOk.cons Tryz.func85 (by kernel_rfl) <| FnsOk.cons Tryz.func86 (by kernel_rfl) <| FnsOk.cons Tryz.func105 (by kernel_rfl) <| FnsOk.cons Tryz.func106 (by kernel_rfl) <| FnsOk.cons Tryz.func130 (by kernel_rfl) <| FnsOk.cons Tryz.func132 (by kernel_rfl) <| FnsOk.cons Tryz.func133 (by kernel_rfl) <| FnsOk.cons Tryz.func140 (by kernel_rfl) <| FnsOk.cons Tryz.func141 (by kernel_rfl) <| FnsOk.cons Tryz.func142 (by kernel_rfl) <| FnsOk.cons Tryz.func143 (by kernel_rfl) <| FnsOk.cons Tryz.func144 (by kernel_rfl) <| FnsOk.cons Tryz.func145 (by kernel_rfl) <| FnsOk.cons Tryz.func146 (by kernel_rfl) <| FnsOk.cons Tryz.func147 (by kernel_rfl) <| FnsOk.cons Tryz.func148 (by kernel_rfl) <| FnsOk.cons Tryz.func149 (by kernel_rfl) <| FnsOk.cons Tryz.func150 (by kernel_rfl) <| FnsOk.cons Tryz.func153 (by kernel_rfl) <| FnsOk.cons Tryz.func154 (by kernel_rfl) <| FnsOk.cons Tryz.func155 (by kernel_rfl) <| FnsOk.cons Tryz.func156 (by kernel_rfl) <| FnsOk.cons Tryz.func157 (by kernel_rfl) <| FnsOk.cons Tryz.func158 (by kernel_rfl) <| FnsOk.cons Tryz.func168 (by kernel_rfl) <| FnsOk.cons Tryz.func169 (by kernel_rfl) <| FnsOk.cons Tryz.func170 (by kernel_rfl) <| FnsOk.cons Tryz.func175 (by kernel_rfl) <| FnsOk.cons Tryz.func176 (by kernel_rfl) <| FnsOk.cons Tryz.func177 (by kernel_rfl) <| FnsOk.cons Tryz.func178 (by kernel_rfl) <| FnsOk.cons Tryz.func179 (by kernel_rfl) <| FnsOk.cons Tryz.func180 (by kernel_rfl) <| FnsOk.cons Tryz.func181 (by kernel_rfl) <| FnsOk.cons Tryz.func182 (by kernel_rfl) <| FnsOk.cons Tryz.func183 (by kernel_rfl) <| FnsOk.cons Tryz.func184 (by kernel_rfl) <| FnsOk.cons Tryz.func185 (by kernel_rfl) <| FnsOk.cons Tryz.func186 (by kernel_rfl) <| FnsOk.cons Tryz.func187 (by kernel_rfl) <| FnsOk.cons Tryz.func188 (by kernel_rfl) <| FnsOk.cons Tryz.func189 (by kernel_rfl) <| FnsOk.cons Tryz.func190 (by kernel_rfl) <| FnsOk.cons Tryz.func191 (by kernel_rfl) <| FnsOk.cons Tryz.func192 (by kernel_rfl) <| FnsOk.cons Tryz.func193 (by kernel_rfl) <| FnsOk.cons Tryz.func194 (by kernel_rfl) <| FnsOk.cons Tryz.func195 (by kernel_rfl) <| FnsOk.cons Tryz.func196 (by kernel_rfl) <| FnsOk.cons Tryz.func197 (by kernel_rfl) <| FnsOk.cons Tryz.func198 (by kernel_rfl) <| FnsOk.cons Tryz.func199 (by kernel_rfl) <| FnsOk.cons Tryz.func200 (by kernel_rfl) <| FnsOk.cons Tryz.func201 (by kernel_rfl) <| FnsOk.cons Tryz.func202 (by kernel_rfl) <| FnsOk.cons Tryz.func220 (by kernel_rfl) <| FnsOk.cons Tryz.func221 (by kernel_rfl) <| FnsOk.cons Tryz.func222 (by kernel_rfl) <| FnsOk.cons Tryz.func223 (by kernel_rfl) <| FnsOk.cons Tryz.func224 (by kernel_rfl) <| FnsOk.cons Tryz.func225 (by kernel_rfl) <| FnsOk.cons Tryz.func226 (by kernel_rfl) <| FnsOk.cons Tryz.func227 (by kernel_rfl) <| FnsOk.cons Tryz.func250 (by kernel_rfl) <| FnsOk.nil _)
  (ClnOk.cons ⟨_, _, Tryz.func128, by kernel_rfl, rfl, .mk .., rfl, rfl⟩ <| ClnOk.cons ⟨_, _, Tryz.func131, by kernel_rfl, rfl, .mk .., rfl, rfl⟩ <| ClnOk.nil _)
noncomputable def EC (l : List (FuncId × Con)) : Env := ⟨E0.ty, E0.sl, E0.eq, gls, l, E0.fns, E0.cln⟩
theorem con_ok (l : List (FuncId × Con)) : (EC l).Ok Tryz.prog := E0_ok.con l
/-- slices.Clone[[]bool,bool] -/
noncomputable def G128 (x : List (Bool) × Unit) : Option (List (Bool) × Unit) := if (room (List.length x.1 * 1) && room (List.length x.1)) = true then some (x.1, ()) else none
noncomputable def K128 : Con := ⟨(.cons (.sl .bool) .nil), (.cons (.sl .bool) .nil), false, G128⟩
theorem S128 : Sat Tryz.prog gls 128 K128 := Sat.congr (clone_sat (E := E0) (t := 93) E0_ok rfl) (fun x => by kernel_rfl)
/-- slices.Clone[[]uint32,uint32] -/
noncomputable def G131 (x : List (BitVec 32) × Unit) : Option (List (BitVec 32) × Unit) := if (room (List.length x.1 * 4) && room (List.length x.1)) = true then some (x.1, ()) else none
noncomputable def K131 : Con := ⟨(.cons (.sl (.int .u32)) .nil), (.cons (.sl (.int .u32)) .nil), false, G131⟩
theorem S131 : Sat Tryz.prog gls 131 K131 := Sat.congr (clone_sat (E := E0) (t := 22) E0_ok rfl) (fun x => by kernel_rfl)
/-- vmfleet/vmfleetmake.ops -/
noncomputable def G133 (x : Unit) : Option ((List (Int)) × (Unit)) :=
  some ([(1 : Int), (2 : Int), (3 : Int), (4 : Int), (5 : Int), (6 : Int), (7 : Int), (8 : Int), (9 : Int), (10 : Int), (11 : Int), (12 : Int), (13 : Int), (16 : Int), (16 : Int), (17 : Int), (18 : Int), (19 : Int), (20 : Int), (21 : Int), (22 : Int), (23 : Int), (24 : Int), (24 : Int), (32 : Int), (32 : Int), (33 : Int), (34 : Int), (35 : Int), (35 : Int), (36 : Int), (40 : Int), (41 : Int), (42 : Int), (43 : Int), (44 : Int), (45 : Int), (48 : Int), (49 : Int), (56 : Int), (57 : Int), (58 : Int), (59 : Int), (60 : Int), (60 : Int), (61 : Int), (61 : Int), (62 : Int), (63 : Int), (64 : Int)], ())
noncomputable def K133 : Con := ⟨.nil, (.cons (.sl (.int .i64)) .nil), false, G133⟩
noncomputable def C133 : List (FuncId × Con) := []
noncomputable def D133 : List (FuncId × Con) := []
noncomputable def A133 : List (FuncId × Nat × Ann) := []
theorem S133 : Sat Tryz.prog gls 133 K133 :=
  Sat.congr (runF_ok (E := EC C133) (cd := D133) (n := 8) (an := anL A133) mo (con_ok _) (ConOk.nil _ _) (ConOk.nil _ _) (by rfl)) (fun x => by kernel_rfl)
/-- vmfleet/vmfleetref1.Next -/
noncomputable def G140 (x : (BitVec 64) × (Unit)) : Option ((BitVec 64) × ((BitVec 64) × (Unit))) :=
  let v1 := (xorI .u64 (add .u64 x.1 (11400714819323198485#64)) (shr .u64 (add .u64 x.1 (11400714819323198485#64)) (cnt .u64 (30#64))))
  let v2 := (xorI .u64 (mul .u64 v1 (13787848793156543929#64)) (shr .u64 (mul .u64 v1 (13787848793156543929#64)) (cnt .u64 (27#64))))
  let v3 := (xorI .u64 (mul .u64 v2 (10723151780598845931#64)) (shr .u64 (mul .u64 v2 (10723151780598845931#64)) (cnt .u64 (31#64))))
  some (v3, (add .u64 x.1 (11400714819323198485#64)), ())
noncomputable def K140 : Con := ⟨(.cons (.int .u64) .nil), (.cons (.int .u64) (.cons (.int .u64) .nil)), false, G140⟩
noncomputable def C140 : List (FuncId × Con) := []
noncomputable def D140 : List (FuncId × Con) := []
noncomputable def A140 : List (FuncId × Nat × Ann) := []
theorem S140 : Sat Tryz.prog gls 140 K140 :=
  Sat.congr (runF_ok (E := EC C140) (cd := D140) (n := 8) (an := anL A140) mo (con_ok _) (ConOk.nil _ _) (ConOk.nil _ _) (by rfl)) (fun x => by kernel_rfl)
/-- vmfleet/vmfleetmake.Mix -/
noncomputable def G73 (x : (Int) × ((Int) × (Unit))) : Option ((Int) × (Unit)) :=
  (G140 ((xorI .u64 (cv .i64 .u64 x.1) (mul .u64 (cv .i64 .u64 x.2.1) (11400714819323198485#64))), ())).bind fun r1 =>
  some ((cv .u64 .i64 (shr .u64 r1.1 (cnt .u64 (1#64)))), ())
noncomputable def K73 : Con := ⟨(.cons (.int .i64) (.cons (.int .i64) .nil)), (.cons (.int .i64) .nil), false, G73⟩
noncomputable def C73 : List (FuncId × Con) := [(140, K140)]
noncomputable def D73 : List (FuncId × Con) := []
noncomputable def A73 : List (FuncId × Nat × Ann) := []
theorem S73 : Sat Tryz.prog gls 73 K73 :=
  Sat.congr (runF_ok (E := EC C73) (cd := D73) (n := 8) (an := anL A73) mo (con_ok _) (ConOk.cons S140 <| ConOk.nil _ _) (ConOk.nil _ _) (by rfl)) (fun x => by kernel_rfl)
/-- vmfleet/vmfleetmake.Round -/
noncomputable def G16 (x : (Int) × ((Int) × (Unit))) : Option ((Int) × (Unit)) :=
  if (!isZ .i64 x.2.1) = true then
  cond (ltI .i64 (rem .i64 x.1 x.2.1) (0 : Int))
  (some ((add .i64 (rem .i64 x.1 x.2.1) x.2.1), ()))
  (some ((rem .i64 x.1 x.2.1), ()))
  else none
noncomputable def K16 : Con := ⟨(.cons (.int .i64) (.cons (.int .i64) .nil)), (.cons (.int .i64) .nil), false, G16⟩
noncomputable def C16 : List (FuncId × Con) := []
noncomputable def D16 : List (FuncId × Con) := []
noncomputable def A16 : List (FuncId × Nat × Ann) := []
theorem S16 : Sat Tryz.prog gls 16 K16 :=
  Sat.congr (runF_ok (E := EC C16) (cd := D16) (n := 8) (an := anL A16) mo (con_ok _) (ConOk.nil _ _) (ConOk.nil _ _) (by rfl)) (fun x => by kernel_rfl)
/-- vmfleet/vmfleetmake.Inst -/
noncomputable def G61 (x : (Int) × (Unit)) : Option (((Int) × ((Int) × ((Int) × ((Int) × ((BitVec 32) × (Unit)))))) × (Unit)) :=
  (G133 ()).bind fun r1 =>
  (G73 (x.1, (1 : Int), ())).bind fun r2 =>
  (G16 (r2.1, ((List.length r1.1 : Nat) : Int), ())).bind fun r3 =>
  if (inR .i64 r3.1 (List.length r1.1)) = true then
  (G16 ((shr .i64 r2.1 (cnt .u64 (8#64))), (6 : Int), ())).bind fun r4 =>
  (G16 ((shr .i64 r2.1 (cnt .u64 (12#64))), (6 : Int), ())).bind fun r5 =>
  (G16 ((shr .i64 r2.1 (cnt .u64 (16#64))), (6 : Int), ())).bind fun r6 =>
  (G16 ((shr .i64 r2.1 (cnt .u64 (20#64))), (24 : Int), ())).bind fun r7 =>
  cond (leI .i64 (List.getD r1.1 (cnt .i64 r3.1) (0 : Int)) (13 : Int))
  (some (((List.getD r1.1 (cnt .i64 r3.1) (0 : Int)), (r4.1, (r5.1, (r6.1, ((0#32), ()))))), ()))
  (jn (R := ((Int) × ((Int) × ((Int) × ((Int) × ((BitVec 32) × (Unit)))))) × (Unit)) (Z := (Bool) × (Unit))
   (cond (leI .i64 (40 : Int) (List.getD r1.1 (cnt .i64 r3.1) (0 : Int)))
    (some (Sum.inr ((leI .i64 (List.getD r1.1 (cnt .i64 r3.1) (0 : Int)) (48 : Int)), ())))
    (some (Sum.inr (false, ()))))
   fun z8 =>
   cond z8.1
   (cond (eqI .i64 (List.getD r1.1 (cnt .i64 r3.1) (0 : Int)) (48 : Int))
    (some (((List.getD r1.1 (cnt .i64 r3.1) (0 : Int)), (r4.1, ((0 : Int), ((0 : Int), ((cv .i64 .i32 (sub .i64 r7.1 (12 : Int))), ()))))), ()))
    (some (((List.getD r1.1 (cnt .i64 r3.1) (0 : Int)), (r4.1, (r5.1, ((0 : Int), ((cv .i64 .i32 (sub .i64 r7.1 (12 : Int))), ()))))), ())))
   (jn (R := ((Int) × ((Int) × ((Int) × ((Int) × ((BitVec 32) × (Unit)))))) × (Unit)) (Z := (Bool) × (Unit))
    (cond (eqI .i64 (List.getD r1.1 (cnt .i64 r3.1) (0 : Int)) (16 : Int))
     (some (Sum.inr (true, ())))
     (cond (eqI .i64 (List.getD r1.1 (cnt .i64 r3.1) (0 : Int)) (23 : Int))
      (some (Sum.inr (true, ())))
      (cond (leI .i64 (32 : Int) (List.getD r1.1 (cnt .i64 r3.1) (0 : Int)))
       (cond (leI .i64 (List.getD r1.1 (cnt .i64 r3.1) (0 : Int)) (36 : Int))
        (some (Sum.inr (true, ())))
        (some (Sum.inr ((eqI .i64 (List.getD r1.1 (cnt .i64 r3.1) (0 : Int)) (49 : Int)), ()))))
       (some (Sum.inr ((eqI .i64 (List.getD r1.1 (cnt .i64 r3.1) (0 : Int)) (49 : Int)), ()))))))
    fun z9 =>
    cond z9.1
    (some (((List.getD r1.1 (cnt .i64 r3.1) (0 : Int)), (r4.1, (r5.1, ((0 : Int), ((cv .i64 .i32 (sub .i64 (mul .i64 (8 : Int) r7.1) (32 : Int))), ()))))), ()))
    (cond (eqI .i64 (List.getD r1.1 (cnt .i64 r3.1) (0 : Int)) (24 : Int))
     (some (((List.getD r1.1 (cnt .i64 r3.1) (0 : Int)), (r4.1, ((0 : Int), ((0 : Int), ((cv .i64 .i32 (mul .i64 r7.1 (andI .i64 (shr .i64 r2.1 (cnt .u64 (40#64))) (1 : Int)))), ()))))), ()))
     (jn (R := ((Int) × ((Int) × ((Int) × ((Int) × ((BitVec 32) × (Unit)))))) × (Unit)) (Z := (Bool) × (Unit))
      (cond (leI .i64 (17 : Int) (List.getD r1.1 (cnt .i64 r3.1) (0 : Int)))
       (some (Sum.inr ((leI .i64 (List.getD r1.1 (cnt .i64 r3.1) (0 : Int)) (22 : Int)), ())))
       (some (Sum.inr (false, ()))))
      fun z10 =>
      cond z10.1
      (some (((List.getD r1.1 (cnt .i64 r3.1) (0 : Int)), (r4.1, (r5.1, ((0 : Int), ((cv .i64 .i32 r7.1), ()))))), ()))
      (cond (eqI .i64 (List.getD r1.1 (cnt .i64 r3.1) (0 : Int)) (58 : Int))
       (if (!isZ .i64 (8 : Int)) = true then
        some (((List.getD r1.1 (cnt .i64 r3.1) (0 : Int)), (r4.1, ((0 : Int), ((0 : Int), ((cv .i64 .i32 (rem .i64 r7.1 (8 : Int))), ()))))), ())
        else none)
       (cond (eqI .i64 (List.getD r1.1 (cnt .i64 r3.1) (0 : Int)) (59 : Int))
        (if (!isZ .i64 (8 : Int)) = true then
         some (((List.getD r1.1 (cnt .i64 r3.1) (0 : Int)), (r4.1, ((0 : Int), ((0 : Int), ((cv .i64 .i32 (rem .i64 r7.1 (8 : Int))), ()))))), ())
         else none)
        (cond (eqI .i64 (List.getD r1.1 (cnt .i64 r3.1) (0 : Int)) (60 : Int))
         (if (!isZ .i64 (12 : Int)) = true then
          some (((List.getD r1.1 (cnt .i64 r3.1) (0 : Int)), (r4.1, ((0 : Int), ((0 : Int), ((cv .i64 .i32 (rem .i64 r7.1 (12 : Int))), ()))))), ())
          else none)
         (cond (eqI .i64 (List.getD r1.1 (cnt .i64 r3.1) (0 : Int)) (61 : Int))
          (if (!isZ .i64 (12 : Int)) = true then
           some (((List.getD r1.1 (cnt .i64 r3.1) (0 : Int)), (r4.1, ((0 : Int), ((0 : Int), ((cv .i64 .i32 (rem .i64 r7.1 (12 : Int))), ()))))), ())
           else none)
          (some (((List.getD r1.1 (cnt .i64 r3.1) (0 : Int)), ((0 : Int), ((0 : Int), ((0 : Int), ((0#32), ()))))), ()))))))))))
  else none
noncomputable def K61 : Con := ⟨(.cons (.int .i64) .nil), (.cons (.cons (.int .i64) (.cons (.int .i64) (.cons (.int .i64) (.cons (.int .i64) (.cons (.int .i32) .nil))))) .nil), false, G61⟩
noncomputable def C61 : List (FuncId × Con) := [(16, K16), (73, K73), (133, K133)]
noncomputable def D61 : List (FuncId × Con) := [(16, K16)]
noncomputable def A61 : List (FuncId × Nat × Ann) := [(61, 0, (.nd none .nil (.nd none .nil (.nd none .nil (.nd none .nil (.nd none .nil (.nd none (.nd none (.nd none .nil (.nd none .nil (.nd (some ⟨[(.slot 37, (.dat .bool))], [37, 38, 39, 40, 41, 42, 43, 44, 45], []⟩) .nil (.nd none .nil (.nd (some ⟨[(.slot 55, (.dat .bool))], [55, 56, 57, 58, 59, 60, 61, 62, 63, 64, 65, 66, 67, 68, 69, 70, 71, 72, 73, 74, 75, 76, 77, 78], []⟩) .nil (.nd none .nil (.nd none .nil (.nd none .nil (.nd (some ⟨[(.slot 98, (.dat .bool))], [98, 99, 100, 101, 102, 103, 104, 105, 106], []⟩) .nil .nil))))))))) .nil) .nil)))))))]
theorem S61 : Sat Tryz.prog gls 61 K61 :=
  Sat.congr (runF_ok (E := EC C61) (cd := D61) (n := 8) (an := anL A61) mo (con_ok _) (ConOk.cons S16 <| ConOk.cons S73 <| ConOk.cons S133 <| ConOk.nil _ _) (ConOk.cons S16 <| ConOk.nil _ _) (by rfl)) (fun x => by kernel_rfl)
/-- vmfleet/vmfleetref1.form -/
noncomputable def G141 (x : (Int) × (Unit)) : Option ((Int) × (Unit)) :=
  jn (R := (Int) × (Unit)) (Z := (Bool) × (Unit))
  (cond (leI .i64 (1 : Int) x.1)
   (some (Sum.inr ((leI .i64 x.1 (13 : Int)), ())))
   (some (Sum.inr (false, ()))))
  fun z1 =>
  cond z1.1
  (some ((2 : Int), ()))
  (jn (R := (Int) × (Unit)) (Z := (Bool) × (Unit))
   (cond (eqI .i64 x.1 (16 : Int))
    (some (Sum.inr (true, ())))
    (cond (eqI .i64 x.1 (23 : Int))
     (some (Sum.inr (true, ())))
     (cond (leI .i64 (32 : Int) x.1)
      (cond (leI .i64 x.1 (36 : Int))
       (some (Sum.inr (true, ())))
       (cond (leI .i64 (40 : Int) x.1)
        (cond (leI .i64 x.1 (45 : Int))
         (some (Sum.inr (true, ())))
         (some (Sum.inr ((eqI .i64 x.1 (49 : Int)), ()))))
        (some (Sum.inr ((eqI .i64 x.1 (49 : Int)), ())))))
      (cond (leI .i64 (40 : Int) x.1)
       (cond (leI .i64 x.1 (45 : Int))
        (some (Sum.inr (true, ())))
        (some (Sum.inr ((eqI .i64 x.1 (49 : Int)), ()))))
       (some (Sum.inr ((eqI .i64 x.1 (49 : Int)), ())))))))
   fun z2 =>
   cond z2.1
   (some ((3 : Int), ()))
   (jn (R := (Int) × (Unit)) (Z := (Bool) × (Unit))
    (cond (leI .i64 (17 : Int) x.1)
     (some (Sum.inr ((leI .i64 x.1 (19 : Int)), ())))
     (some (Sum.inr (false, ()))))
    fun z3 =>
    cond z3.1
    (some ((4 : Int), ()))
    (jn (R := (Int) × (Unit)) (Z := (Bool) × (Unit))
     (cond (leI .i64 (20 : Int) x.1)
      (some (Sum.inr ((leI .i64 x.1 (22 : Int)), ())))
      (some (Sum.inr (false, ()))))
     fun z4 =>
     cond z4.1
     (some ((5 : Int), ()))
     (cond (eqI .i64 x.1 (24 : Int))
      (some ((6 : Int), ()))
      (cond (eqI .i64 x.1 (48 : Int))
       (some ((7 : Int), ()))
       (cond (eqI .i64 x.1 (58 : Int))
        (some ((8 : Int), ()))
        (cond (eqI .i64 x.1 (59 : Int))
         (some ((8 : Int), ()))
         (cond (eqI .i64 x.1 (60 : Int))
          (some ((9 : Int), ()))
          (cond (eqI .i64 x.1 (61 : Int))
           (some ((9 : Int), ()))
           (cond (eqI .i64 x.1 (56 : Int))
            (some ((1 : Int), ()))
            (cond (eqI .i64 x.1 (57 : Int))
             (some ((1 : Int), ()))
             (cond (leI .i64 (62 : Int) x.1)
              (cond (leI .i64 x.1 (64 : Int))
               (some ((1 : Int), ()))
               (some ((0 : Int), ())))
              (some ((0 : Int), ()))))))))))))))
noncomputable def K141 : Con := ⟨(.cons (.int .i64) .nil), (.cons (.int .i64) .nil), false, G141⟩
noncomputable def C141 : List (FuncId × Con) := []
noncomputable def D141 : List (FuncId × Con) := []
noncomputable def A141 : List (FuncId × Nat × Ann) := [(141, 0, (.nd none .nil (.nd none (.nd none (.nd (some ⟨[(.slot 3, (.dat .bool))], [3, 4, 5, 6, 7, 8, 9], []⟩) .nil (.nd none .nil (.nd (some ⟨[(.slot 10, (.dat .bool))], [10, 11, 12, 13, 14, 15, 16, 17, 18, 19, 20, 21, 22, 23, 24, 25, 26, 27, 28, 29, 30, 31, 32, 33, 34, 35, 36], []⟩) .nil (.nd none .nil (.nd (some ⟨[(.slot 37, (.dat .bool))], [37, 38, 39, 40, 41, 42, 43], []⟩) .nil (.nd none .nil (.nd (some ⟨[(.slot 44, (.dat .bool))], [44, 45, 46, 47, 48, 49, 50], []⟩) .nil .nil))))))) .nil) .nil)))]
theorem S141 : Sat Tryz.prog gls 141 K141 :=
  Sat.congr (runF_ok (E := EC C141) (cd := D141) (n := 8) (an := anL A141) mo (con_ok _) (ConOk.nil _ _) (ConOk.nil _ _) (by rfl)) (fun x => by kernel_rfl)
/-- vmfleet/vmfleetref1.register -/
noncomputable def G142 (x : (Int) × (Unit)) : Option ((Bool) × (Unit)) :=
  cond (leI .i64 (0 : Int) x.1)
  (some ((leI .i64 x.1 (15 : Int)), ()))
  (some (false, ()))
noncomputable def K142 : Con := ⟨(.cons (.int .i64) .nil), (.cons .bool .nil), false, G142⟩
noncomputable def C142 : List (FuncId × Con) := []
noncomputable def D142 : List (FuncId × Con) := []
noncomputable def A142 : List (FuncId × Nat × Ann) := []
theorem S142 : Sat Tryz.prog gls 142 K142 :=
  Sat.congr (runF_ok (E := EC C142) (cd := D142) (n := 8) (an := anL A142) mo (con_ok _) (ConOk.nil _ _) (ConOk.nil _ _) (by rfl)) (fun x => by kernel_rfl)
/-- vmfleet/vmfleetref1.bounds -/
noncomputable def G143 (x : (Int) × (Unit)) : Option ((Int) × ((Int) × (Unit))) :=
  cond (eqI .i64 x.1 (3 : Int))
  (some ((-32768 : Int), (32767 : Int), ()))
  (cond (eqI .i64 x.1 (7 : Int))
   (some ((-32768 : Int), (32767 : Int), ()))
   (cond (eqI .i64 x.1 (4 : Int))
    (some ((0 : Int), (65535 : Int), ()))
    (cond (eqI .i64 x.1 (6 : Int))
     (some ((0 : Int), (65535 : Int), ()))
     (cond (eqI .i64 x.1 (5 : Int))
      (some ((0 : Int), (31 : Int), ()))
      (cond (eqI .i64 x.1 (8 : Int))
       (some ((0 : Int), (7 : Int), ()))
       (cond (eqI .i64 x.1 (9 : Int))
        (some ((0 : Int), (11 : Int), ()))
        (some ((0 : Int), (0 : Int), ()))))))))
noncomputable def K143 : Con := ⟨(.cons (.int .i64) .nil), (.cons (.int .i64) (.cons (.int .i64) .nil)), false, G143⟩
noncomputable def C143 : List (FuncId × Con) := []
noncomputable def D143 : List (FuncId × Con) := []
noncomputable def A143 : List (FuncId × Nat × Ann) := []
theorem S143 : Sat Tryz.prog gls 143 K143 :=
  Sat.congr (runF_ok (E := EC C143) (cd := D143) (n := 8) (an := anL A143) mo (con_ok _) (ConOk.nil _ _) (ConOk.nil _ _) (by rfl)) (fun x => by kernel_rfl)
/-- vmfleet/vmfleetref1.Valid -/
noncomputable def G75 (x : ((Int) × ((Int) × ((Int) × ((Int) × ((BitVec 32) × (Unit)))))) × (Unit)) : Option ((Bool) × (Unit)) :=
  (G141 (x.1.1, ())).bind fun r1 =>
  cond (eqI .i64 r1.1 (0 : Int))
  (some (false, ()))
  ((G142 (x.1.2.1, ())).bind fun r2 =>
   cond (!r2.1)
   (some (false, ()))
   ((G142 (x.1.2.2.1, ())).bind fun r3 =>
    cond (!r3.1)
    (some (false, ()))
    ((G142 (x.1.2.2.2.1, ())).bind fun r4 =>
     cond (!r4.1)
     (some (false, ()))
     ((G143 (r1.1, ())).bind fun r5 =>
      jn (R := (Bool) × (Unit)) (Z := Unit)
      (cond (ltI .i64 (cv .i32 .i64 x.1.2.2.2.2.1) r5.1)
       (some (Sum.inl (false, ())))
       (cond (ltI .i64 r5.2.1 (cv .i32 .i64 x.1.2.2.2.2.1))
        (some (Sum.inl (false, ())))
        (cond (!eqI .i64 r1.1 (2 : Int))
         (cond (!eqI .i64 x.1.2.2.2.1 (0 : Int))
          (some (Sum.inl (false, ())))
          (cond (eqI .i64 r1.1 (1 : Int))
           (cond (!eqI .i64 x.1.2.1 (0 : Int))
            (some (Sum.inl (false, ())))
            (some (Sum.inr ())))
           (some (Sum.inr ()))))
         (cond (eqI .i64 r1.1 (1 : Int))
          (cond (!eqI .i64 x.1.2.1 (0 : Int))
           (some (Sum.inl (false, ())))
           (some (Sum.inr ())))
          (some (Sum.inr ()))))))
      fun z6 =>
      cond (eqI .i64 x.1.2.2.1 (0 : Int))
      (some (true, ()))
      (cond (leI .i64 (2 : Int) r1.1)
       (some ((leI .i64 r1.1 (5 : Int)), ()))
       (some (false, ())))))))
noncomputable def K75 : Con := ⟨(.cons (.cons (.int .i64) (.cons (.int .i64) (.cons (.int .i64) (.cons (.int .i64) (.cons (.int .i32) .nil))))) .nil), (.cons .bool .nil), false, G75⟩
noncomputable def C75 : List (FuncId × Con) := [(141, K141), (142, K142), (143, K143)]
noncomputable def D75 : List (FuncId × Con) := []
noncomputable def A75 : List (FuncId × Nat × Ann) := [(75, 0, (.nd none .nil (.nd none .nil (.nd none .nil (.nd none .nil (.nd (some ⟨[], [34, 35, 36, 37, 38, 39, 40, 41, 42, 43, 44, 45, 46, 47, 48, 49, 50, 51, 52, 53, 54, 55, 56, 57, 58, 59, 60, 61, 62, 63], []⟩) .nil .nil))))))]
theorem S75 : Sat Tryz.prog gls 75 K75 :=
  Sat.congr (runF_ok (E := EC C75) (cd := D75) (n := 8) (an := anL A75) mo (con_ok _) (ConOk.cons S141 <| ConOk.cons S142 <| ConOk.cons S143 <| ConOk.nil _ _) (ConOk.nil _ _) (by rfl)) (fun x => by kernel_rfl)
/-- vmfleet/vmfleetref1.Encode -/
noncomputable def G27 (x : ((Int) × ((Int) × ((Int) × ((Int) × ((BitVec 32) × (Unit)))))) × (Unit)) : Option ((BitVec 32) × ((Bool) × (Unit))) :=
  (G75 (x.1, ())).bind fun r1 =>
  cond (!r1.1)
  (some ((0#32), false, ()))
  (let v2 := (orI .u32 (shl .u32 (cv .i64 .u32 x.1.1) (cnt .u64 (24#64))) (shl .u32 (cv .i64 .u32 x.1.2.1) (cnt .u64 (20#64))))
   let v3 := (orI .u32 (orI .u32 v2 (shl .u32 (cv .i64 .u32 x.1.2.2.1) (cnt .u64 (16#64)))) (andI .u32 (cv .i32 .u32 x.1.2.2.2.2.1) (65535#32)))
   some ((orI .u32 v3 (cv .i64 .u32 x.1.2.2.2.1)), true, ()))
noncomputable def K27 : Con := ⟨(.cons (.cons (.int .i64) (.cons (.int .i64) (.cons (.int .i64) (.cons (.int .i64) (.cons (.int .i32) .nil))))) .nil), (.cons (.int .u32) (.cons .bool .nil)), false, G27⟩
noncomputable def C27 : List (FuncId × Con) := [(75, K75)]
noncomputable def D27 : List (FuncId × Con) := []
noncomputable def A27 : List (FuncId × Nat × Ann) := []
theorem S27 : Sat Tryz.prog gls 27 K27 :=
  Sat.congr (runF_ok (E := EC C27) (cd := D27) (n := 8) (an := anL A27) mo (con_ok _) (ConOk.cons S75 <| ConOk.nil _ _) (ConOk.nil _ _) (by rfl)) (fun x => by kernel_rfl)
/-- vmfleet/vmfleetmake.Code -/
noncomputable def G15 (x : (List (Int)) × (Unit)) : Option ((List (BitVec 32)) × (Unit)) :=
  loopT (R := (List (BitVec 32)) × (Unit)) (X := (List (BitVec 32)) × ((Int) × (Unit))) (fun z1 =>
   cond (ltI .i64 z1.2.1 ((List.length x.1 : Nat) : Int))
   (if (inR .i64 z1.2.1 (List.length x.1)) = true then
    if (!isZ .i64 (17 : Int)) = true then
    cond (eqI .i64 (rem .i64 (List.getD x.1 (cnt .i64 z1.2.1) (0 : Int)) (17 : Int)) (0 : Int))
    (if (inR .i64 z1.2.1 (List.length x.1)) = true then
     if (room ((List.length z1.1 + List.length [(cv .i64 .u32 (andI .i64 (List.getD x.1 (cnt .i64 z1.2.1) (0 : Int)) (4294967295 : Int)))]) * 4) && room (List.length z1.1 + List.length [(cv .i64 .u32 (andI .i64 (List.getD x.1 (cnt .i64 z1.2.1) (0 : Int)) (4294967295 : Int)))]) && true) = true then
     some (Sum.inr ((z1.1 ++ [(cv .i64 .u32 (andI .i64 (List.getD x.1 (cnt .i64 z1.2.1) (0 : Int)) (4294967295 : Int)))]), (add .i64 z1.2.1 (1 : Int)), ()))
     else none
     else none)
    (if (inR .i64 z1.2.1 (List.length x.1)) = true then
     (G61 ((List.getD x.1 (cnt .i64 z1.2.1) (0 : Int)), ())).bind fun r2 =>
     (G27 (r2.1, ())).bind fun r3 =>
     if (room ((List.length z1.1 + List.length [r3.1]) * 4) && room (List.length z1.1 + List.length [r3.1]) && true) = true then
     some (Sum.inr ((z1.1 ++ [r3.1]), (add .i64 z1.2.1 (1 : Int)), ()))
     else none
     else none)
    else none
    else none)
   (some (Sum.inl (z1.1, ()))))
  (([] : List (BitVec 32)), (0 : Int), ())
noncomputable def K15 : Con := ⟨(.cons (.sl (.int .i64)) .nil), (.cons (.sl (.int .u32)) .nil), false, G15⟩
noncomputable def C15 : List (FuncId × Con) := [(27, K27), (61, K61)]
noncomputable def D15 : List (FuncId × Con) := []
noncomputable def A15 : List (FuncId × Nat × Ann) := [(15, 0, (.nd none .nil (.nd none .nil (.nd none (.nd none .nil (.nd none (.nd (some ⟨[(.slot 3, (.row 27 (.int .u32))), (.slot 4, (.dat (.int .i64)))], [3, 4, 5, 6, 7, 8, 9, 10, 11, 12, 13, 14, 15, 16, 17, 18, 19, 20, 21, 22, 23, 24, 25, 26, 27, 28, 29, 30, 31, 32, 33, 34, 35, 36, 37, 38, 39, 40], []⟩) .nil .nil) .nil)) .nil))))]
theorem S15 : Sat Tryz.prog gls 15 K15 :=
  Sat.congr (runF_ok (E := EC C15) (cd := D15) (n := 8) (an := anL A15) mo (con_ok _) (ConOk.cons S27 <| ConOk.cons S61 <| ConOk.nil _ _) (ConOk.nil _ _) (by rfl)) (fun x => by kernel_rfl)
/-- vmfleet/cpu.Reset -/
noncomputable def G62 (x : (BitVec 32) × (Unit)) : Option (((List (BitVec 32)) × ((BitVec 32) × ((List (BitVec 32)) × (Unit)))) × (Unit)) :=
  if (inR .i64 (0 : Int) 8) = true then
  some (((dflt (.arr 16 (.int .u32))), (x.1, ((List.set (dflt (.arr 8 (.int .u32))) (cnt .i64 (0 : Int)) (1#32)), ()))), ())
  else none
noncomputable def K62 : Con := ⟨(.cons (.int .u32) .nil), (.cons (.cons (.arr 16 (.int .u32)) (.cons (.int .u32) (.cons (.arr 8 (.int .u32)) .nil))) .nil), false, G62⟩
noncomputable def C62 : List (FuncId × Con) := []
noncomputable def D62 : List (FuncId × Con) := []
noncomputable def A62 : List (FuncId × Nat × Ann) := []
theorem S62 : Sat Tryz.prog gls 62 K62 :=
  Sat.congr (runF_ok (E := EC C62) (cd := D62) (n := 8) (an := anL A62) mo (con_ok _) (ConOk.nil _ _) (ConOk.nil _ _) (by rfl)) (fun x => by kernel_rfl)
/-- vmfleet/machine.New -/
noncomputable def G18 (x : (Int) × ((Int) × ((List (BitVec 32)) × (Unit)))) : Option ((((List (BitVec 32)) × ((BitVec 32) × ((List (BitVec 32)) × (Unit)))) × ((List (BitVec 32)) × (((List (BitVec 8)) × (Unit)) × (((Bool) × ((BitVec 32) × ((Bool) × (Unit)))) × (((BitVec 32) × ((BitVec 32) × ((BitVec 32) × ((Int) × ((Int) × ((BitVec 32) × ((BitVec 32) × ((List (BitVec 8)) × (Unit))))))))) × (((BitVec 32) × ((BitVec 32) × ((Bool) × ((BitVec 32) × ((Bool) × ((BitVec 32) × (Unit))))))) × (((BitVec 32) × ((BitVec 32) × (Unit))) × ((BitVec 64) × ((Bool) × ((Bool) × (Unit))))))))))) × ((Int) × (Unit))) :=
  cond (ltI .i64 x.1 (1 : Int))
  (some ((((dflt (.arr 16 (.int .u32))), ((0#32), ((dflt (.arr 8 (.int .u32))), ()))), (([] : List (BitVec 32)), (((dflt .str), ()), ((false, ((0#32), (false, ()))), (((0#32), ((0#32), ((0#32), ((0 : Int), ((0 : Int), ((0#32), ((0#32), ((dflt .str), ())))))))), (((0#32), ((0#32), (false, ((0#32), (false, ((0#32), ())))))), (((0#32), ((0#32), ())), ((0#64), (false, (false, ())))))))))), (1200 : Int), ()))
  (cond (ltI .i64 (32 : Int) x.1)
   (some ((((dflt (.arr 16 (.int .u32))), ((0#32), ((dflt (.arr 8 (.int .u32))), ()))), (([] : List (BitVec 32)), (((dflt .str), ()), ((false, ((0#32), (false, ()))), (((0#32), ((0#32), ((0#32), ((0 : Int), ((0 : Int), ((0#32), ((0#32), ((dflt .str), ())))))))), (((0#32), ((0#32), (false, ((0#32), (false, ((0#32), ())))))), (((0#32), ((0#32), ())), ((0#64), (false, (false, ())))))))))), (1200 : Int), ()))
   (cond (ltI .i64 x.2.1 (0 : Int))
    (some ((((dflt (.arr 16 (.int .u32))), ((0#32), ((dflt (.arr 8 (.int .u32))), ()))), (([] : List (BitVec 32)), (((dflt .str), ()), ((false, ((0#32), (false, ()))), (((0#32), ((0#32), ((0#32), ((0 : Int), ((0 : Int), ((0#32), ((0#32), ((dflt .str), ())))))))), (((0#32), ((0#32), (false, ((0#32), (false, ((0#32), ())))))), (((0#32), ((0#32), ())), ((0#64), (false, (false, ())))))))))), (1200 : Int), ()))
    (cond (ltI .i64 (64 : Int) x.2.1)
     (some ((((dflt (.arr 16 (.int .u32))), ((0#32), ((dflt (.arr 8 (.int .u32))), ()))), (([] : List (BitVec 32)), (((dflt .str), ()), ((false, ((0#32), (false, ()))), (((0#32), ((0#32), ((0#32), ((0 : Int), ((0 : Int), ((0#32), ((0#32), ((dflt .str), ())))))))), (((0#32), ((0#32), (false, ((0#32), (false, ((0#32), ())))))), (((0#32), ((0#32), ())), ((0#64), (false, (false, ())))))))))), (1200 : Int), ()))
     (cond (ltI .i64 (mul .i64 x.1 (32 : Int)) ((List.length x.2.2.1 : Nat) : Int))
      (some ((((dflt (.arr 16 (.int .u32))), ((0#32), ((dflt (.arr 8 (.int .u32))), ()))), (([] : List (BitVec 32)), (((dflt .str), ()), ((false, ((0#32), (false, ()))), (((0#32), ((0#32), ((0#32), ((0 : Int), ((0 : Int), ((0#32), ((0#32), ((dflt .str), ())))))))), (((0#32), ((0#32), (false, ((0#32), (false, ((0#32), ())))))), (((0#32), ((0#32), ())), ((0#64), (false, (false, ())))))))))), (1200 : Int), ()))
      ((G62 ((0#32), ())).bind fun r1 =>
       cond (ltI .i64 x.1 (1 : Int))
       (some ((r1.1, (([] : List (BitVec 32)), (((dflt .str), ()), ((false, ((0#32), (false, ()))), (((cv .i64 .u32 x.2.1), ((0#32), ((0#32), ((0 : Int), ((0 : Int), ((0#32), ((0#32), ((dflt .str), ())))))))), (((0#32), ((0#32), (false, ((0#32), (false, ((0#32), ())))))), (((0#32), ((0#32), ())), ((0#64), (false, (false, ())))))))))), (0 : Int), ()))
       (cond (ltI .i64 (32 : Int) x.1)
        (some ((r1.1, (([] : List (BitVec 32)), (((dflt .str), ()), ((false, ((0#32), (false, ()))), (((cv .i64 .u32 x.2.1), ((0#32), ((0#32), ((0 : Int), ((0 : Int), ((0#32), ((0#32), ((dflt .str), ())))))))), (((0#32), ((0#32), (false, ((0#32), (false, ((0#32), ())))))), (((0#32), ((0#32), ())), ((0#64), (false, (false, ())))))))))), (0 : Int), ()))
        (if (decide (0 ≤ toI .i64 (mul .i64 x.1 (32 : Int))) && decide (toI .i64 (mul .i64 x.1 (32 : Int)) ≤ toI .i64 (mul .i64 x.1 (32 : Int))) && room ((toI .i64 (mul .i64 x.1 (32 : Int))).toNat * 4) && decide (toI .i64 (mul .i64 x.1 (32 : Int)) ≤ 140737488355328) && true) = true then
         let v2 := ((min (List.length x.2.2.1) (List.length (List.replicate (cnt .i64 (mul .i64 x.1 (32 : Int))) (0#32))) : Nat) : Int)
         some ((r1.1, ((List.take (List.length (List.replicate (cnt .i64 (mul .i64 x.1 (32 : Int))) (0#32))) x.2.2.1 ++ List.drop (List.length x.2.2.1) (List.replicate (cnt .i64 (mul .i64 x.1 (32 : Int))) (0#32))), (((dflt .str), ()), ((false, ((0#32), (false, ()))), (((cv .i64 .u32 x.2.1), ((0#32), ((0#32), ((0 : Int), ((0 : Int), ((0#32), ((0#32), ((dflt .str), ())))))))), (((0#32), ((0#32), (false, ((0#32), (false, ((0#32), ())))))), (((0#32), ((0#32), ())), ((0#64), (false, (false, ())))))))))), (0 : Int), ())
         else none)))))))
noncomputable def K18 : Con := ⟨(.cons (.int .i64) (.cons (.int .i64) (.cons (.sl (.int .u32)) .nil))), (.cons (.cons (.cons (.arr 16 (.int .u32)) (.cons (.int .u32) (.cons (.arr 8 (.int .u32)) .nil))) (.cons (.sl (.int .u32)) (.cons (.cons .str .nil) (.cons (.cons .bool (.cons (.int .u32) (.cons .bool .nil))) (.cons (.cons (.int .u32) (.cons (.int .u32) (.cons (.int .u32) (.cons (.int .i64) (.cons (.int .i64) (.cons (.int .u32) (.cons (.int .u32) (.cons .str .nil)))))))) (.cons (.cons (.int .u32) (.cons (.int .u32) (.cons .bool (.cons (.int .u32) (.cons .bool (.cons (.int .u32) .nil)))))) (.cons (.cons (.int .u32) (.cons (.int .u32) .nil)) (.cons (.int .u64) (.cons .bool (.cons .bool .nil)))))))))) (.cons (.int .i64) .nil)), false, G18⟩
noncomputable def C18 : List (FuncId × Con) := [(62, K62)]
noncomputable def D18 : List (FuncId × Con) := []
noncomputable def A18 : List (FuncId × Nat × Ann) := []
theorem S18 : Sat Tryz.prog gls 18 K18 :=
  Sat.congr (runF_ok (E := EC C18) (cd := D18) (n := 8) (an := anL A18) mo (con_ok _) (ConOk.cons S62 <| ConOk.nil _ _) (ConOk.nil _ _) (by rfl)) (fun x => by kernel_rfl)
/-- vmfleet/memory.Pages -/
noncomputable def G51 (x : (List (BitVec 32)) × (Unit)) : Option ((Int) × (Unit)) :=
  if (!isZ .i64 (32 : Int)) = true then
  cond (!eqI .i64 (rem .i64 ((List.length x.1 : Nat) : Int) (32 : Int)) (0 : Int))
  (some ((0 : Int), ()))
  (cond (ltI .i64 (1024 : Int) ((List.length x.1 : Nat) : Int))
   (some ((0 : Int), ()))
   (if (!isZ .i64 (32 : Int)) = true then
    some ((quo .i64 ((List.length x.1 : Nat) : Int) (32 : Int)), ())
    else none))
  else none
noncomputable def K51 : Con := ⟨(.cons (.sl (.int .u32)) .nil), (.cons (.int .i64) .nil), false, G51⟩
noncomputable def C51 : List (FuncId × Con) := []
noncomputable def D51 : List (FuncId × Con) := []
noncomputable def A51 : List (FuncId × Nat × Ann) := []
theorem S51 : Sat Tryz.prog gls 51 K51 :=
  Sat.congr (runF_ok (E := EC C51) (cd := D51) (n := 8) (an := anL A51) mo (con_ok _) (ConOk.nil _ _) (ConOk.nil _ _) (by rfl)) (fun x => by kernel_rfl)
/-- vmfleet/console.May -/
noncomputable def G65 (x : ((List (BitVec 8)) × (Unit)) × (Unit)) : Option ((Bool) × (Unit)) :=
  some ((leI .i64 ((List.length x.1.1 : Nat) : Int) (16 : Int)), ())
noncomputable def K65 : Con := ⟨(.cons (.cons .str .nil) .nil), (.cons .bool .nil), false, G65⟩
noncomputable def C65 : List (FuncId × Con) := []
noncomputable def D65 : List (FuncId × Con) := []
noncomputable def A65 : List (FuncId × Nat × Ann) := []
theorem S65 : Sat Tryz.prog gls 65 K65 :=
  Sat.congr (runF_ok (E := EC C65) (cd := D65) (n := 8) (an := anL A65) mo (con_ok _) (ConOk.nil _ _) (ConOk.nil _ _) (by rfl)) (fun x => by kernel_rfl)
/-- vmfleet/timer.May -/
noncomputable def G66 (x : ((Bool) × ((BitVec 32) × ((Bool) × (Unit)))) × (Unit)) : Option ((Bool) × (Unit)) :=
  cond x.1.1
  (cond (!x.1.2.2.1)
   (some ((!eqI .u32 x.1.2.1 (0#32)), ()))
   (some (false, ())))
  (cond x.1.2.2.1
   (some (true, ()))
   (some ((eqI .u32 x.1.2.1 (0#32)), ())))
noncomputable def K66 : Con := ⟨(.cons (.cons .bool (.cons (.int .u32) (.cons .bool .nil))) .nil), (.cons .bool .nil), false, G66⟩
noncomputable def C66 : List (FuncId × Con) := []
noncomputable def D66 : List (FuncId × Con) := []
noncomputable def A66 : List (FuncId × Nat × Ann) := []
theorem S66 : Sat Tryz.prog gls 66 K66 :=
  Sat.congr (runF_ok (E := EC C66) (cd := D66) (n := 8) (an := anL A66) mo (con_ok _) (ConOk.nil _ _) (ConOk.nil _ _) (by rfl)) (fun x => by kernel_rfl)
/-- vmfleet/disk.May -/
noncomputable def G67 (x : ((BitVec 32) × ((BitVec 32) × ((BitVec 32) × ((Int) × ((Int) × ((BitVec 32) × ((BitVec 32) × ((List (BitVec 8)) × (Unit))))))))) × ((Int) × (Unit))) : Option ((Bool) × (Unit)) :=
  cond (ltI .u32 (64#32) x.1.1)
  (some (false, ()))
  (cond (ltI .i64 x.1.2.2.2.1 (0 : Int))
   (some (false, ()))
   (cond (ltI .i64 (3 : Int) x.1.2.2.2.1)
    (some (false, ()))
    (cond (!eqI .i64 x.1.2.2.2.1 (1 : Int))
     (cond (eqI .i64 x.1.2.2.2.2.1 (0 : Int))
      (cond (eqI .u32 x.1.2.2.2.2.2.1 (0#32))
       (cond (eqI .u32 x.1.2.2.2.2.2.2.1 (0#32))
        (some ((decide (x.1.2.2.2.2.2.2.2.1 = ([] : List (BitVec 8)))), ()))
        (some (false, ())))
       (some (false, ())))
      (some (false, ())))
     (cond (leI .u32 x.1.1 x.1.2.2.2.2.2.1)
      (some (false, ()))
      (cond (leI .i64 x.2.1 (cv .u32 .i64 x.1.2.2.2.2.2.2.1))
       (some (false, ()))
       (cond (eqI .i64 x.1.2.2.2.2.1 (1 : Int))
        (cond (decide (x.1.2.2.2.2.2.2.2.1 = ([] : List (BitVec 8))))
         (some (true, ()))
         (cond (eqI .i64 x.1.2.2.2.2.1 (2 : Int))
          (some ((eqI .i64 ((List.length x.1.2.2.2.2.2.2.2.1 : Nat) : Int) (128 : Int)), ()))
          (some (false, ()))))
        (cond (eqI .i64 x.1.2.2.2.2.1 (2 : Int))
         (some ((eqI .i64 ((List.length x.1.2.2.2.2.2.2.2.1 : Nat) : Int) (128 : Int)), ()))
         (some (false, ())))))))))
noncomputable def K67 : Con := ⟨(.cons (.cons (.int .u32) (.cons (.int .u32) (.cons (.int .u32) (.cons (.int .i64) (.cons (.int .i64) (.cons (.int .u32) (.cons (.int .u32) (.cons .str .nil)))))))) (.cons (.int .i64) .nil)), (.cons .bool .nil), false, G67⟩
noncomputable def C67 : List (FuncId × Con) := []
noncomputable def D67 : List (FuncId × Con) := []
noncomputable def A67 : List (FuncId × Nat × Ann) := []
theorem S67 : Sat Tryz.prog gls 67 K67 :=
  Sat.congr (runF_ok (E := EC C67) (cd := D67) (n := 8) (an := anL A67) mo (con_ok _) (ConOk.nil _ _) (ConOk.nil _ _) (by rfl)) (fun x => by kernel_rfl)
/-- vmfleet/nic.May -/
noncomputable def G68 (x : ((BitVec 32) × ((BitVec 32) × ((Bool) × ((BitVec 32) × ((Bool) × ((BitVec 32) × (Unit))))))) × ((Int) × (Unit))) : Option ((Bool) × (Unit)) :=
  jn (R := (Bool) × (Unit)) (Z := Unit)
  (cond x.1.2.2.1
   (cond x.1.2.2.2.2.1
    (some (Sum.inl (false, ())))
    (some (Sum.inr ())))
   (some (Sum.inr ())))
  fun z1 =>
  jn (R := (Bool) × (Unit)) (Z := (Bool) × (Unit))
  (cond x.1.2.2.1
   (some (Sum.inr ((ltI .i64 (cv .u32 .i64 x.1.2.2.2.1) x.2.1), ())))
   (some (Sum.inr ((eqI .u32 x.1.2.2.2.1 (0#32)), ()))))
  fun z2 =>
  cond x.1.2.2.2.2.1
  (cond (leI .u32 (1#32) x.1.2.2.2.2.2.1)
   (cond z2.1
    (some ((leI .u32 x.1.2.2.2.2.2.1 (128#32)), ()))
    (some (false, ())))
   (cond z2.1
    (some (false, ()))
    (some (false, ()))))
  (cond z2.1
   (some ((eqI .u32 x.1.2.2.2.2.2.1 (0#32)), ()))
   (some (false, ())))
noncomputable def K68 : Con := ⟨(.cons (.cons (.int .u32) (.cons (.int .u32) (.cons .bool (.cons (.int .u32) (.cons .bool (.cons (.int .u32) .nil)))))) (.cons (.int .i64) .nil)), (.cons .bool .nil), false, G68⟩
noncomputable def C68 : List (FuncId × Con) := []
noncomputable def D68 : List (FuncId × Con) := []
noncomputable def A68 : List (FuncId × Nat × Ann) := [(68, 0, (.nd none .nil (.nd (some ⟨[], [7, 8, 9, 10, 11, 12], []⟩) .nil (.nd none .nil (.nd (some ⟨[(.slot 5, (.dat .bool))], [5, 19, 20, 21, 22, 23, 24, 25], []⟩) .nil .nil)))))]
theorem S68 : Sat Tryz.prog gls 68 K68 :=
  Sat.congr (runF_ok (E := EC C68) (cd := D68) (n := 8) (an := anL A68) mo (con_ok _) (ConOk.nil _ _) (ConOk.nil _ _) (by rfl)) (fun x => by kernel_rfl)
/-- vmfleet/balloon.May -/
noncomputable def G69 (x : ((BitVec 32) × ((BitVec 32) × (Unit))) × ((Int) × (Unit))) : Option ((Bool) × (Unit)) :=
  cond (ltI .i64 x.2.1 (0 : Int))
  (cond (leI .i64 (32 : Int) (0 : Int))
   (some (true, ()))
   (if (cntOk .i64 (0 : Int)) = true then
    some ((eqI .u32 (shr .u32 x.1.2.1 (cnt .i64 (0 : Int))) (0#32)), ())
    else none))
  (cond (leI .i64 (32 : Int) x.2.1)
   (some (true, ()))
   (if (cntOk .i64 x.2.1) = true then
    some ((eqI .u32 (shr .u32 x.1.2.1 (cnt .i64 x.2.1)) (0#32)), ())
    else none))
noncomputable def K69 : Con := ⟨(.cons (.cons (.int .u32) (.cons (.int .u32) .nil)) (.cons (.int .i64) .nil)), (.cons .bool .nil), false, G69⟩
noncomputable def C69 : List (FuncId × Con) := []
noncomputable def D69 : List (FuncId × Con) := []
noncomputable def A69 : List (FuncId × Nat × Ann) := []
theorem S69 : Sat Tryz.prog gls 69 K69 :=
  Sat.congr (runF_ok (E := EC C69) (cd := D69) (n := 8) (an := anL A69) mo (con_ok _) (ConOk.nil _ _) (ConOk.nil _ _) (by rfl)) (fun x => by kernel_rfl)
/-- vmfleet/machine.May -/
noncomputable def G21 (x : (((List (BitVec 32)) × ((BitVec 32) × ((List (BitVec 32)) × (Unit)))) × ((List (BitVec 32)) × (((List (BitVec 8)) × (Unit)) × (((Bool) × ((BitVec 32) × ((Bool) × (Unit)))) × (((BitVec 32) × ((BitVec 32) × ((BitVec 32) × ((Int) × ((Int) × ((BitVec 32) × ((BitVec 32) × ((List (BitVec 8)) × (Unit))))))))) × (((BitVec 32) × ((BitVec 32) × ((Bool) × ((BitVec 32) × ((Bool) × ((BitVec 32) × (Unit))))))) × (((BitVec 32) × ((BitVec 32) × (Unit))) × ((BitVec 64) × ((Bool) × ((Bool) × (Unit))))))))))) × (Unit)) : Option ((Bool) × (Unit)) :=
  (G51 (x.1.2.1, ())).bind fun r1 =>
  cond (ltI .i64 (0 : Int) r1.1)
  (if (inR .i64 (0 : Int) 16) = true then
   cond (eqI .u32 (List.getD x.1.1.1 (cnt .i64 (0 : Int)) (0#32)) (0#32))
   (if (inR .i64 (0 : Int) 8) = true then
    cond (leI .u32 (List.getD x.1.1.2.2.1 (cnt .i64 (0 : Int)) (0#32)) (31#32))
    (if (inR .i64 (7 : Int) 8) = true then
     cond (leI .u32 (List.getD x.1.1.2.2.1 (cnt .i64 (7 : Int)) (0#32)) (31#32))
     (if (inR .i64 (6 : Int) 8) = true then
      cond (leI .u32 (List.getD x.1.1.2.2.1 (cnt .i64 (6 : Int)) (0#32)) (255#32))
      (if (inR .i64 (1 : Int) 8) = true then
       if (!isZ .u32 (4#32)) = true then
       cond (eqI .u32 (rem .u32 (List.getD x.1.1.2.2.1 (cnt .i64 (1 : Int)) (0#32)) (4#32)) (0#32))
       ((G65 (x.1.2.2.1, ())).bind fun r2 =>
        cond r2.1
        ((G66 (x.1.2.2.2.1, ())).bind fun r3 =>
         cond r3.1
         ((G67 (x.1.2.2.2.2.1, r1.1, ())).bind fun r4 =>
          cond r4.1
          ((G68 (x.1.2.2.2.2.2.1, r1.1, ())).bind fun r5 =>
           cond r5.1
           ((G69 (x.1.2.2.2.2.2.2.1, r1.1, ())).bind fun r6 =>
            cond r6.1
            (cond (leI .u64 x.1.2.2.2.2.2.2.2.1 (1152921504606846976#64))
             (cond x.1.2.2.2.2.2.2.2.2.1
              (some ((!x.1.2.2.2.2.2.2.2.2.2.1), ()))
              (some (true, ())))
             (some (false, ())))
            (some (false, ())))
           (some (false, ())))
          (some (false, ())))
         (some (false, ())))
        (some (false, ())))
       (some (false, ()))
       else none
       else none)
      (some (false, ()))
      else none)
     (some (false, ()))
     else none)
    (some (false, ()))
    else none)
   (some (false, ()))
   else none)
  (some (false, ()))
noncomputable def K21 : Con := ⟨(.cons (.cons (.cons (.arr 16 (.int .u32)) (.cons (.int .u32) (.cons (.arr 8 (.int .u32)) .nil))) (.cons (.sl (.int .u32)) (.cons (.cons .str .nil) (.cons (.cons .bool (.cons (.int .u32) (.cons .bool .nil))) (.cons (.cons (.int .u32) (.cons (.int .u32) (.cons (.int .u32) (.cons (.int .i64) (.cons (.int .i64) (.cons (.int .u32) (.cons (.int .u32) (.cons .str .nil)))))))) (.cons (.cons (.int .u32) (.cons (.int .u32) (.cons .bool (.cons (.int .u32) (.cons .bool (.cons (.int .u32) .nil)))))) (.cons (.cons (.int .u32) (.cons (.int .u32) .nil)) (.cons (.int .u64) (.cons .bool (.cons .bool .nil)))))))))) .nil), (.cons .bool .nil), false, G21⟩
noncomputable def C21 : List (FuncId × Con) := [(51, K51), (65, K65), (66, K66), (67, K67), (68, K68), (69, K69)]
noncomputable def D21 : List (FuncId × Con) := []
noncomputable def A21 : List (FuncId × Nat × Ann) := []
theorem S21 : Sat Tryz.prog gls 21 K21 :=
  Sat.congr (runF_ok (E := EC C21) (cd := D21) (n := 8) (an := anL A21) mo (con_ok _) (ConOk.cons S51 <| ConOk.cons S65 <| ConOk.cons S66 <| ConOk.cons S67 <| ConOk.cons S68 <| ConOk.cons S69 <| ConOk.nil _ _) (ConOk.nil _ _) (by rfl)) (fun x => by kernel_rfl)
/-- vmfleet/timer.Pending -/
noncomputable def G76 (x : ((Bool) × ((BitVec 32) × ((Bool) × (Unit)))) × (Unit)) : Option ((Bool) × (Unit)) :=
  some (x.1.2.2.1, ())
noncomputable def K76 : Con := ⟨(.cons (.cons .bool (.cons (.int .u32) (.cons .bool .nil))) .nil), (.cons .bool .nil), false, G76⟩
noncomputable def C76 : List (FuncId × Con) := []
noncomputable def D76 : List (FuncId × Con) := []
noncomputable def A76 : List (FuncId × Nat × Ann) := []
theorem S76 : Sat Tryz.prog gls 76 K76 :=
  Sat.congr (runF_ok (E := EC C76) (cd := D76) (n := 8) (an := anL A76) mo (con_ok _) (ConOk.nil _ _) (ConOk.nil _ _) (by rfl)) (fun x => by kernel_rfl)
/-- vmfleet/console.Pending -/
noncomputable def G77 (x : ((List (BitVec 8)) × (Unit)) × (Unit)) : Option ((Bool) × (Unit)) :=
  some ((!(decide (x.1.1 = ([] : List (BitVec 8))))), ())
noncomputable def K77 : Con := ⟨(.cons (.cons .str .nil) .nil), (.cons .bool .nil), false, G77⟩
noncomputable def C77 : List (FuncId × Con) := []
noncomputable def D77 : List (FuncId × Con) := []
noncomputable def A77 : List (FuncId × Nat × Ann) := []
theorem S77 : Sat Tryz.prog gls 77 K77 :=
  Sat.congr (runF_ok (E := EC C77) (cd := D77) (n := 8) (an := anL A77) mo (con_ok _) (ConOk.nil _ _) (ConOk.nil _ _) (by rfl)) (fun x => by kernel_rfl)
/-- vmfleet/disk.Pending -/
noncomputable def G78 (x : ((BitVec 32) × ((BitVec 32) × ((BitVec 32) × ((Int) × ((Int) × ((BitVec 32) × ((BitVec 32) × ((List (BitVec 8)) × (Unit))))))))) × (Unit)) : Option ((Bool) × (Unit)) :=
  cond (eqI .i64 x.1.2.2.2.1 (2 : Int))
  (some (true, ()))
  (some ((eqI .i64 x.1.2.2.2.1 (3 : Int)), ()))
noncomputable def K78 : Con := ⟨(.cons (.cons (.int .u32) (.cons (.int .u32) (.cons (.int .u32) (.cons (.int .i64) (.cons (.int .i64) (.cons (.int .u32) (.cons (.int .u32) (.cons .str .nil)))))))) .nil), (.cons .bool .nil), false, G78⟩
noncomputable def C78 : List (FuncId × Con) := []
noncomputable def D78 : List (FuncId × Con) := []
noncomputable def A78 : List (FuncId × Nat × Ann) := []
theorem S78 : Sat Tryz.prog gls 78 K78 :=
  Sat.congr (runF_ok (E := EC C78) (cd := D78) (n := 8) (an := anL A78) mo (con_ok _) (ConOk.nil _ _) (ConOk.nil _ _) (by rfl)) (fun x => by kernel_rfl)
/-- vmfleet/nic.Pending -/
noncomputable def G79 (x : ((BitVec 32) × ((BitVec 32) × ((Bool) × ((BitVec 32) × ((Bool) × ((BitVec 32) × (Unit))))))) × (Unit)) : Option ((Bool) × (Unit)) :=
  some (x.1.2.2.2.2.1, ())
noncomputable def K79 : Con := ⟨(.cons (.cons (.int .u32) (.cons (.int .u32) (.cons .bool (.cons (.int .u32) (.cons .bool (.cons (.int .u32) .nil)))))) .nil), (.cons .bool .nil), false, G79⟩
noncomputable def C79 : List (FuncId × Con) := []
noncomputable def D79 : List (FuncId × Con) := []
noncomputable def A79 : List (FuncId × Nat × Ann) := []
theorem S79 : Sat Tryz.prog gls 79 K79 :=
  Sat.congr (runF_ok (E := EC C79) (cd := D79) (n := 8) (an := anL A79) mo (con_ok _) (ConOk.nil _ _) (ConOk.nil _ _) (by rfl)) (fun x => by kernel_rfl)
/-- math/bits.OnesCount32 -/
noncomputable def G175 (x : (BitVec 32) × (Unit)) : Option ((Int) × (Unit)) :=
  if (inR .u32 (shr .u32 x.1 (cnt .u64 (24#64))) (List.length [0#8, 1#8, 1#8, 2#8, 1#8, 2#8, 2#8, 3#8, 1#8, 2#8, 2#8, 3#8, 2#8, 3#8, 3#8, 4#8, 1#8, 2#8, 2#8, 3#8, 2#8, 3#8, 3#8, 4#8, 2#8, 3#8, 3#8, 4#8, 3#8, 4#8, 4#8, 5#8, 1#8, 2#8, 2#8, 3#8, 2#8, 3#8, 3#8, 4#8, 2#8, 3#8, 3#8, 4#8, 3#8, 4#8, 4#8, 5#8, 2#8, 3#8, 3#8, 4#8, 3#8, 4#8, 4#8, 5#8, 3#8, 4#8, 4#8, 5#8, 4#8, 5#8, 5#8, 6#8, 1#8, 2#8, 2#8, 3#8, 2#8, 3#8, 3#8, 4#8, 2#8, 3#8, 3#8, 4#8, 3#8, 4#8, 4#8, 5#8, 2#8, 3#8, 3#8, 4#8, 3#8, 4#8, 4#8, 5#8, 3#8, 4#8, 4#8, 5#8, 4#8, 5#8, 5#8, 6#8, 2#8, 3#8, 3#8, 4#8, 3#8, 4#8, 4#8, 5#8, 3#8, 4#8, 4#8, 5#8, 4#8, 5#8, 5#8, 6#8, 3#8, 4#8, 4#8, 5#8, 4#8, 5#8, 5#8, 6#8, 4#8, 5#8, 5#8, 6#8, 5#8, 6#8, 6#8, 7#8, 1#8, 2#8, 2#8, 3#8, 2#8, 3#8, 3#8, 4#8, 2#8, 3#8, 3#8, 4#8, 3#8, 4#8, 4#8, 5#8, 2#8, 3#8, 3#8, 4#8, 3#8, 4#8, 4#8, 5#8, 3#8, 4#8, 4#8, 5#8, 4#8, 5#8, 5#8, 6#8, 2#8, 3#8, 3#8, 4#8, 3#8, 4#8, 4#8, 5#8, 3#8, 4#8, 4#8, 5#8, 4#8, 5#8, 5#8, 6#8, 3#8, 4#8, 4#8, 5#8, 4#8, 5#8, 5#8, 6#8, 4#8, 5#8, 5#8, 6#8, 5#8, 6#8, 6#8, 7#8, 2#8, 3#8, 3#8, 4#8, 3#8, 4#8, 4#8, 5#8, 3#8, 4#8, 4#8, 5#8, 4#8, 5#8, 5#8, 6#8, 3#8, 4#8, 4#8, 5#8, 4#8, 5#8, 5#8, 6#8, 4#8, 5#8, 5#8, 6#8, 5#8, 6#8, 6#8, 7#8, 3#8, 4#8, 4#8, 5#8, 4#8, 5#8, 5#8, 6#8, 4#8, 5#8, 5#8, 6#8, 5#8, 6#8, 6#8, 7#8, 4#8, 5#8, 5#8, 6#8, 5#8, 6#8, 6#8, 7#8, 5#8, 6#8, 6#8, 7#8, 6#8, 7#8, 7#8, 8#8])) = true then
  let v1 := (List.getD [0#8, 1#8, 1#8, 2#8, 1#8, 2#8, 2#8, 3#8, 1#8, 2#8, 2#8, 3#8, 2#8, 3#8, 3#8, 4#8, 1#8, 2#8, 2#8, 3#8, 2#8, 3#8, 3#8, 4#8, 2#8, 3#8, 3#8, 4#8, 3#8, 4#8, 4#8, 5#8, 1#8, 2#8, 2#8, 3#8, 2#8, 3#8, 3#8, 4#8, 2#8, 3#8, 3#8, 4#8, 3#8, 4#8, 4#8, 5#8, 2#8, 3#8, 3#8, 4#8, 3#8, 4#8, 4#8, 5#8, 3#8, 4#8, 4#8, 5#8, 4#8, 5#8, 5#8, 6#8, 1#8, 2#8, 2#8, 3#8, 2#8, 3#8, 3#8, 4#8, 2#8, 3#8, 3#8, 4#8, 3#8, 4#8, 4#8, 5#8, 2#8, 3#8, 3#8, 4#8, 3#8, 4#8, 4#8, 5#8, 3#8, 4#8, 4#8, 5#8, 4#8, 5#8, 5#8, 6#8, 2#8, 3#8, 3#8, 4#8, 3#8, 4#8, 4#8, 5#8, 3#8, 4#8, 4#8, 5#8, 4#8, 5#8, 5#8, 6#8, 3#8, 4#8, 4#8, 5#8, 4#8, 5#8, 5#8, 6#8, 4#8, 5#8, 5#8, 6#8, 5#8, 6#8, 6#8, 7#8, 1#8, 2#8, 2#8, 3#8, 2#8, 3#8, 3#8, 4#8, 2#8, 3#8, 3#8, 4#8, 3#8, 4#8, 4#8, 5#8, 2#8, 3#8, 3#8, 4#8, 3#8, 4#8, 4#8, 5#8, 3#8, 4#8, 4#8, 5#8, 4#8, 5#8, 5#8, 6#8, 2#8, 3#8, 3#8, 4#8, 3#8, 4#8, 4#8, 5#8, 3#8, 4#8, 4#8, 5#8, 4#8, 5#8, 5#8, 6#8, 3#8, 4#8, 4#8, 5#8, 4#8, 5#8, 5#8, 6#8, 4#8, 5#8, 5#8, 6#8, 5#8, 6#8, 6#8, 7#8, 2#8, 3#8, 3#8, 4#8, 3#8, 4#8, 4#8, 5#8, 3#8, 4#8, 4#8, 5#8, 4#8, 5#8, 5#8, 6#8, 3#8, 4#8, 4#8, 5#8, 4#8, 5#8, 5#8, 6#8, 4#8, 5#8, 5#8, 6#8, 5#8, 6#8, 6#8, 7#8, 3#8, 4#8, 4#8, 5#8, 4#8, 5#8, 5#8, 6#8, 4#8, 5#8, 5#8, 6#8, 5#8, 6#8, 6#8, 7#8, 4#8, 5#8, 5#8, 6#8, 5#8, 6#8, 6#8, 7#8, 5#8, 6#8, 6#8, 7#8, 6#8, 7#8, 7#8, 8#8] (cnt .u32 (shr .u32 x.1 (cnt .u64 (24#64)))) 0)
  if (inR .u32 (andI .u32 (shr .u32 x.1 (cnt .u64 (16#64))) (255#32)) (List.length [0#8, 1#8, 1#8, 2#8, 1#8, 2#8, 2#8, 3#8, 1#8, 2#8, 2#8, 3#8, 2#8, 3#8, 3#8, 4#8, 1#8, 2#8, 2#8, 3#8, 2#8, 3#8, 3#8, 4#8, 2#8, 3#8, 3#8, 4#8, 3#8, 4#8, 4#8, 5#8, 1#8, 2#8, 2#8, 3#8, 2#8, 3#8, 3#8, 4#8, 2#8, 3#8, 3#8, 4#8, 3#8, 4#8, 4#8, 5#8, 2#8, 3#8, 3#8, 4#8, 3#8, 4#8, 4#8, 5#8, 3#8, 4#8, 4#8, 5#8, 4#8, 5#8, 5#8, 6#8, 1#8, 2#8, 2#8, 3#8, 2#8, 3#8, 3#8, 4#8, 2#8, 3#8, 3#8, 4#8, 3#8, 4#8, 4#8, 5#8, 2#8, 3#8, 3#8, 4#8, 3#8, 4#8, 4#8, 5#8, 3#8, 4#8, 4#8, 5#8, 4#8, 5#8, 5#8, 6#8, 2#8, 3#8, 3#8, 4#8, 3#8, 4#8, 4#8, 5#8, 3#8, 4#8, 4#8, 5#8, 4#8, 5#8, 5#8, 6#8, 3#8, 4#8, 4#8, 5#8, 4#8, 5#8, 5#8, 6#8, 4#8, 5#8, 5#8, 6#8, 5#8, 6#8, 6#8, 7#8, 1#8, 2#8, 2#8, 3#8, 2#8, 3#8, 3#8, 4#8, 2#8, 3#8, 3#8, 4#8, 3#8, 4#8, 4#8, 5#8, 2#8, 3#8, 3#8, 4#8, 3#8, 4#8, 4#8, 5#8, 3#8, 4#8, 4#8, 5#8, 4#8, 5#8, 5#8, 6#8, 2#8, 3#8, 3#8, 4#8, 3#8, 4#8, 4#8, 5#8, 3#8, 4#8, 4#8, 5#8, 4#8, 5#8, 5#8, 6#8, 3#8, 4#8, 4#8, 5#8, 4#8, 5#8, 5#8, 6#8, 4#8, 5#8, 5#8, 6#8, 5#8, 6#8, 6#8, 7#8, 2#8, 3#8, 3#8, 4#8, 3#8, 4#8, 4#8, 5#8, 3#8, 4#8, 4#8, 5#8, 4#8, 5#8, 5#8, 6#8, 3#8, 4#8, 4#8, 5#8, 4#8, 5#8, 5#8, 6#8, 4#8, 5#8, 5#8, 6#8, 5#8, 6#8, 6#8, 7#8, 3#8, 4#8, 4#8, 5#8, 4#8, 5#8, 5#8, 6#8, 4#8, 5#8, 5#8, 6#8, 5#8, 6#8, 6#8, 7#8, 4#8, 5#8, 5#8, 6#8, 5#8, 6#8, 6#8, 7#8, 5#8, 6#8, 6#8, 7#8, 6#8, 7#8, 7#8, 8#8])) = true then
  let v2 := (List.getD [0#8, 1#8, 1#8, 2#8, 1#8, 2#8, 2#8, 3#8, 1#8, 2#8, 2#8, 3#8, 2#8, 3#8, 3#8, 4#8, 1#8, 2#8, 2#8, 3#8, 2#8, 3#8, 3#8, 4#8, 2#8, 3#8, 3#8, 4#8, 3#8, 4#8, 4#8, 5#8, 1#8, 2#8, 2#8, 3#8, 2#8, 3#8, 3#8, 4#8, 2#8, 3#8, 3#8, 4#8, 3#8, 4#8, 4#8, 5#8, 2#8, 3#8, 3#8, 4#8, 3#8, 4#8, 4#8, 5#8, 3#8, 4#8, 4#8, 5#8, 4#8, 5#8, 5#8, 6#8, 1#8, 2#8, 2#8, 3#8, 2#8, 3#8, 3#8, 4#8, 2#8, 3#8, 3#8, 4#8, 3#8, 4#8, 4#8, 5#8, 2#8, 3#8, 3#8, 4#8, 3#8, 4#8, 4#8, 5#8, 3#8, 4#8, 4#8, 5#8, 4#8, 5#8, 5#8, 6#8, 2#8, 3#8, 3#8, 4#8, 3#8, 4#8, 4#8, 5#8, 3#8, 4#8, 4#8, 5#8, 4#8, 5#8, 5#8, 6#8, 3#8, 4#8, 4#8, 5#8, 4#8, 5#8, 5#8, 6#8, 4#8, 5#8, 5#8, 6#8, 5#8, 6#8, 6#8, 7#8, 1#8, 2#8, 2#8, 3#8, 2#8, 3#8, 3#8, 4#8, 2#8, 3#8, 3#8, 4#8, 3#8, 4#8, 4#8, 5#8, 2#8, 3#8, 3#8, 4#8, 3#8, 4#8, 4#8, 5#8, 3#8, 4#8, 4#8, 5#8, 4#8, 5#8, 5#8, 6#8, 2#8, 3#8, 3#8, 4#8, 3#8, 4#8, 4#8, 5#8, 3#8, 4#8, 4#8, 5#8, 4#8, 5#8, 5#8, 6#8, 3#8, 4#8, 4#8, 5#8, 4#8, 5#8, 5#8, 6#8, 4#8, 5#8, 5#8, 6#8, 5#8, 6#8, 6#8, 7#8, 2#8, 3#8, 3#8, 4#8, 3#8, 4#8, 4#8, 5#8, 3#8, 4#8, 4#8, 5#8, 4#8, 5#8, 5#8, 6#8, 3#8, 4#8, 4#8, 5#8, 4#8, 5#8, 5#8, 6#8, 4#8, 5#8, 5#8, 6#8, 5#8, 6#8, 6#8, 7#8, 3#8, 4#8, 4#8, 5#8, 4#8, 5#8, 5#8, 6#8, 4#8, 5#8, 5#8, 6#8, 5#8, 6#8, 6#8, 7#8, 4#8, 5#8, 5#8, 6#8, 5#8, 6#8, 6#8, 7#8, 5#8, 6#8, 6#8, 7#8, 6#8, 7#8, 7#8, 8#8] (cnt .u32 (andI .u32 (shr .u32 x.1 (cnt .u64 (16#64))) (255#32))) 0)
  if (inR .u32 (andI .u32 (shr .u32 x.1 (cnt .u64 (8#64))) (255#32)) (List.length [0#8, 1#8, 1#8, 2#8, 1#8, 2#8, 2#8, 3#8, 1#8, 2#8, 2#8, 3#8, 2#8, 3#8, 3#8, 4#8, 1#8, 2#8, 2#8, 3#8, 2#8, 3#8, 3#8, 4#8, 2#8, 3#8, 3#8, 4#8, 3#8, 4#8, 4#8, 5#8, 1#8, 2#8, 2#8, 3#8, 2#8, 3#8, 3#8, 4#8, 2#8, 3#8, 3#8, 4#8, 3#8, 4#8, 4#8, 5#8, 2#8, 3#8, 3#8, 4#8, 3#8, 4#8, 4#8, 5#8, 3#8, 4#8, 4#8, 5#8, 4#8, 5#8, 5#8, 6#8, 1#8, 2#8, 2#8, 3#8, 2#8, 3#8, 3#8, 4#8, 2#8, 3#8, 3#8, 4#8, 3#8, 4#8, 4#8, 5#8, 2#8, 3#8, 3#8, 4#8, 3#8, 4#8, 4#8, 5#8, 3#8, 4#8, 4#8, 5#8, 4#8, 5#8, 5#8, 6#8, 2#8, 3#8, 3#8, 4#8, 3#8, 4#8, 4#8, 5#8, 3#8, 4#8, 4#8, 5#8, 4#8, 5#8, 5#8, 6#8, 3#8, 4#8, 4#8, 5#8, 4#8, 5#8, 5#8, 6#8, 4#8, 5#8, 5#8, 6#8, 5#8, 6#8, 6#8, 7#8, 1#8, 2#8, 2#8, 3#8, 2#8, 3#8, 3#8, 4#8, 2#8, 3#8, 3#8, 4#8, 3#8, 4#8, 4#8, 5#8, 2#8, 3#8, 3#8, 4#8, 3#8, 4#8, 4#8, 5#8, 3#8, 4#8, 4#8, 5#8, 4#8, 5#8, 5#8, 6#8, 2#8, 3#8, 3#8, 4#8, 3#8, 4#8, 4#8, 5#8, 3#8, 4#8, 4#8, 5#8, 4#8, 5#8, 5#8, 6#8, 3#8, 4#8, 4#8, 5#8, 4#8, 5#8, 5#8, 6#8, 4#8, 5#8, 5#8, 6#8, 5#8, 6#8, 6#8, 7#8, 2#8, 3#8, 3#8, 4#8, 3#8, 4#8, 4#8, 5#8, 3#8, 4#8, 4#8, 5#8, 4#8, 5#8, 5#8, 6#8, 3#8, 4#8, 4#8, 5#8, 4#8, 5#8, 5#8, 6#8, 4#8, 5#8, 5#8, 6#8, 5#8, 6#8, 6#8, 7#8, 3#8, 4#8, 4#8, 5#8, 4#8, 5#8, 5#8, 6#8, 4#8, 5#8, 5#8, 6#8, 5#8, 6#8, 6#8, 7#8, 4#8, 5#8, 5#8, 6#8, 5#8, 6#8, 6#8, 7#8, 5#8, 6#8, 6#8, 7#8, 6#8, 7#8, 7#8, 8#8])) = true then
  let v3 := (List.getD [0#8, 1#8, 1#8, 2#8, 1#8, 2#8, 2#8, 3#8, 1#8, 2#8, 2#8, 3#8, 2#8, 3#8, 3#8, 4#8, 1#8, 2#8, 2#8, 3#8, 2#8, 3#8, 3#8, 4#8, 2#8, 3#8, 3#8, 4#8, 3#8, 4#8, 4#8, 5#8, 1#8, 2#8, 2#8, 3#8, 2#8, 3#8, 3#8, 4#8, 2#8, 3#8, 3#8, 4#8, 3#8, 4#8, 4#8, 5#8, 2#8, 3#8, 3#8, 4#8, 3#8, 4#8, 4#8, 5#8, 3#8, 4#8, 4#8, 5#8, 4#8, 5#8, 5#8, 6#8, 1#8, 2#8, 2#8, 3#8, 2#8, 3#8, 3#8, 4#8, 2#8, 3#8, 3#8, 4#8, 3#8, 4#8, 4#8, 5#8, 2#8, 3#8, 3#8, 4#8, 3#8, 4#8, 4#8, 5#8, 3#8, 4#8, 4#8, 5#8, 4#8, 5#8, 5#8, 6#8, 2#8, 3#8, 3#8, 4#8, 3#8, 4#8, 4#8, 5#8, 3#8, 4#8, 4#8, 5#8, 4#8, 5#8, 5#8, 6#8, 3#8, 4#8, 4#8, 5#8, 4#8, 5#8, 5#8, 6#8, 4#8, 5#8, 5#8, 6#8, 5#8, 6#8, 6#8, 7#8, 1#8, 2#8, 2#8, 3#8, 2#8, 3#8, 3#8, 4#8, 2#8, 3#8, 3#8, 4#8, 3#8, 4#8, 4#8, 5#8, 2#8, 3#8, 3#8, 4#8, 3#8, 4#8, 4#8, 5#8, 3#8, 4#8, 4#8, 5#8, 4#8, 5#8, 5#8, 6#8, 2#8, 3#8, 3#8, 4#8, 3#8, 4#8, 4#8, 5#8, 3#8, 4#8, 4#8, 5#8, 4#8, 5#8, 5#8, 6#8, 3#8, 4#8, 4#8, 5#8, 4#8, 5#8, 5#8, 6#8, 4#8, 5#8, 5#8, 6#8, 5#8, 6#8, 6#8, 7#8, 2#8, 3#8, 3#8, 4#8, 3#8, 4#8, 4#8, 5#8, 3#8, 4#8, 4#8, 5#8, 4#8, 5#8, 5#8, 6#8, 3#8, 4#8, 4#8, 5#8, 4#8, 5#8, 5#8, 6#8, 4#8, 5#8, 5#8, 6#8, 5#8, 6#8, 6#8, 7#8, 3#8, 4#8, 4#8, 5#8, 4#8, 5#8, 5#8, 6#8, 4#8, 5#8, 5#8, 6#8, 5#8, 6#8, 6#8, 7#8, 4#8, 5#8, 5#8, 6#8, 5#8, 6#8, 6#8, 7#8, 5#8, 6#8, 6#8, 7#8, 6#8, 7#8, 7#8, 8#8] (cnt .u32 (andI .u32 (shr .u32 x.1 (cnt .u64 (8#64))) (255#32))) 0)
  if (inR .u32 (andI .u32 x.1 (255#32)) (List.length [0#8, 1#8, 1#8, 2#8, 1#8, 2#8, 2#8, 3#8, 1#8, 2#8, 2#8, 3#8, 2#8, 3#8, 3#8, 4#8, 1#8, 2#8, 2#8, 3#8, 2#8, 3#8, 3#8, 4#8, 2#8, 3#8, 3#8, 4#8, 3#8, 4#8, 4#8, 5#8, 1#8, 2#8, 2#8, 3#8, 2#8, 3#8, 3#8, 4#8, 2#8, 3#8, 3#8, 4#8, 3#8, 4#8, 4#8, 5#8, 2#8, 3#8, 3#8, 4#8, 3#8, 4#8, 4#8, 5#8, 3#8, 4#8, 4#8, 5#8, 4#8, 5#8, 5#8, 6#8, 1#8, 2#8, 2#8, 3#8, 2#8, 3#8, 3#8, 4#8, 2#8, 3#8, 3#8, 4#8, 3#8, 4#8, 4#8, 5#8, 2#8, 3#8, 3#8, 4#8, 3#8, 4#8, 4#8, 5#8, 3#8, 4#8, 4#8, 5#8, 4#8, 5#8, 5#8, 6#8, 2#8, 3#8, 3#8, 4#8, 3#8, 4#8, 4#8, 5#8, 3#8, 4#8, 4#8, 5#8, 4#8, 5#8, 5#8, 6#8, 3#8, 4#8, 4#8, 5#8, 4#8, 5#8, 5#8, 6#8, 4#8, 5#8, 5#8, 6#8, 5#8, 6#8, 6#8, 7#8, 1#8, 2#8, 2#8, 3#8, 2#8, 3#8, 3#8, 4#8, 2#8, 3#8, 3#8, 4#8, 3#8, 4#8, 4#8, 5#8, 2#8, 3#8, 3#8, 4#8, 3#8, 4#8, 4#8, 5#8, 3#8, 4#8, 4#8, 5#8, 4#8, 5#8, 5#8, 6#8, 2#8, 3#8, 3#8, 4#8, 3#8, 4#8, 4#8, 5#8, 3#8, 4#8, 4#8, 5#8, 4#8, 5#8, 5#8, 6#8, 3#8, 4#8, 4#8, 5#8, 4#8, 5#8, 5#8, 6#8, 4#8, 5#8, 5#8, 6#8, 5#8, 6#8, 6#8, 7#8, 2#8, 3#8, 3#8, 4#8, 3#8, 4#8, 4#8, 5#8, 3#8, 4#8, 4#8, 5#8, 4#8, 5#8, 5#8, 6#8, 3#8, 4#8, 4#8, 5#8, 4#8, 5#8, 5#8, 6#8, 4#8, 5#8, 5#8, 6#8, 5#8, 6#8, 6#8, 7#8, 3#8, 4#8, 4#8, 5#8, 4#8, 5#8, 5#8, 6#8, 4#8, 5#8, 5#8, 6#8, 5#8, 6#8, 6#8, 7#8, 4#8, 5#8, 5#8, 6#8, 5#8, 6#8, 6#8, 7#8, 5#8, 6#8, 6#8, 7#8, 6#8, 7#8, 7#8, 8#8])) = true then
  let v4 := (List.getD [0#8, 1#8, 1#8, 2#8, 1#8, 2#8, 2#8, 3#8, 1#8, 2#8, 2#8, 3#8, 2#8, 3#8, 3#8, 4#8, 1#8, 2#8, 2#8, 3#8, 2#8, 3#8, 3#8, 4#8, 2#8, 3#8, 3#8, 4#8, 3#8, 4#8, 4#8, 5#8, 1#8, 2#8, 2#8, 3#8, 2#8, 3#8, 3#8, 4#8, 2#8, 3#8, 3#8, 4#8, 3#8, 4#8, 4#8, 5#8, 2#8, 3#8, 3#8, 4#8, 3#8, 4#8, 4#8, 5#8, 3#8, 4#8, 4#8, 5#8, 4#8, 5#8, 5#8, 6#8, 1#8, 2#8, 2#8, 3#8, 2#8, 3#8, 3#8, 4#8, 2#8, 3#8, 3#8, 4#8, 3#8, 4#8, 4#8, 5#8, 2#8, 3#8, 3#8, 4#8, 3#8, 4#8, 4#8, 5#8, 3#8, 4#8, 4#8, 5#8, 4#8, 5#8, 5#8, 6#8, 2#8, 3#8, 3#8, 4#8, 3#8, 4#8, 4#8, 5#8, 3#8, 4#8, 4#8, 5#8, 4#8, 5#8, 5#8, 6#8, 3#8, 4#8, 4#8, 5#8, 4#8, 5#8, 5#8, 6#8, 4#8, 5#8, 5#8, 6#8, 5#8, 6#8, 6#8, 7#8, 1#8, 2#8, 2#8, 3#8, 2#8, 3#8, 3#8, 4#8, 2#8, 3#8, 3#8, 4#8, 3#8, 4#8, 4#8, 5#8, 2#8, 3#8, 3#8, 4#8, 3#8, 4#8, 4#8, 5#8, 3#8, 4#8, 4#8, 5#8, 4#8, 5#8, 5#8, 6#8, 2#8, 3#8, 3#8, 4#8, 3#8, 4#8, 4#8, 5#8, 3#8, 4#8, 4#8, 5#8, 4#8, 5#8, 5#8, 6#8, 3#8, 4#8, 4#8, 5#8, 4#8, 5#8, 5#8, 6#8, 4#8, 5#8, 5#8, 6#8, 5#8, 6#8, 6#8, 7#8, 2#8, 3#8, 3#8, 4#8, 3#8, 4#8, 4#8, 5#8, 3#8, 4#8, 4#8, 5#8, 4#8, 5#8, 5#8, 6#8, 3#8, 4#8, 4#8, 5#8, 4#8, 5#8, 5#8, 6#8, 4#8, 5#8, 5#8, 6#8, 5#8, 6#8, 6#8, 7#8, 3#8, 4#8, 4#8, 5#8, 4#8, 5#8, 5#8, 6#8, 4#8, 5#8, 5#8, 6#8, 5#8, 6#8, 6#8, 7#8, 4#8, 5#8, 5#8, 6#8, 5#8, 6#8, 6#8, 7#8, 5#8, 6#8, 6#8, 7#8, 6#8, 7#8, 7#8, 8#8] (cnt .u32 (andI .u32 x.1 (255#32))) 0)
  some ((cv .u8 .i64 (add .u8 (add .u8 (add .u8 v1 v2) v3) v4)), ())
  else none
  else none
  else none
  else none
noncomputable def K175 : Con := ⟨(.cons (.int .u32) .nil), (.cons (.int .i64) .nil), false, G175⟩
noncomputable def C175 : List (FuncId × Con) := []
noncomputable def D175 : List (FuncId × Con) := []
noncomputable def A175 : List (FuncId × Nat × Ann) := []
theorem S175 : Sat Tryz.prog gls 175 K175 :=
  Sat.congr (runF_ok (E := EC C175) (cd := D175) (n := 8) (an := anL A175) mo (con_ok _) (ConOk.nil _ _) (ConOk.nil _ _) (by rfl)) (fun x => by kernel_rfl)
/-- vmfleet/balloon.Count -/
noncomputable def G144 (x : ((BitVec 32) × ((BitVec 32) × (Unit))) × (Unit)) : Option ((Int) × (Unit)) :=
  (G175 (x.1.2.1, ())).bind fun r1 =>
  some (r1.1, ())
noncomputable def K144 : Con := ⟨(.cons (.cons (.int .u32) (.cons (.int .u32) .nil)) .nil), (.cons (.int .i64) .nil), false, G144⟩
noncomputable def C144 : List (FuncId × Con) := [(175, K175)]
noncomputable def D144 : List (FuncId × Con) := []
noncomputable def A144 : List (FuncId × Nat × Ann) := []
theorem S144 : Sat Tryz.prog gls 144 K144 :=
  Sat.congr (runF_ok (E := EC C144) (cd := D144) (n := 8) (an := anL A144) mo (con_ok _) (ConOk.cons S175 <| ConOk.nil _ _) (ConOk.nil _ _) (by rfl)) (fun x => by kernel_rfl)
/-- vmfleet/balloon.Pending -/
noncomputable def G80 (x : ((BitVec 32) × ((BitVec 32) × (Unit))) × (Unit)) : Option ((Bool) × (Unit)) :=
  (G144 (x.1, ())).bind fun r1 =>
  some ((!eqI .u32 (cv .i64 .u32 r1.1) x.1.1), ())
noncomputable def K80 : Con := ⟨(.cons (.cons (.int .u32) (.cons (.int .u32) .nil)) .nil), (.cons .bool .nil), false, G80⟩
noncomputable def C80 : List (FuncId × Con) := []
noncomputable def D80 : List (FuncId × Con) := [(144, K144)]
noncomputable def A80 : List (FuncId × Nat × Ann) := []
theorem S80 : Sat Tryz.prog gls 80 K80 :=
  Sat.congr (runF_ok (E := EC C80) (cd := D80) (n := 8) (an := anL A80) mo (con_ok _) (ConOk.nil _ _) (ConOk.cons S144 <| ConOk.nil _ _) (by rfl)) (fun x => by kernel_rfl)
/-- vmfleet/machine.Lines -/
noncomputable def G28 (x : (((List (BitVec 32)) × ((BitVec 32) × ((List (BitVec 32)) × (Unit)))) × ((List (BitVec 32)) × (((List (BitVec 8)) × (Unit)) × (((Bool) × ((BitVec 32) × ((Bool) × (Unit)))) × (((BitVec 32) × ((BitVec 32) × ((BitVec 32) × ((Int) × ((Int) × ((BitVec 32) × ((BitVec 32) × ((List (BitVec 8)) × (Unit))))))))) × (((BitVec 32) × ((BitVec 32) × ((Bool) × ((BitVec 32) × ((Bool) × ((BitVec 32) × (Unit))))))) × (((BitVec 32) × ((BitVec 32) × (Unit))) × ((BitVec 64) × ((Bool) × ((Bool) × (Unit))))))))))) × (Unit)) : Option ((BitVec 32) × (Unit)) :=
  (G76 (x.1.2.2.2.1, ())).bind fun r1 =>
  (G77 (x.1.2.2.1, ())).bind fun r2 =>
  (G78 (x.1.2.2.2.2.1, ())).bind fun r3 =>
  (G79 (x.1.2.2.2.2.2.1, ())).bind fun r4 =>
  (G80 (x.1.2.2.2.2.2.2.1, ())).bind fun r5 =>
  loopT (R := (BitVec 32) × (Unit)) (X := (BitVec 32) × ((Int) × (Unit))) (fun z6 =>
   cond (ltI .i64 z6.2.1 (5 : Int))
   (if (inR .i64 z6.2.1 5) = true then
    cond (List.getD [r1.1, r2.1, r3.1, r4.1, r5.1] (cnt .i64 z6.2.1) false)
    (if (cntOk .i64 z6.2.1) = true then
     some (Sum.inr ((orI .u32 z6.1 (shl .u32 (1#32) (cnt .i64 z6.2.1))), (add .i64 z6.2.1 (1 : Int)), ()))
     else none)
    (some (Sum.inr (z6.1, (add .i64 z6.2.1 (1 : Int)), ())))
    else none)
   (some (Sum.inl (z6.1, ()))))
  ((0#32), (0 : Int), ())
noncomputable def K28 : Con := ⟨(.cons (.cons (.cons (.arr 16 (.int .u32)) (.cons (.int .u32) (.cons (.arr 8 (.int .u32)) .nil))) (.cons (.sl (.int .u32)) (.cons (.cons .str .nil) (.cons (.cons .bool (.cons (.int .u32) (.cons .bool .nil))) (.cons (.cons (.int .u32) (.cons (.int .u32) (.cons (.int .u32) (.cons (.int .i64) (.cons (.int .i64) (.cons (.int .u32) (.cons (.int .u32) (.cons .str .nil)))))))) (.cons (.cons (.int .u32) (.cons (.int .u32) (.cons .bool (.cons (.int .u32) (.cons .bool (.cons (.int .u32) .nil)))))) (.cons (.cons (.int .u32) (.cons (.int .u32) .nil)) (.cons (.int .u64) (.cons .bool (.cons .bool .nil)))))))))) .nil), (.cons (.int .u32) .nil), false, G28⟩
noncomputable def C28 : List (FuncId × Con) := []
noncomputable def D28 : List (FuncId × Con) := [(76, K76), (77, K77), (78, K78), (79, K79), (80, K80)]
noncomputable def A28 : List (FuncId × Nat × Ann) := [(28, 0, (.nd none .nil (.nd none .nil (.nd none (.nd none .nil (.nd none (.nd (some ⟨[(.slot 3, (.dat (.int .u32))), (.slot 22, (.dat (.int .i64)))], [3, 4, 5, 22, 23, 24, 25, 26, 27, 28, 29, 30, 31], []⟩) .nil .nil) .nil)) .nil))))]
theorem S28 : Sat Tryz.prog gls 28 K28 :=
  Sat.congr (runF_ok (E := EC C28) (cd := D28) (n := 8) (an := anL A28) mo (con_ok _) (ConOk.nil _ _) (ConOk.cons S76 <| ConOk.cons S77 <| ConOk.cons S78 <| ConOk.cons S79 <| ConOk.cons S80 <| ConOk.nil _ _) (by rfl)) (fun x => by kernel_rfl)
/-- vmfleet/machine.enabled -/
noncomputable def G70 (x : (((List (BitVec 32)) × ((BitVec 32) × ((List (BitVec 32)) × (Unit)))) × ((List (BitVec 32)) × (((List (BitVec 8)) × (Unit)) × (((Bool) × ((BitVec 32) × ((Bool) × (Unit)))) × (((BitVec 32) × ((BitVec 32) × ((BitVec 32) × ((Int) × ((Int) × ((BitVec 32) × ((BitVec 32) × ((List (BitVec 8)) × (Unit))))))))) × (((BitVec 32) × ((BitVec 32) × ((Bool) × ((BitVec 32) × ((Bool) × ((BitVec 32) × (Unit))))))) × (((BitVec 32) × ((BitVec 32) × (Unit))) × ((BitVec 64) × ((Bool) × ((Bool) × (Unit))))))))))) × (Unit)) : Option ((BitVec 32) × (Unit)) :=
  (G28 (x.1, ())).bind fun r1 =>
  if (inR .i64 (7 : Int) 8) = true then
  some ((andI .u32 r1.1 (List.getD x.1.1.2.2.1 (cnt .i64 (7 : Int)) (0#32))), ())
  else none
noncomputable def K70 : Con := ⟨(.cons (.cons (.cons (.arr 16 (.int .u32)) (.cons (.int .u32) (.cons (.arr 8 (.int .u32)) .nil))) (.cons (.sl (.int .u32)) (.cons (.cons .str .nil) (.cons (.cons .bool (.cons (.int .u32) (.cons .bool .nil))) (.cons (.cons (.int .u32) (.cons (.int .u32) (.cons (.int .u32) (.cons (.int .i64) (.cons (.int .i64) (.cons (.int .u32) (.cons (.int .u32) (.cons .str .nil)))))))) (.cons (.cons (.int .u32) (.cons (.int .u32) (.cons .bool (.cons (.int .u32) (.cons .bool (.cons (.int .u32) .nil)))))) (.cons (.cons (.int .u32) (.cons (.int .u32) .nil)) (.cons (.int .u64) (.cons .bool (.cons .bool .nil)))))))))) .nil), (.cons (.int .u32) .nil), false, G70⟩
noncomputable def C70 : List (FuncId × Con) := []
noncomputable def D70 : List (FuncId × Con) := [(28, K28)]
noncomputable def A70 : List (FuncId × Nat × Ann) := []
theorem S70 : Sat Tryz.prog gls 70 K70 :=
  Sat.congr (runF_ok (E := EC C70) (cd := D70) (n := 8) (an := anL A70) mo (con_ok _) (ConOk.nil _ _) (ConOk.cons S28 <| ConOk.nil _ _) (by rfl)) (fun x => by kernel_rfl)
/-- vmfleet/machine.Idle -/
noncomputable def G22 (x : (((List (BitVec 32)) × ((BitVec 32) × ((List (BitVec 32)) × (Unit)))) × ((List (BitVec 32)) × (((List (BitVec 8)) × (Unit)) × (((Bool) × ((BitVec 32) × ((Bool) × (Unit)))) × (((BitVec 32) × ((BitVec 32) × ((BitVec 32) × ((Int) × ((Int) × ((BitVec 32) × ((BitVec 32) × ((List (BitVec 8)) × (Unit))))))))) × (((BitVec 32) × ((BitVec 32) × ((Bool) × ((BitVec 32) × ((Bool) × ((BitVec 32) × (Unit))))))) × (((BitVec 32) × ((BitVec 32) × (Unit))) × ((BitVec 64) × ((Bool) × ((Bool) × (Unit))))))))))) × (Unit)) : Option ((Bool) × (Unit)) :=
  cond x.1.2.2.2.2.2.2.2.2.1
  ((G70 (x.1, ())).bind fun r1 =>
   some ((eqI .u32 r1.1 (0#32)), ()))
  (some (false, ()))
noncomputable def K22 : Con := ⟨(.cons (.cons (.cons (.arr 16 (.int .u32)) (.cons (.int .u32) (.cons (.arr 8 (.int .u32)) .nil))) (.cons (.sl (.int .u32)) (.cons (.cons .str .nil) (.cons (.cons .bool (.cons (.int .u32) (.cons .bool .nil))) (.cons (.cons (.int .u32) (.cons (.int .u32) (.cons (.int .u32) (.cons (.int .i64) (.cons (.int .i64) (.cons (.int .u32) (.cons (.int .u32) (.cons .str .nil)))))))) (.cons (.cons (.int .u32) (.cons (.int .u32) (.cons .bool (.cons (.int .u32) (.cons .bool (.cons (.int .u32) .nil)))))) (.cons (.cons (.int .u32) (.cons (.int .u32) .nil)) (.cons (.int .u64) (.cons .bool (.cons .bool .nil)))))))))) .nil), (.cons .bool .nil), false, G22⟩
noncomputable def C22 : List (FuncId × Con) := [(70, K70)]
noncomputable def D22 : List (FuncId × Con) := []
noncomputable def A22 : List (FuncId × Nat × Ann) := []
theorem S22 : Sat Tryz.prog gls 22 K22 :=
  Sat.congr (runF_ok (E := EC C22) (cd := D22) (n := 8) (an := anL A22) mo (con_ok _) (ConOk.cons S70 <| ConOk.nil _ _) (ConOk.nil _ _) (by rfl)) (fun x => by kernel_rfl)
/-- vmfleet/machine.runs -/
noncomputable def G81 (x : (((List (BitVec 32)) × ((BitVec 32) × ((List (BitVec 32)) × (Unit)))) × ((List (BitVec 32)) × (((List (BitVec 8)) × (Unit)) × (((Bool) × ((BitVec 32) × ((Bool) × (Unit)))) × (((BitVec 32) × ((BitVec 32) × ((BitVec 32) × ((Int) × ((Int) × ((BitVec 32) × ((BitVec 32) × ((List (BitVec 8)) × (Unit))))))))) × (((BitVec 32) × ((BitVec 32) × ((Bool) × ((BitVec 32) × ((Bool) × ((BitVec 32) × (Unit))))))) × (((BitVec 32) × ((BitVec 32) × (Unit))) × ((BitVec 64) × ((Bool) × ((Bool) × (Unit))))))))))) × (Unit)) : Option ((Bool) × (Unit)) :=
  (G21 (x.1, ())).bind fun r1 =>
  cond r1.1
  (cond (!x.1.2.2.2.2.2.2.2.2.2.1)
   ((G22 (x.1, ())).bind fun r2 =>
    cond (!r2.1)
    (some ((ltI .u64 x.1.2.2.2.2.2.2.2.1 (1152921504606846976#64)), ()))
    (some (false, ())))
   (some (false, ())))
  (some (false, ()))
noncomputable def K81 : Con := ⟨(.cons (.cons (.cons (.arr 16 (.int .u32)) (.cons (.int .u32) (.cons (.arr 8 (.int .u32)) .nil))) (.cons (.sl (.int .u32)) (.cons (.cons .str .nil) (.cons (.cons .bool (.cons (.int .u32) (.cons .bool .nil))) (.cons (.cons (.int .u32) (.cons (.int .u32) (.cons (.int .u32) (.cons (.int .i64) (.cons (.int .i64) (.cons (.int .u32) (.cons (.int .u32) (.cons .str .nil)))))))) (.cons (.cons (.int .u32) (.cons (.int .u32) (.cons .bool (.cons (.int .u32) (.cons .bool (.cons (.int .u32) .nil)))))) (.cons (.cons (.int .u32) (.cons (.int .u32) .nil)) (.cons (.int .u64) (.cons .bool (.cons .bool .nil)))))))))) .nil), (.cons .bool .nil), false, G81⟩
noncomputable def C81 : List (FuncId × Con) := [(21, K21), (22, K22)]
noncomputable def D81 : List (FuncId × Con) := []
noncomputable def A81 : List (FuncId × Nat × Ann) := []
theorem S81 : Sat Tryz.prog gls 81 K81 :=
  Sat.congr (runF_ok (E := EC C81) (cd := D81) (n := 8) (an := anL A81) mo (con_ok _) (ConOk.cons S21 <| ConOk.cons S22 <| ConOk.nil _ _) (ConOk.nil _ _) (by rfl)) (fun x => by kernel_rfl)
/-- vmfleet/machine.clone -/
noncomputable def G82 (x : (((List (BitVec 32)) × ((BitVec 32) × ((List (BitVec 32)) × (Unit)))) × ((List (BitVec 32)) × (((List (BitVec 8)) × (Unit)) × (((Bool) × ((BitVec 32) × ((Bool) × (Unit)))) × (((BitVec 32) × ((BitVec 32) × ((BitVec 32) × ((Int) × ((Int) × ((BitVec 32) × ((BitVec 32) × ((List (BitVec 8)) × (Unit))))))))) × (((BitVec 32) × ((BitVec 32) × ((Bool) × ((BitVec 32) × ((Bool) × ((BitVec 32) × (Unit))))))) × (((BitVec 32) × ((BitVec 32) × (Unit))) × ((BitVec 64) × ((Bool) × ((Bool) × (Unit))))))))))) × (Unit)) : Option ((((List (BitVec 32)) × ((BitVec 32) × ((List (BitVec 32)) × (Unit)))) × ((List (BitVec 32)) × (((List (BitVec 8)) × (Unit)) × (((Bool) × ((BitVec 32) × ((Bool) × (Unit)))) × (((BitVec 32) × ((BitVec 32) × ((BitVec 32) × ((Int) × ((Int) × ((BitVec 32) × ((BitVec 32) × ((List (BitVec 8)) × (Unit))))))))) × (((BitVec 32) × ((BitVec 32) × ((Bool) × ((BitVec 32) × ((Bool) × ((BitVec 32) × (Unit))))))) × (((BitVec 32) × ((BitVec 32) × (Unit))) × ((BitVec 64) × ((Bool) × ((Bool) × (Unit))))))))))) × (Unit)) :=
  if (room (List.length x.1.2.1 * 4) && room (List.length x.1.2.1)) = true then
  some ((x.1.1, (x.1.2.1, x.1.2.2)), ())
  else none
noncomputable def K82 : Con := ⟨(.cons (.cons (.cons (.arr 16 (.int .u32)) (.cons (.int .u32) (.cons (.arr 8 (.int .u32)) .nil))) (.cons (.sl (.int .u32)) (.cons (.cons .str .nil) (.cons (.cons .bool (.cons (.int .u32) (.cons .bool .nil))) (.cons (.cons (.int .u32) (.cons (.int .u32) (.cons (.int .u32) (.cons (.int .i64) (.cons (.int .i64) (.cons (.int .u32) (.cons (.int .u32) (.cons .str .nil)))))))) (.cons (.cons (.int .u32) (.cons (.int .u32) (.cons .bool (.cons (.int .u32) (.cons .bool (.cons (.int .u32) .nil)))))) (.cons (.cons (.int .u32) (.cons (.int .u32) .nil)) (.cons (.int .u64) (.cons .bool (.cons .bool .nil)))))))))) .nil), (.cons (.cons (.cons (.arr 16 (.int .u32)) (.cons (.int .u32) (.cons (.arr 8 (.int .u32)) .nil))) (.cons (.sl (.int .u32)) (.cons (.cons .str .nil) (.cons (.cons .bool (.cons (.int .u32) (.cons .bool .nil))) (.cons (.cons (.int .u32) (.cons (.int .u32) (.cons (.int .u32) (.cons (.int .i64) (.cons (.int .i64) (.cons (.int .u32) (.cons (.int .u32) (.cons .str .nil)))))))) (.cons (.cons (.int .u32) (.cons (.int .u32) (.cons .bool (.cons (.int .u32) (.cons .bool (.cons (.int .u32) .nil)))))) (.cons (.cons (.int .u32) (.cons (.int .u32) .nil)) (.cons (.int .u64) (.cons .bool (.cons .bool .nil)))))))))) .nil), false, G82⟩
noncomputable def C82 : List (FuncId × Con) := []
noncomputable def D82 : List (FuncId × Con) := []
noncomputable def A82 : List (FuncId × Nat × Ann) := []
theorem S82 : Sat Tryz.prog gls 82 K82 :=
  Sat.congr (runF_ok (E := EC C82) (cd := D82) (n := 8) (an := anL A82) mo (con_ok _) (ConOk.nil _ _) (ConOk.nil _ _) (by rfl)) (fun x => by kernel_rfl)
/-- math/bits.TrailingZeros32 -/
noncomputable def G146 (x : (BitVec 32) × (Unit)) : Option ((Int) × (Unit)) :=
  cond (eqI .u32 x.1 (0#32))
  (some ((32 : Int), ()))
  (if (inR .u32 (shr .u32 (mul .u32 (andI .u32 x.1 (sub .u32 (ofI .u32 0) x.1)) (125613361#32)) (cnt .u64 (27#64))) 32) = true then
   let v1 := (List.getD gv0 (cnt .u32 (shr .u32 (mul .u32 (andI .u32 x.1 (sub .u32 (ofI .u32 0) x.1)) (125613361#32)) (cnt .u64 (27#64)))) (0#8))
   some ((cv .u8 .i64 v1), ())
   else none)
noncomputable def K146 : Con := ⟨(.cons (.int .u32) .nil), (.cons (.int .i64) .nil), false, G146⟩
noncomputable def C146 : List (FuncId × Con) := []
noncomputable def D146 : List (FuncId × Con) := []
noncomputable def A146 : List (FuncId × Nat × Ann) := []
theorem S146 : Sat Tryz.prog gls 146 K146 :=
  Sat.congr (runF_ok (E := EC C146) (cd := D146) (n := 8) (an := anL A146) mo (con_ok _) (ConOk.nil _ _) (ConOk.nil _ _) (by rfl)) (fun x => by kernel_rfl)
/-- vmfleet/cpu.move -/
noncomputable def G176 (x : (BitVec 32) × ((BitVec 32) × ((BitVec 32) × (Unit)))) : Option ((BitVec 32) × (Unit)) :=
  cond (!eqI .u32 (andI .u32 x.1 x.2.1) (0#32))
  (some ((orI .u32 x.1 x.2.2.1), ()))
  (some ((andNot .u32 x.1 x.2.2.1), ()))
noncomputable def K176 : Con := ⟨(.cons (.int .u32) (.cons (.int .u32) (.cons (.int .u32) .nil))), (.cons (.int .u32) .nil), false, G176⟩
noncomputable def C176 : List (FuncId × Con) := []
noncomputable def D176 : List (FuncId × Con) := []
noncomputable def A176 : List (FuncId × Nat × Ann) := []
theorem S176 : Sat Tryz.prog gls 176 K176 :=
  Sat.congr (runF_ok (E := EC C176) (cd := D176) (n := 8) (an := anL A176) mo (con_ok _) (ConOk.nil _ _) (ConOk.nil _ _) (by rfl)) (fun x => by kernel_rfl)
/-- vmfleet/cpu.Trap -/
noncomputable def G145 (x : ((List (BitVec 32)) × ((BitVec 32) × ((List (BitVec 32)) × (Unit)))) × ((Int) × ((BitVec 32) × (Unit)))) : Option (((List (BitVec 32)) × ((BitVec 32) × ((List (BitVec 32)) × (Unit)))) × (Unit)) :=
  if (inR .i64 (2 : Int) 8) = true then
  if (inR .i64 (3 : Int) 8) = true then
  if (inR .i64 (4 : Int) 8) = true then
  if (inR .i64 (0 : Int) 8) = true then
  let v1 := (List.getD (List.set (List.set (List.set x.1.2.2.1 (cnt .i64 (2 : Int)) x.1.2.1) (cnt .i64 (3 : Int)) (cv .i64 .u32 x.2.1)) (cnt .i64 (4 : Int)) x.2.2.1) (cnt .i64 (0 : Int)) (0#32))
  (G176 (v1, (1#32), (8#32), ())).bind fun r2 =>
  (G176 (r2.1, (2#32), (16#32), ())).bind fun r3 =>
  if (inR .i64 (0 : Int) 8) = true then
  if (inR .i64 (1 : Int) 8) = true then
  let v4 := (List.getD (List.set (List.set (List.set (List.set x.1.2.2.1 (cnt .i64 (2 : Int)) x.1.2.1) (cnt .i64 (3 : Int)) (cv .i64 .u32 x.2.1)) (cnt .i64 (4 : Int)) x.2.2.1) (cnt .i64 (0 : Int)) (orI .u32 (andNot .u32 r3.1 (2#32)) (1#32))) (cnt .i64 (1 : Int)) (0#32))
  some ((x.1.1, (v4, ((List.set (List.set (List.set (List.set x.1.2.2.1 (cnt .i64 (2 : Int)) x.1.2.1) (cnt .i64 (3 : Int)) (cv .i64 .u32 x.2.1)) (cnt .i64 (4 : Int)) x.2.2.1) (cnt .i64 (0 : Int)) (orI .u32 (andNot .u32 r3.1 (2#32)) (1#32))), x.1.2.2.2))), ())
  else none
  else none
  else none
  else none
  else none
  else none
noncomputable def K145 : Con := ⟨(.cons (.cons (.arr 16 (.int .u32)) (.cons (.int .u32) (.cons (.arr 8 (.int .u32)) .nil))) (.cons (.int .i64) (.cons (.int .u32) .nil))), (.cons (.cons (.arr 16 (.int .u32)) (.cons (.int .u32) (.cons (.arr 8 (.int .u32)) .nil))) .nil), false, G145⟩
noncomputable def C145 : List (FuncId × Con) := [(176, K176)]
noncomputable def D145 : List (FuncId × Con) := []
noncomputable def A145 : List (FuncId × Nat × Ann) := []
theorem S145 : Sat Tryz.prog gls 145 K145 :=
  Sat.congr (runF_ok (E := EC C145) (cd := D145) (n := 8) (an := anL A145) mo (con_ok _) (ConOk.cons S176 <| ConOk.nil _ _) (ConOk.nil _ _) (by rfl)) (fun x => by kernel_rfl)
/-- vmfleet/machine.Interrupt -/
noncomputable def G83 (x : (((List (BitVec 32)) × ((BitVec 32) × ((List (BitVec 32)) × (Unit)))) × ((List (BitVec 32)) × (((List (BitVec 8)) × (Unit)) × (((Bool) × ((BitVec 32) × ((Bool) × (Unit)))) × (((BitVec 32) × ((BitVec 32) × ((BitVec 32) × ((Int) × ((Int) × ((BitVec 32) × ((BitVec 32) × ((List (BitVec 8)) × (Unit))))))))) × (((BitVec 32) × ((BitVec 32) × ((Bool) × ((BitVec 32) × ((Bool) × ((BitVec 32) × (Unit))))))) × (((BitVec 32) × ((BitVec 32) × (Unit))) × ((BitVec 64) × ((Bool) × ((Bool) × (Unit))))))))))) × (Unit)) : Option (((List (BitVec 32)) × ((BitVec 32) × ((List (BitVec 32)) × (Unit)))) × (Unit)) :=
  (G70 (x.1, ())).bind fun r1 =>
  if (inR .i64 (0 : Int) 8) = true then
  cond (eqI .u32 (andI .u32 (List.getD x.1.1.2.2.1 (cnt .i64 (0 : Int)) (0#32)) (2#32)) (0#32))
  (some (x.1.1, ()))
  (cond (eqI .u32 r1.1 (0#32))
   (some (x.1.1, ()))
   ((G146 (r1.1, ())).bind fun r2 =>
    (G145 (x.1.1, (add .i64 (16 : Int) r2.1), (0#32), ())).bind fun r3 =>
    some (r3.1, ())))
  else none
noncomputable def K83 : Con := ⟨(.cons (.cons (.cons (.arr 16 (.int .u32)) (.cons (.int .u32) (.cons (.arr 8 (.int .u32)) .nil))) (.cons (.sl (.int .u32)) (.cons (.cons .str .nil) (.cons (.cons .bool (.cons (.int .u32) (.cons .bool .nil))) (.cons (.cons (.int .u32) (.cons (.int .u32) (.cons (.int .u32) (.cons (.int .i64) (.cons (.int .i64) (.cons (.int .u32) (.cons (.int .u32) (.cons .str .nil)))))))) (.cons (.cons (.int .u32) (.cons (.int .u32) (.cons .bool (.cons (.int .u32) (.cons .bool (.cons (.int .u32) .nil)))))) (.cons (.cons (.int .u32) (.cons (.int .u32) .nil)) (.cons (.int .u64) (.cons .bool (.cons .bool .nil)))))))))) .nil), (.cons (.cons (.arr 16 (.int .u32)) (.cons (.int .u32) (.cons (.arr 8 (.int .u32)) .nil))) .nil), false, G83⟩
noncomputable def C83 : List (FuncId × Con) := [(70, K70), (145, K145)]
noncomputable def D83 : List (FuncId × Con) := [(146, K146)]
noncomputable def A83 : List (FuncId × Nat × Ann) := []
theorem S83 : Sat Tryz.prog gls 83 K83 :=
  Sat.congr (runF_ok (E := EC C83) (cd := D83) (n := 8) (an := anL A83) mo (con_ok _) (ConOk.cons S70 <| ConOk.cons S145 <| ConOk.nil _ _) (ConOk.cons S146 <| ConOk.nil _ _) (by rfl)) (fun x => by kernel_rfl)
/-- vmfleet/cpu.translated -/
noncomputable def G194 (x : ((List (BitVec 32)) × ((BitVec 32) × ((List (BitVec 32)) × (Unit)))) × (Unit)) : Option ((Bool) × (Unit)) :=
  if (inR .i64 (0 : Int) 8) = true then
  some ((eqI .u32 (andI .u32 (List.getD x.1.2.2.1 (cnt .i64 (0 : Int)) (0#32)) (5#32)) (4#32)), ())
  else none
noncomputable def K194 : Con := ⟨(.cons (.cons (.arr 16 (.int .u32)) (.cons (.int .u32) (.cons (.arr 8 (.int .u32)) .nil))) .nil), (.cons .bool .nil), false, G194⟩
noncomputable def C194 : List (FuncId × Con) := []
noncomputable def D194 : List (FuncId × Con) := []
noncomputable def A194 : List (FuncId × Nat × Ann) := []
theorem S194 : Sat Tryz.prog gls 194 K194 :=
  Sat.congr (runF_ok (E := EC C194) (cd := D194) (n := 8) (an := anL A194) mo (con_ok _) (ConOk.nil _ _) (ConOk.nil _ _) (by rfl)) (fun x => by kernel_rfl)
/-- vmfleet/paging.Cause -/
noncomputable def G197 (x : (Int) × (Unit)) : Option ((Int) × (Unit)) :=
  cond (eqI .i64 x.1 (1 : Int))
  (some ((4 : Int), ()))
  (cond (eqI .i64 x.1 (3 : Int))
   (some ((6 : Int), ()))
   (some ((5 : Int), ())))
noncomputable def K197 : Con := ⟨(.cons (.int .i64) .nil), (.cons (.int .i64) .nil), false, G197⟩
noncomputable def C197 : List (FuncId × Con) := []
noncomputable def D197 : List (FuncId × Con) := []
noncomputable def A197 : List (FuncId × Nat × Ann) := []
theorem S197 : Sat Tryz.prog gls 197 K197 :=
  Sat.congr (runF_ok (E := EC C197) (cd := D197) (n := 8) (an := anL A197) mo (con_ok _) (ConOk.nil _ _) (ConOk.nil _ _) (by rfl)) (fun x => by kernel_rfl)
/-- vmfleet/paging.page -/
noncomputable def G225 (x : (List (BitVec 32)) × ((BitVec 32) × (Unit))) : Option ((Bool) × (Unit)) :=
  (G51 (x.1, ())).bind fun r1 =>
  some ((ltI .u64 (cv .u32 .u64 x.2.1) (cv .i64 .u64 r1.1)), ())
noncomputable def K225 : Con := ⟨(.cons (.sl (.int .u32)) (.cons (.int .u32) .nil)), (.cons .bool .nil), false, G225⟩
noncomputable def C225 : List (FuncId × Con) := [(51, K51)]
noncomputable def D225 : List (FuncId × Con) := []
noncomputable def A225 : List (FuncId × Nat × Ann) := []
theorem S225 : Sat Tryz.prog gls 225 K225 :=
  Sat.congr (runF_ok (E := EC C225) (cd := D225) (n := 8) (an := anL A225) mo (con_ok _) (ConOk.cons S51 <| ConOk.nil _ _) (ConOk.nil _ _) (by rfl)) (fun x => by kernel_rfl)
/-- vmfleet/paging.Entry -/
noncomputable def G226 (x : (BitVec 32) × ((BitVec 32) × (Unit))) : Option ((BitVec 32) × (Unit)) :=
  some ((add .u32 (mul .u32 x.1 (128#32)) (mul .u32 (4#32) x.2.1)), ())
noncomputable def K226 : Con := ⟨(.cons (.int .u32) (.cons (.int .u32) .nil)), (.cons (.int .u32) .nil), false, G226⟩
noncomputable def C226 : List (FuncId × Con) := []
noncomputable def D226 : List (FuncId × Con) := []
noncomputable def A226 : List (FuncId × Nat × Ann) := []
theorem S226 : Sat Tryz.prog gls 226 K226 :=
  Sat.congr (runF_ok (E := EC C226) (cd := D226) (n := 8) (an := anL A226) mo (con_ok _) (ConOk.nil _ _) (ConOk.nil _ _) (by rfl)) (fun x => by kernel_rfl)
/-- vmfleet/memory.within -/
noncomputable def G198 (x : (List (BitVec 32)) × ((BitVec 32) × ((Int) × (Unit)))) : Option ((Bool) × (Unit)) :=
  cond (eqI .i64 x.2.2.1 (1 : Int))
  (if (!isZ .u32 (cv .i64 .u32 x.2.2.1)) = true then
   cond (eqI .u32 (rem .u32 x.2.1 (cv .i64 .u32 x.2.2.1)) (0#32))
   ((G51 (x.1, ())).bind fun r1 =>
    let v2 := (leI .u64 (add .u64 (cv .u32 .u64 x.2.1) (cv .i64 .u64 x.2.2.1)) (cv .i64 .u64 (mul .i64 r1.1 (128 : Int))))
    some (v2, ()))
   (some (false, ()))
   else none)
  (cond (eqI .i64 x.2.2.1 (4 : Int))
   (if (!isZ .u32 (cv .i64 .u32 x.2.2.1)) = true then
    cond (eqI .u32 (rem .u32 x.2.1 (cv .i64 .u32 x.2.2.1)) (0#32))
    ((G51 (x.1, ())).bind fun r3 =>
     let v4 := (leI .u64 (add .u64 (cv .u32 .u64 x.2.1) (cv .i64 .u64 x.2.2.1)) (cv .i64 .u64 (mul .i64 r3.1 (128 : Int))))
     some (v4, ()))
    (some (false, ()))
    else none)
   (some (false, ())))
noncomputable def K198 : Con := ⟨(.cons (.sl (.int .u32)) (.cons (.int .u32) (.cons (.int .i64) .nil))), (.cons .bool .nil), false, G198⟩
noncomputable def C198 : List (FuncId × Con) := [(51, K51)]
noncomputable def D198 : List (FuncId × Con) := []
noncomputable def A198 : List (FuncId × Nat × Ann) := []
theorem S198 : Sat Tryz.prog gls 198 K198 :=
  Sat.congr (runF_ok (E := EC C198) (cd := D198) (n := 8) (an := anL A198) mo (con_ok _) (ConOk.cons S51 <| ConOk.nil _ _) (ConOk.nil _ _) (by rfl)) (fun x => by kernel_rfl)
/-- vmfleet/bits.outside -/
noncomputable def G199 (x : (Int) × ((Int) × (Unit))) : Option ((Bool) × (Unit)) :=
  cond (ltI .i64 x.1 (0 : Int))
  (some (true, ()))
  (cond (ltI .i64 (31 : Int) x.1)
   (some (true, ()))
   (some ((ltI .i64 x.2.1 (1 : Int)), ())))
noncomputable def K199 : Con := ⟨(.cons (.int .i64) (.cons (.int .i64) .nil)), (.cons .bool .nil), false, G199⟩
noncomputable def C199 : List (FuncId × Con) := []
noncomputable def D199 : List (FuncId × Con) := []
noncomputable def A199 : List (FuncId × Nat × Ann) := []
theorem S199 : Sat Tryz.prog gls 199 K199 :=
  Sat.congr (runF_ok (E := EC C199) (cd := D199) (n := 8) (an := anL A199) mo (con_ok _) (ConOk.nil _ _) (ConOk.nil _ _) (by rfl)) (fun x => by kernel_rfl)
/-- vmfleet/bits.mask -/
noncomputable def G200 (x : (Int) × (Unit)) : Option ((BitVec 32) × (Unit)) :=
  cond (leI .i64 (32 : Int) x.1)
  (some ((4294967295#32), ()))
  (if (cntOk .i64 x.1) = true then
   some ((sub .u32 (shl .u32 (1#32) (cnt .i64 x.1)) (1#32)), ())
   else none)
noncomputable def K200 : Con := ⟨(.cons (.int .i64) .nil), (.cons (.int .u32) .nil), false, G200⟩
noncomputable def C200 : List (FuncId × Con) := []
noncomputable def D200 : List (FuncId × Con) := []
noncomputable def A200 : List (FuncId × Nat × Ann) := []
theorem S200 : Sat Tryz.prog gls 200 K200 :=
  Sat.congr (runF_ok (E := EC C200) (cd := D200) (n := 8) (an := anL A200) mo (con_ok _) (ConOk.nil _ _) (ConOk.nil _ _) (by rfl)) (fun x => by kernel_rfl)
/-- vmfleet/bits.Field -/
noncomputable def G155 (x : (BitVec 32) × ((Int) × ((Int) × (Unit)))) : Option ((BitVec 32) × (Unit)) :=
  (G199 (x.2.1, x.2.2.1, ())).bind fun r1 =>
  cond r1.1
  (some ((0#32), ()))
  (if (cntOk .i64 x.2.1) = true then
   (G200 (x.2.2.1, ())).bind fun r2 =>
   some ((andI .u32 (shr .u32 x.1 (cnt .i64 x.2.1)) r2.1), ())
   else none)
noncomputable def K155 : Con := ⟨(.cons (.int .u32) (.cons (.int .i64) (.cons (.int .i64) .nil))), (.cons (.int .u32) .nil), false, G155⟩
noncomputable def C155 : List (FuncId × Con) := [(199, K199)]
noncomputable def D155 : List (FuncId × Con) := [(200, K200)]
noncomputable def A155 : List (FuncId × Nat × Ann) := []
theorem S155 : Sat Tryz.prog gls 155 K155 :=
  Sat.congr (runF_ok (E := EC C155) (cd := D155) (n := 8) (an := anL A155) mo (con_ok _) (ConOk.cons S199 <| ConOk.nil _ _) (ConOk.cons S200 <| ConOk.nil _ _) (by rfl)) (fun x => by kernel_rfl)
/-- vmfleet/memory.Load -/
noncomputable def G154 (x : (List (BitVec 32)) × ((BitVec 32) × ((Int) × (Unit)))) : Option ((BitVec 32) × ((Bool) × (Unit))) :=
  (G198 (x.1, x.2.1, x.2.2.1, ())).bind fun r1 =>
  cond (!r1.1)
  (some ((0#32), false, ()))
  (if (!isZ .u32 (4#32)) = true then
   if (inR .u32 (quo .u32 x.2.1 (4#32)) (List.length x.1)) = true then
   cond (eqI .i64 x.2.2.1 (1 : Int))
   (if (!isZ .u32 (4#32)) = true then
    (G155 ((List.getD x.1 (cnt .u32 (quo .u32 x.2.1 (4#32))) (0#32)), (mul .i64 (8 : Int) (cv .u32 .i64 (rem .u32 x.2.1 (4#32)))), (8 : Int), ())).bind fun r2 =>
    some (r2.1, true, ())
    else none)
   (some ((List.getD x.1 (cnt .u32 (quo .u32 x.2.1 (4#32))) (0#32)), true, ()))
   else none
   else none)
noncomputable def K154 : Con := ⟨(.cons (.sl (.int .u32)) (.cons (.int .u32) (.cons (.int .i64) .nil))), (.cons (.int .u32) (.cons .bool .nil)), false, G154⟩
noncomputable def C154 : List (FuncId × Con) := [(155, K155), (198, K198)]
noncomputable def D154 : List (FuncId × Con) := []
noncomputable def A154 : List (FuncId × Nat × Ann) := []
theorem S154 : Sat Tryz.prog gls 154 K154 :=
  Sat.congr (runF_ok (E := EC C154) (cd := D154) (n := 8) (an := anL A154) mo (con_ok _) (ConOk.cons S155 <| ConOk.cons S198 <| ConOk.nil _ _) (ConOk.nil _ _) (by rfl)) (fun x => by kernel_rfl)
/-- vmfleet/paging.Frame -/
noncomputable def G227 (x : (BitVec 32) × (Unit)) : Option ((BitVec 32) × (Unit)) :=
  (G155 (x.1, (8 : Int), (8 : Int), ())).bind fun r1 =>
  some (r1.1, ())
noncomputable def K227 : Con := ⟨(.cons (.int .u32) .nil), (.cons (.int .u32) .nil), false, G227⟩
noncomputable def C227 : List (FuncId × Con) := [(155, K155)]
noncomputable def D227 : List (FuncId × Con) := []
noncomputable def A227 : List (FuncId × Nat × Ann) := []
theorem S227 : Sat Tryz.prog gls 227 K227 :=
  Sat.congr (runF_ok (E := EC C227) (cd := D227) (n := 8) (an := anL A227) mo (con_ok _) (ConOk.cons S155 <| ConOk.nil _ _) (ConOk.nil _ _) (by rfl)) (fun x => by kernel_rfl)
/-- vmfleet/paging.Walk -/
noncomputable def G195 (x : (List (BitVec 32)) × ((BitVec 32) × ((BitVec 32) × ((Int) × (Unit))))) : Option (((BitVec 32) × ((BitVec 32) × ((Int) × (Unit)))) × (Unit)) :=
  (G197 (x.2.2.2.1, ())).bind fun r1 =>
  cond (ltI .i64 x.2.2.2.1 (1 : Int))
  (some (((0#32), ((0#32), (r1.1, ()))), ()))
  (cond (ltI .i64 (3 : Int) x.2.2.2.1)
   (some (((0#32), ((0#32), (r1.1, ()))), ()))
   (cond (leI .u32 (4096#32) x.2.2.1)
    (some (((0#32), ((0#32), (r1.1, ()))), ()))
    ((G225 (x.1, x.2.1, ())).bind fun r2 =>
     cond (!r2.1)
     (some (((0#32), ((0#32), (r1.1, ()))), ()))
     (if (!isZ .u32 (128#32)) = true then
      (G226 (x.2.1, (quo .u32 x.2.2.1 (128#32)), ())).bind fun r3 =>
      (G154 (x.1, r3.1, (4 : Int), ())).bind fun r4 =>
      jn (R := ((BitVec 32) × ((BitVec 32) × ((Int) × (Unit)))) × (Unit)) (Z := (BitVec 32) × (Unit))
      (cond (eqI .i64 x.2.2.2.1 (1 : Int))
       (some (Sum.inr ((orI .u32 (1#32) (4#32)), ())))
       (cond (eqI .i64 x.2.2.2.1 (3 : Int))
        (some (Sum.inr ((orI .u32 (1#32) (2#32)), ())))
        (some (Sum.inr ((1#32), ())))))
      fun z5 =>
      cond (!eqI .u32 (andI .u32 r4.1 z5.1) z5.1)
      (some (((0#32), ((0#32), (r1.1, ()))), ()))
      ((G227 (r4.1, ())).bind fun r6 =>
       (G225 (x.1, r6.1, ())).bind fun r7 =>
       cond (!r7.1)
       (some (((0#32), ((0#32), (r1.1, ()))), ()))
       ((G227 (r4.1, ())).bind fun r8 =>
        if (!isZ .u32 (128#32)) = true then
        some (((add .u32 (mul .u32 r8.1 (128#32)) (rem .u32 x.2.2.1 (128#32))), (r3.1, ((0 : Int), ()))), ())
        else none))
      else none))))
noncomputable def K195 : Con := ⟨(.cons (.sl (.int .u32)) (.cons (.int .u32) (.cons (.int .u32) (.cons (.int .i64) .nil)))), (.cons (.cons (.int .u32) (.cons (.int .u32) (.cons (.int .i64) .nil))) .nil), false, G195⟩
noncomputable def C195 : List (FuncId × Con) := [(154, K154), (197, K197), (225, K225), (226, K226), (227, K227)]
noncomputable def D195 : List (FuncId × Con) := []
noncomputable def A195 : List (FuncId × Nat × Ann) := [(195, 0, (.nd none .nil (.nd none .nil (.nd none .nil (.nd none .nil (.nd none .nil (.nd none .nil (.nd (some ⟨[(.slot 13, (.dat (.int .u32)))], [13, 44, 45, 46, 47, 48, 49, 50, 51, 52], []⟩) .nil .nil))))))))]
theorem S195 : Sat Tryz.prog gls 195 K195 :=
  Sat.congr (runF_ok (E := EC C195) (cd := D195) (n := 8) (an := anL A195) mo (con_ok _) (ConOk.cons S154 <| ConOk.cons S197 <| ConOk.cons S225 <| ConOk.cons S226 <| ConOk.cons S227 <| ConOk.nil _ _) (ConOk.nil _ _) (by rfl)) (fun x => by kernel_rfl)
/-- vmfleet/bits.SetField -/
noncomputable def G220 (x : (BitVec 32) × ((Int) × ((Int) × ((BitVec 32) × (Unit))))) : Option ((BitVec 32) × (Unit)) :=
  (G199 (x.2.1, x.2.2.1, ())).bind fun r1 =>
  cond r1.1
  (some (x.1, ()))
  ((G200 (x.2.2.1, ())).bind fun r2 =>
   if (cntOk .i64 x.2.1) = true then
   if (cntOk .i64 x.2.1) = true then
   let v3 := (orI .u32 (andNot .u32 x.1 (shl .u32 r2.1 (cnt .i64 x.2.1))) (andI .u32 (shl .u32 x.2.2.2.1 (cnt .i64 x.2.1)) (shl .u32 r2.1 (cnt .i64 x.2.1))))
   some (v3, ())
   else none
   else none)
noncomputable def K220 : Con := ⟨(.cons (.int .u32) (.cons (.int .i64) (.cons (.int .i64) (.cons (.int .u32) .nil)))), (.cons (.int .u32) .nil), false, G220⟩
noncomputable def C220 : List (FuncId × Con) := [(199, K199), (200, K200)]
noncomputable def D220 : List (FuncId × Con) := []
noncomputable def A220 : List (FuncId × Nat × Ann) := []
theorem S220 : Sat Tryz.prog gls 220 K220 :=
  Sat.congr (runF_ok (E := EC C220) (cd := D220) (n := 8) (an := anL A220) mo (con_ok _) (ConOk.cons S199 <| ConOk.cons S200 <| ConOk.nil _ _) (ConOk.nil _ _) (by rfl)) (fun x => by kernel_rfl)
/-- vmfleet/memory.Store -/
noncomputable def G179 (x : (List (BitVec 32)) × ((BitVec 32) × ((Int) × ((BitVec 32) × (Unit))))) : Option ((List (BitVec 32)) × ((Bool) × (Unit))) :=
  jn (R := (List (BitVec 32)) × ((Bool) × (Unit))) (Z := (List (BitVec 32)) × (Unit))
  (cond (eqI .i64 ((List.length x.1 : Nat) : Int) (0 : Int))
   (some (Sum.inr (([] : List (BitVec 32)), ())))
   (if (decide (0 ≤ toI .i64 ((List.length x.1 : Nat) : Int)) && decide (toI .i64 ((List.length x.1 : Nat) : Int) ≤ toI .i64 ((List.length x.1 : Nat) : Int)) && room ((toI .i64 ((List.length x.1 : Nat) : Int)).toNat * 4) && decide (toI .i64 ((List.length x.1 : Nat) : Int) ≤ 140737488355328) && true) = true then
    let v2 := ((min (List.length x.1) (List.length (List.replicate (cnt .i64 ((List.length x.1 : Nat) : Int)) (0#32))) : Nat) : Int)
    some (Sum.inr ((List.take (List.length (List.replicate (cnt .i64 ((List.length x.1 : Nat) : Int)) (0#32))) x.1 ++ List.drop (List.length x.1) (List.replicate (cnt .i64 ((List.length x.1 : Nat) : Int)) (0#32))), ()))
    else none))
  fun z1 =>
  (G198 (x.1, x.2.1, x.2.2.1, ())).bind fun r3 =>
  cond (!r3.1)
  (some (z1.1, false, ()))
  (cond (eqI .i64 x.2.2.1 (1 : Int))
   (if (!isZ .u32 (4#32)) = true then
    if (inR .u32 (quo .u32 x.2.1 (4#32)) (List.length x.1)) = true then
    if (!isZ .u32 (4#32)) = true then
    (G220 ((List.getD x.1 (cnt .u32 (quo .u32 x.2.1 (4#32))) (0#32)), (mul .i64 (8 : Int) (cv .u32 .i64 (rem .u32 x.2.1 (4#32)))), (8 : Int), x.2.2.2.1, ())).bind fun r4 =>
    if (!isZ .u32 (4#32)) = true then
    if (inR .u32 (quo .u32 x.2.1 (4#32)) (List.length z1.1)) = true then
    some ((List.set z1.1 (cnt .u32 (quo .u32 x.2.1 (4#32))) r4.1), true, ())
    else none
    else none
    else none
    else none
    else none)
   (if (!isZ .u32 (4#32)) = true then
    if (inR .u32 (quo .u32 x.2.1 (4#32)) (List.length z1.1)) = true then
    some ((List.set z1.1 (cnt .u32 (quo .u32 x.2.1 (4#32))) x.2.2.2.1), true, ())
    else none
    else none))
noncomputable def K179 : Con := ⟨(.cons (.sl (.int .u32)) (.cons (.int .u32) (.cons (.int .i64) (.cons (.int .u32) .nil)))), (.cons (.sl (.int .u32)) (.cons .bool .nil)), false, G179⟩
noncomputable def C179 : List (FuncId × Con) := [(198, K198), (220, K220)]
noncomputable def D179 : List (FuncId × Con) := []
noncomputable def A179 : List (FuncId × Nat × Ann) := [(179, 0, (.nd none .nil (.nd (some ⟨[(.slot 10, (.row 27 (.int .u32)))], [10, 11, 12], []⟩) .nil .nil)))]
theorem S179 : Sat Tryz.prog gls 179 K179 :=
  Sat.congr (runF_ok (E := EC C179) (cd := D179) (n := 8) (an := anL A179) mo (con_ok _) (ConOk.cons S198 <| ConOk.cons S220 <| ConOk.nil _ _) (ConOk.nil _ _) (by rfl)) (fun x => by kernel_rfl)
/-- vmfleet/paging.Touch -/
noncomputable def G196 (x : (List (BitVec 32)) × ((BitVec 32) × ((Int) × (Unit)))) : Option ((List (BitVec 32)) × (Unit)) :=
  (G154 (x.1, x.2.1, (4 : Int), ())).bind fun r1 =>
  jn (R := (List (BitVec 32)) × (Unit)) (Z := (BitVec 32) × (Unit))
  (cond (eqI .i64 x.2.2.1 (3 : Int))
   (some (Sum.inr ((orI .u32 (orI .u32 r1.1 (8#32)) (16#32)), ())))
   (some (Sum.inr ((orI .u32 r1.1 (8#32)), ()))))
  fun z2 =>
  (G179 (x.1, x.2.1, (4 : Int), z2.1, ())).bind fun r3 =>
  some (r3.1, ())
noncomputable def K196 : Con := ⟨(.cons (.sl (.int .u32)) (.cons (.int .u32) (.cons (.int .i64) .nil))), (.cons (.sl (.int .u32)) .nil), false, G196⟩
noncomputable def C196 : List (FuncId × Con) := [(154, K154), (179, K179)]
noncomputable def D196 : List (FuncId × Con) := []
noncomputable def A196 : List (FuncId × Nat × Ann) := [(196, 0, (.nd none .nil (.nd none .nil (.nd none .nil (.nd (some ⟨[(.slot 7, (.dat (.int .u32)))], [7, 19, 20, 21, 22], []⟩) .nil .nil)))))]
theorem S196 : Sat Tryz.prog gls 196 K196 :=
  Sat.congr (runF_ok (E := EC C196) (cd := D196) (n := 8) (an := anL A196) mo (con_ok _) (ConOk.cons S154 <| ConOk.cons S179 <| ConOk.nil _ _) (ConOk.nil _ _) (by rfl)) (fun x => by kernel_rfl)
/-- vmfleet/cpu.Resolve -/
noncomputable def G153 (x : ((List (BitVec 32)) × ((BitVec 32) × ((List (BitVec 32)) × (Unit)))) × ((List (BitVec 32)) × ((BitVec 32) × ((Int) × ((Int) × (Unit)))))) : Option ((BitVec 32) × ((List (BitVec 32)) × ((Int) × (Unit)))) :=
  jn (R := (BitVec 32) × ((List (BitVec 32)) × ((Int) × (Unit)))) (Z := Unit)
  (cond (ltI .i64 x.2.2.2.2.1 (1 : Int))
   (if (room (List.length x.2.1 * 4) && room (List.length x.2.1)) = true then
    some (Sum.inl ((0#32), x.2.1, (5 : Int), ()))
    else none)
   (cond (ltI .i64 (3 : Int) x.2.2.2.2.1)
    (if (room (List.length x.2.1 * 4) && room (List.length x.2.1)) = true then
     some (Sum.inl ((0#32), x.2.1, (5 : Int), ()))
     else none)
    (cond (!eqI .i64 x.2.2.2.1 (1 : Int))
     (cond (!eqI .i64 x.2.2.2.1 (4 : Int))
      (if (room (List.length x.2.1 * 4) && room (List.length x.2.1)) = true then
       some (Sum.inl ((0#32), x.2.1, (5 : Int), ()))
       else none)
      (some (Sum.inr ())))
     (some (Sum.inr ())))))
  fun z1 =>
  if (!isZ .u32 (cv .i64 .u32 x.2.2.2.1)) = true then
  cond (!eqI .u32 (rem .u32 x.2.2.1 (cv .i64 .u32 x.2.2.2.1)) (0#32))
  (if (room (List.length x.2.1 * 4) && room (List.length x.2.1)) = true then
   some ((0#32), x.2.1, (3 : Int), ())
   else none)
  ((G194 (x.1, ())).bind fun r2 =>
   cond r2.1
   (if (inR .i64 (6 : Int) 8) = true then
    (G195 (x.2.1, (List.getD x.1.2.2.1 (cnt .i64 (6 : Int)) (0#32)), x.2.2.1, x.2.2.2.2.1, ())).bind fun r3 =>
    cond (!eqI .i64 r3.1.2.2.1 (0 : Int))
    ((G131 (x.2.1, ())).bind fun r4 =>
     some ((0#32), r4.1, r3.1.2.2.1, ()))
    ((G196 (x.2.1, r3.1.2.1, x.2.2.2.2.1, ())).bind fun r5 =>
     some (r3.1.1, r5.1, (0 : Int), ()))
    else none)
   ((G154 (x.2.1, x.2.2.1, x.2.2.2.1, ())).bind fun r6 =>
    cond (!r6.2.1)
    (if (room (List.length x.2.1 * 4) && room (List.length x.2.1)) = true then
     (G197 (x.2.2.2.2.1, ())).bind fun r7 =>
     some ((0#32), x.2.1, r7.1, ())
     else none)
    (if (room (List.length x.2.1 * 4) && room (List.length x.2.1)) = true then
     some (x.2.2.1, x.2.1, (0 : Int), ())
     else none)))
  else none
noncomputable def K153 : Con := ⟨(.cons (.cons (.arr 16 (.int .u32)) (.cons (.int .u32) (.cons (.arr 8 (.int .u32)) .nil))) (.cons (.sl (.int .u32)) (.cons (.int .u32) (.cons (.int .i64) (.cons (.int .i64) .nil))))), (.cons (.int .u32) (.cons (.sl (.int .u32)) (.cons (.int .i64) .nil))), false, G153⟩
noncomputable def C153 : List (FuncId × Con) := [(154, K154), (194, K194), (195, K195), (197, K197)]
noncomputable def D153 : List (FuncId × Con) := [(131, K131), (196, K196)]
noncomputable def A153 : List (FuncId × Nat × Ann) := [(153, 0, (.nd none .nil (.nd (some ⟨[], [16, 17, 18, 19, 20, 21, 22, 23, 24, 25, 26, 27, 28, 29], []⟩) .nil .nil)))]
theorem S153 : Sat Tryz.prog gls 153 K153 :=
  Sat.congr (runF_ok (E := EC C153) (cd := D153) (n := 8) (an := anL A153) mo (con_ok _) (ConOk.cons S154 <| ConOk.cons S194 <| ConOk.cons S195 <| ConOk.cons S197 <| ConOk.nil _ _) (ConOk.cons S131 <| ConOk.cons S196 <| ConOk.nil _ _) (by rfl)) (fun x => by kernel_rfl)
/-- vmfleet/cpu.Fetch -/
noncomputable def G105 (x : ((List (BitVec 32)) × ((BitVec 32) × ((List (BitVec 32)) × (Unit)))) × ((List (BitVec 32)) × (Unit))) : Option ((BitVec 32) × ((List (BitVec 32)) × ((Int) × (Unit)))) :=
  (G153 (x.1, x.2.1, x.1.2.1, (4 : Int), (1 : Int), ())).bind fun r1 =>
  cond (!eqI .i64 r1.2.2.1 (0 : Int))
  (some ((0#32), r1.2.1, r1.2.2.1, ()))
  ((G154 (r1.2.1, r1.1, (4 : Int), ())).bind fun r2 =>
   some (r2.1, r1.2.1, (0 : Int), ()))
noncomputable def K105 : Con := ⟨(.cons (.cons (.arr 16 (.int .u32)) (.cons (.int .u32) (.cons (.arr 8 (.int .u32)) .nil))) (.cons (.sl (.int .u32)) .nil)), (.cons (.int .u32) (.cons (.sl (.int .u32)) (.cons (.int .i64) .nil))), false, G105⟩
noncomputable def C105 : List (FuncId × Con) := [(153, K153), (154, K154)]
noncomputable def D105 : List (FuncId × Con) := []
noncomputable def A105 : List (FuncId × Nat × Ann) := []
theorem S105 : Sat Tryz.prog gls 105 K105 :=
  Sat.congr (runF_ok (E := EC C105) (cd := D105) (n := 8) (an := anL A105) mo (con_ok _) (ConOk.cons S153 <| ConOk.cons S154 <| ConOk.nil _ _) (ConOk.nil _ _) (by rfl)) (fun x => by kernel_rfl)
/-- vmfleet/isa.Name -/
noncomputable def G201 (x : (Int) × (Unit)) : Option ((List (BitVec 8)) × (Unit)) :=
  cond (ltI .i64 x.1 (0 : Int))
  (some (([] : List (BitVec 8)), ()))
  (cond (leI .i64 (65 : Int) x.1)
   (some (([] : List (BitVec 8)), ()))
   (if (inR .i64 x.1 65) = true then
    some ((List.getD gv1 (cnt .i64 x.1) (dflt .str)), ())
    else none))
noncomputable def K201 : Con := ⟨(.cons (.int .i64) .nil), (.cons .str .nil), false, G201⟩
noncomputable def C201 : List (FuncId × Con) := []
noncomputable def D201 : List (FuncId × Con) := []
noncomputable def A201 : List (FuncId × Nat × Ann) := []
theorem S201 : Sat Tryz.prog gls 201 K201 :=
  Sat.congr (runF_ok (E := EC C201) (cd := D201) (n := 8) (an := anL A201) mo (con_ok _) (ConOk.nil _ _) (ConOk.nil _ _) (by rfl)) (fun x => by kernel_rfl)
/-- vmfleet/isa.shapeOf -/
noncomputable def G156 (x : (Int) × (Unit)) : Option (((Bool) × ((Bool) × ((Bool) × ((BitVec 32) × ((BitVec 32) × (Unit)))))) × ((Bool) × (Unit))) :=
  cond (eqI .i64 x.1 (1 : Int))
  (some ((true, (true, (true, ((0#32), ((0#32), ()))))), true, ()))
  (cond (eqI .i64 x.1 (2 : Int))
   (some ((true, (true, (true, ((0#32), ((0#32), ()))))), true, ()))
   (cond (eqI .i64 x.1 (3 : Int))
    (some ((true, (true, (true, ((0#32), ((0#32), ()))))), true, ()))
    (cond (eqI .i64 x.1 (4 : Int))
     (some ((true, (true, (true, ((0#32), ((0#32), ()))))), true, ()))
     (cond (eqI .i64 x.1 (5 : Int))
      (some ((true, (true, (true, ((0#32), ((0#32), ()))))), true, ()))
      (cond (eqI .i64 x.1 (6 : Int))
       (some ((true, (true, (true, ((0#32), ((0#32), ()))))), true, ()))
       (cond (eqI .i64 x.1 (7 : Int))
        (some ((true, (true, (true, ((0#32), ((0#32), ()))))), true, ()))
        (cond (eqI .i64 x.1 (8 : Int))
         (some ((true, (true, (true, ((0#32), ((0#32), ()))))), true, ()))
         (cond (eqI .i64 x.1 (9 : Int))
          (some ((true, (true, (true, ((0#32), ((0#32), ()))))), true, ()))
          (cond (eqI .i64 x.1 (10 : Int))
           (some ((true, (true, (true, ((0#32), ((0#32), ()))))), true, ()))
           (cond (eqI .i64 x.1 (11 : Int))
            (some ((true, (true, (true, ((0#32), ((0#32), ()))))), true, ()))
            (cond (eqI .i64 x.1 (12 : Int))
             (some ((true, (true, (true, ((0#32), ((0#32), ()))))), true, ()))
             (cond (eqI .i64 x.1 (13 : Int))
              (some ((true, (true, (true, ((0#32), ((0#32), ()))))), true, ()))
              (cond (eqI .i64 x.1 (16 : Int))
               (some ((true, (true, (false, ((BitVec.ofInt 32 (-32768)), ((32767#32), ()))))), true, ()))
               (cond (eqI .i64 x.1 (23 : Int))
                (some ((true, (true, (false, ((BitVec.ofInt 32 (-32768)), ((32767#32), ()))))), true, ()))
                (cond (eqI .i64 x.1 (32 : Int))
                 (some ((true, (true, (false, ((BitVec.ofInt 32 (-32768)), ((32767#32), ()))))), true, ()))
                 (cond (eqI .i64 x.1 (33 : Int))
                  (some ((true, (true, (false, ((BitVec.ofInt 32 (-32768)), ((32767#32), ()))))), true, ()))
                  (cond (eqI .i64 x.1 (34 : Int))
                   (some ((true, (true, (false, ((BitVec.ofInt 32 (-32768)), ((32767#32), ()))))), true, ()))
                   (cond (eqI .i64 x.1 (35 : Int))
                    (some ((true, (true, (false, ((BitVec.ofInt 32 (-32768)), ((32767#32), ()))))), true, ()))
                    (cond (eqI .i64 x.1 (36 : Int))
                     (some ((true, (true, (false, ((BitVec.ofInt 32 (-32768)), ((32767#32), ()))))), true, ()))
                     (cond (eqI .i64 x.1 (40 : Int))
                      (some ((true, (true, (false, ((BitVec.ofInt 32 (-32768)), ((32767#32), ()))))), true, ()))
                      (cond (eqI .i64 x.1 (41 : Int))
                       (some ((true, (true, (false, ((BitVec.ofInt 32 (-32768)), ((32767#32), ()))))), true, ()))
                       (cond (eqI .i64 x.1 (42 : Int))
                        (some ((true, (true, (false, ((BitVec.ofInt 32 (-32768)), ((32767#32), ()))))), true, ()))
                        (cond (eqI .i64 x.1 (43 : Int))
                         (some ((true, (true, (false, ((BitVec.ofInt 32 (-32768)), ((32767#32), ()))))), true, ()))
                         (cond (eqI .i64 x.1 (44 : Int))
                          (some ((true, (true, (false, ((BitVec.ofInt 32 (-32768)), ((32767#32), ()))))), true, ()))
                          (cond (eqI .i64 x.1 (45 : Int))
                           (some ((true, (true, (false, ((BitVec.ofInt 32 (-32768)), ((32767#32), ()))))), true, ()))
                           (cond (eqI .i64 x.1 (49 : Int))
                            (some ((true, (true, (false, ((BitVec.ofInt 32 (-32768)), ((32767#32), ()))))), true, ()))
                            (cond (eqI .i64 x.1 (17 : Int))
                             (some ((true, (true, (false, ((0#32), ((65535#32), ()))))), true, ()))
                             (cond (eqI .i64 x.1 (18 : Int))
                              (some ((true, (true, (false, ((0#32), ((65535#32), ()))))), true, ()))
                              (cond (eqI .i64 x.1 (19 : Int))
                               (some ((true, (true, (false, ((0#32), ((65535#32), ()))))), true, ()))
                               (cond (eqI .i64 x.1 (20 : Int))
                                (some ((true, (true, (false, ((0#32), ((31#32), ()))))), true, ()))
                                (cond (eqI .i64 x.1 (21 : Int))
                                 (some ((true, (true, (false, ((0#32), ((31#32), ()))))), true, ()))
                                 (cond (eqI .i64 x.1 (22 : Int))
                                  (some ((true, (true, (false, ((0#32), ((31#32), ()))))), true, ()))
                                  (cond (eqI .i64 x.1 (24 : Int))
                                   (some ((true, (false, (false, ((0#32), ((65535#32), ()))))), true, ()))
                                   (cond (eqI .i64 x.1 (48 : Int))
                                    (some ((true, (false, (false, ((BitVec.ofInt 32 (-32768)), ((32767#32), ()))))), true, ()))
                                    (cond (eqI .i64 x.1 (58 : Int))
                                     (some ((true, (false, (false, ((0#32), ((7#32), ()))))), true, ()))
                                     (cond (eqI .i64 x.1 (59 : Int))
                                      (some ((true, (false, (false, ((0#32), ((7#32), ()))))), true, ()))
                                      (cond (eqI .i64 x.1 (60 : Int))
                                       (some ((true, (false, (false, ((0#32), ((11#32), ()))))), true, ()))
                                       (cond (eqI .i64 x.1 (61 : Int))
                                        (some ((true, (false, (false, ((0#32), ((11#32), ()))))), true, ()))
                                        ((G201 (x.1, ())).bind fun r1 =>
                                         some ((false, (false, (false, ((0#32), ((0#32), ()))))), (!(decide (r1.1 = ([] : List (BitVec 8))))), ()))))))))))))))))))))))))))))))))))))))))
noncomputable def K156 : Con := ⟨(.cons (.int .i64) .nil), (.cons (.cons .bool (.cons .bool (.cons .bool (.cons (.int .i32) (.cons (.int .i32) .nil))))) (.cons .bool .nil)), false, G156⟩
noncomputable def C156 : List (FuncId × Con) := [(201, K201)]
noncomputable def D156 : List (FuncId × Con) := []
noncomputable def A156 : List (FuncId × Nat × Ann) := []
theorem S156 : Sat Tryz.prog gls 156 K156 :=
  Sat.congr (runF_ok (E := EC C156) (cd := D156) (n := 8) (an := anL A156) mo (con_ok _) (ConOk.cons S201 <| ConOk.nil _ _) (ConOk.nil _ _) (by rfl)) (fun x => by kernel_rfl)
/-- vmfleet/bits.SignExtend -/
noncomputable def G157 (x : (BitVec 32) × ((Int) × (Unit))) : Option ((BitVec 32) × (Unit)) :=
  cond (ltI .i64 x.2.1 (1 : Int))
  (some ((0#32), ()))
  (cond (leI .i64 (32 : Int) x.2.1)
   (some (x.1, ()))
   (if (cntOk .i64 (sub .i64 (32 : Int) x.2.1)) = true then
    if (cntOk .i64 (sub .i64 (32 : Int) x.2.1)) = true then
    let v1 := (shr .i32 (cv .u32 .i32 (shl .u32 x.1 (cnt .i64 (sub .i64 (32 : Int) x.2.1)))) (cnt .i64 (sub .i64 (32 : Int) x.2.1)))
    some ((cv .i32 .u32 v1), ())
    else none
    else none))
noncomputable def K157 : Con := ⟨(.cons (.int .u32) (.cons (.int .i64) .nil)), (.cons (.int .u32) .nil), false, G157⟩
noncomputable def C157 : List (FuncId × Con) := []
noncomputable def D157 : List (FuncId × Con) := []
noncomputable def A157 : List (FuncId × Nat × Ann) := []
theorem S157 : Sat Tryz.prog gls 157 K157 :=
  Sat.congr (runF_ok (E := EC C157) (cd := D157) (n := 8) (an := anL A157) mo (con_ok _) (ConOk.nil _ _) (ConOk.nil _ _) (by rfl)) (fun x => by kernel_rfl)
/-- vmfleet/isa.register -/
noncomputable def G202 (x : (Int) × ((Bool) × (Unit))) : Option ((Bool) × (Unit)) :=
  cond (eqI .i64 x.1 (0 : Int))
  (some (true, ()))
  (cond x.2.1
   (cond (ltI .i64 (0 : Int) x.1)
    (some ((ltI .i64 x.1 (16 : Int)), ()))
    (some (false, ())))
   (some (false, ())))
noncomputable def K202 : Con := ⟨(.cons (.int .i64) (.cons .bool .nil)), (.cons .bool .nil), false, G202⟩
noncomputable def C202 : List (FuncId × Con) := []
noncomputable def D202 : List (FuncId × Con) := []
noncomputable def A202 : List (FuncId × Nat × Ann) := []
theorem S202 : Sat Tryz.prog gls 202 K202 :=
  Sat.congr (runF_ok (E := EC C202) (cd := D202) (n := 8) (an := anL A202) mo (con_ok _) (ConOk.nil _ _) (ConOk.nil _ _) (by rfl)) (fun x => by kernel_rfl)
/-- vmfleet/isa.Valid -/
noncomputable def G158 (x : ((Int) × ((Int) × ((Int) × ((Int) × ((BitVec 32) × (Unit)))))) × (Unit)) : Option ((Bool) × (Unit)) :=
  (G156 (x.1.1, ())).bind fun r1 =>
  cond r1.2.1
  ((G202 (x.1.2.1, r1.1.1, ())).bind fun r2 =>
   cond r2.1
   ((G202 (x.1.2.2.1, r1.1.2.1, ())).bind fun r3 =>
    cond r3.1
    ((G202 (x.1.2.2.2.1, r1.1.2.2.1, ())).bind fun r4 =>
     cond r4.1
     (cond (leI .i32 r1.1.2.2.2.1 x.1.2.2.2.2.1)
      (some ((leI .i32 x.1.2.2.2.2.1 r1.1.2.2.2.2.1), ()))
      (some (false, ())))
     (some (false, ())))
    (some (false, ())))
   (some (false, ())))
  (some (false, ()))
noncomputable def K158 : Con := ⟨(.cons (.cons (.int .i64) (.cons (.int .i64) (.cons (.int .i64) (.cons (.int .i64) (.cons (.int .i32) .nil))))) .nil), (.cons .bool .nil), false, G158⟩
noncomputable def C158 : List (FuncId × Con) := [(156, K156), (202, K202)]
noncomputable def D158 : List (FuncId × Con) := []
noncomputable def A158 : List (FuncId × Nat × Ann) := []
theorem S158 : Sat Tryz.prog gls 158 K158 :=
  Sat.congr (runF_ok (E := EC C158) (cd := D158) (n := 8) (an := anL A158) mo (con_ok _) (ConOk.cons S156 <| ConOk.cons S202 <| ConOk.nil _ _) (ConOk.nil _ _) (by rfl)) (fun x => by kernel_rfl)
/-- vmfleet/isa.Decode -/
noncomputable def G106 (x : (BitVec 32) × (Unit)) : Option (((Int) × ((Int) × ((Int) × ((Int) × ((BitVec 32) × (Unit)))))) × ((Bool) × (Unit))) :=
  (G155 (x.1, (24 : Int), (8 : Int), ())).bind fun r1 =>
  (G155 (x.1, (20 : Int), (4 : Int), ())).bind fun r2 =>
  (G155 (x.1, (16 : Int), (4 : Int), ())).bind fun r3 =>
  (G156 ((cv .u32 .i64 r1.1), ())).bind fun r4 =>
  (G155 (x.1, (0 : Int), (16 : Int), ())).bind fun r5 =>
  cond (!r4.2.1)
  (some (((0 : Int), ((0 : Int), ((0 : Int), ((0 : Int), ((0#32), ()))))), false, ()))
  (cond r4.1.2.2.1
   ((G158 (((cv .u32 .i64 r1.1), ((cv .u32 .i64 r2.1), ((cv .u32 .i64 r3.1), ((cv .u32 .i64 r5.1), ((0#32), ()))))), ())).bind fun r6 =>
    cond (!r6.1)
    (some (((0 : Int), ((0 : Int), ((0 : Int), ((0 : Int), ((0#32), ()))))), false, ()))
    (some (((cv .u32 .i64 r1.1), ((cv .u32 .i64 r2.1), ((cv .u32 .i64 r3.1), ((cv .u32 .i64 r5.1), ((0#32), ()))))), true, ())))
   (cond (ltI .i32 r4.1.2.2.2.1 (0#32))
    ((G157 (r5.1, (16 : Int), ())).bind fun r7 =>
     (G158 (((cv .u32 .i64 r1.1), ((cv .u32 .i64 r2.1), ((cv .u32 .i64 r3.1), ((0 : Int), ((cv .u32 .i32 r7.1), ()))))), ())).bind fun r8 =>
     cond (!r8.1)
     (some (((0 : Int), ((0 : Int), ((0 : Int), ((0 : Int), ((0#32), ()))))), false, ()))
     (some (((cv .u32 .i64 r1.1), ((cv .u32 .i64 r2.1), ((cv .u32 .i64 r3.1), ((0 : Int), ((cv .u32 .i32 r7.1), ()))))), true, ())))
    ((G158 (((cv .u32 .i64 r1.1), ((cv .u32 .i64 r2.1), ((cv .u32 .i64 r3.1), ((0 : Int), ((cv .u32 .i32 r5.1), ()))))), ())).bind fun r9 =>
     cond (!r9.1)
     (some (((0 : Int), ((0 : Int), ((0 : Int), ((0 : Int), ((0#32), ()))))), false, ()))
     (some (((cv .u32 .i64 r1.1), ((cv .u32 .i64 r2.1), ((cv .u32 .i64 r3.1), ((0 : Int), ((cv .u32 .i32 r5.1), ()))))), true, ())))))
noncomputable def K106 : Con := ⟨(.cons (.int .u32) .nil), (.cons (.cons (.int .i64) (.cons (.int .i64) (.cons (.int .i64) (.cons (.int .i64) (.cons (.int .i32) .nil))))) (.cons .bool .nil)), false, G106⟩
noncomputable def C106 : List (FuncId × Con) := [(155, K155), (156, K156), (157, K157), (158, K158)]
noncomputable def D106 : List (FuncId × Con) := []
noncomputable def A106 : List (FuncId × Nat × Ann) := []
theorem S106 : Sat Tryz.prog gls 106 K106 :=
  Sat.congr (runF_ok (E := EC C106) (cd := D106) (n := 8) (an := anL A106) mo (con_ok _) (ConOk.cons S155 <| ConOk.cons S156 <| ConOk.cons S157 <| ConOk.cons S158 <| ConOk.nil _ _) (ConOk.nil _ _) (by rfl)) (fun x => by kernel_rfl)
/-- vmfleet/isa.Privileged -/
noncomputable def G147 (x : (Int) × (Unit)) : Option ((Bool) × (Unit)) :=
  cond (eqI .i64 x.1 (57 : Int))
  (some (true, ()))
  (cond (eqI .i64 x.1 (58 : Int))
   (some (true, ()))
   (cond (eqI .i64 x.1 (59 : Int))
    (some (true, ()))
    (cond (eqI .i64 x.1 (60 : Int))
     (some (true, ()))
     (cond (eqI .i64 x.1 (61 : Int))
      (some (true, ()))
      (cond (eqI .i64 x.1 (62 : Int))
       (some (true, ()))
       (cond (eqI .i64 x.1 (63 : Int))
        (some (true, ()))
        (cond (eqI .i64 x.1 (64 : Int))
         (some (true, ()))
         (some (false, ())))))))))
noncomputable def K147 : Con := ⟨(.cons (.int .i64) .nil), (.cons .bool .nil), false, G147⟩
noncomputable def C147 : List (FuncId × Con) := []
noncomputable def D147 : List (FuncId × Con) := []
noncomputable def A147 : List (FuncId × Nat × Ann) := []
theorem S147 : Sat Tryz.prog gls 147 K147 :=
  Sat.congr (runF_ok (E := EC C147) (cd := D147) (n := 8) (an := anL A147) mo (con_ok _) (ConOk.nil _ _) (ConOk.nil _ _) (by rfl)) (fun x => by kernel_rfl)
/-- vmfleet/cpu.load -/
noncomputable def G178 (x : ((List (BitVec 32)) × ((BitVec 32) × ((List (BitVec 32)) × (Unit)))) × ((List (BitVec 32)) × ((BitVec 32) × ((Int) × (Unit))))) : Option ((BitVec 32) × ((List (BitVec 32)) × ((Int) × (Unit)))) :=
  jn (R := (BitVec 32) × ((List (BitVec 32)) × ((Int) × (Unit)))) (Z := (Int) × (Unit))
  (cond (eqI .i64 x.2.2.2.1 (32 : Int))
   (some (Sum.inr ((4 : Int), ())))
   (some (Sum.inr ((1 : Int), ()))))
  fun z1 =>
  (G153 (x.1, x.2.1, x.2.2.1, z1.1, (2 : Int), ())).bind fun r2 =>
  cond (!eqI .i64 r2.2.2.1 (0 : Int))
  (some ((0#32), r2.2.1, r2.2.2.1, ()))
  ((G154 (r2.2.1, r2.1, z1.1, ())).bind fun r3 =>
   cond (eqI .i64 x.2.2.2.1 (33 : Int))
   ((G157 (r3.1, (8 : Int), ())).bind fun r4 =>
    some (r4.1, r2.2.1, (0 : Int), ()))
   (some (r3.1, r2.2.1, (0 : Int), ())))
noncomputable def K178 : Con := ⟨(.cons (.cons (.arr 16 (.int .u32)) (.cons (.int .u32) (.cons (.arr 8 (.int .u32)) .nil))) (.cons (.sl (.int .u32)) (.cons (.int .u32) (.cons (.int .i64) .nil)))), (.cons (.int .u32) (.cons (.sl (.int .u32)) (.cons (.int .i64) .nil))), false, G178⟩
noncomputable def C178 : List (FuncId × Con) := [(153, K153), (154, K154), (157, K157)]
noncomputable def D178 : List (FuncId × Con) := []
noncomputable def A178 : List (FuncId × Nat × Ann) := [(178, 0, (.nd none .nil (.nd none .nil (.nd (some ⟨[(.slot 11, (.dat (.int .i64)))], [11, 16, 17], []⟩) .nil .nil))))]
theorem S178 : Sat Tryz.prog gls 178 K178 :=
  Sat.congr (runF_ok (E := EC C178) (cd := D178) (n := 8) (an := anL A178) mo (con_ok _) (ConOk.cons S153 <| ConOk.cons S154 <| ConOk.cons S157 <| ConOk.nil _ _) (ConOk.nil _ _) (by rfl)) (fun x => by kernel_rfl)
/-- vmfleet/cpu.taken -/
noncomputable def G180 (x : (Int) × ((BitVec 32) × ((BitVec 32) × (Unit)))) : Option ((Bool) × (Unit)) :=
  cond (eqI .i64 x.1 (40 : Int))
  (some ((eqI .u32 x.2.1 x.2.2.1), ()))
  (cond (eqI .i64 x.1 (41 : Int))
   (some ((!eqI .u32 x.2.1 x.2.2.1), ()))
   (cond (eqI .i64 x.1 (42 : Int))
    (some ((ltI .i32 (cv .u32 .i32 x.2.1) (cv .u32 .i32 x.2.2.1)), ()))
    (cond (eqI .i64 x.1 (43 : Int))
     (some ((leI .i32 (cv .u32 .i32 x.2.2.1) (cv .u32 .i32 x.2.1)), ()))
     (cond (eqI .i64 x.1 (44 : Int))
      (some ((ltI .u32 x.2.1 x.2.2.1), ()))
      (some ((leI .u32 x.2.2.1 x.2.1), ()))))))
noncomputable def K180 : Con := ⟨(.cons (.int .i64) (.cons (.int .u32) (.cons (.int .u32) .nil))), (.cons .bool .nil), false, G180⟩
noncomputable def C180 : List (FuncId × Con) := []
noncomputable def D180 : List (FuncId × Con) := []
noncomputable def A180 : List (FuncId × Nat × Ann) := []
theorem S180 : Sat Tryz.prog gls 180 K180 :=
  Sat.congr (runF_ok (E := EC C180) (cd := D180) (n := 8) (an := anL A180) mo (con_ok _) (ConOk.nil _ _) (ConOk.nil _ _) (by rfl)) (fun x => by kernel_rfl)
/-- vmfleet/cpu.Return -/
noncomputable def G181 (x : ((List (BitVec 32)) × ((BitVec 32) × ((List (BitVec 32)) × (Unit)))) × (Unit)) : Option (((List (BitVec 32)) × ((BitVec 32) × ((List (BitVec 32)) × (Unit)))) × (Unit)) :=
  if (inR .i64 (0 : Int) 8) = true then
  (G176 ((List.getD x.1.2.2.1 (cnt .i64 (0 : Int)) (0#32)), (8#32), (1#32), ())).bind fun r1 =>
  (G176 (r1.1, (16#32), (2#32), ())).bind fun r2 =>
  if (inR .i64 (0 : Int) 8) = true then
  if (inR .i64 (2 : Int) 8) = true then
  some ((x.1.1, ((List.getD (List.set x.1.2.2.1 (cnt .i64 (0 : Int)) r2.1) (cnt .i64 (2 : Int)) (0#32)), ((List.set x.1.2.2.1 (cnt .i64 (0 : Int)) r2.1), x.1.2.2.2))), ())
  else none
  else none
  else none
noncomputable def K181 : Con := ⟨(.cons (.cons (.arr 16 (.int .u32)) (.cons (.int .u32) (.cons (.arr 8 (.int .u32)) .nil))) .nil), (.cons (.cons (.arr 16 (.int .u32)) (.cons (.int .u32) (.cons (.arr 8 (.int .u32)) .nil))) .nil), false, G181⟩
noncomputable def C181 : List (FuncId × Con) := [(176, K176)]
noncomputable def D181 : List (FuncId × Con) := []
noncomputable def A181 : List (FuncId × Nat × Ann) := []
theorem S181 : Sat Tryz.prog gls 181 K181 :=
  Sat.congr (runF_ok (E := EC C181) (cd := D181) (n := 8) (an := anL A181) mo (con_ok _) (ConOk.cons S176 <| ConOk.nil _ _) (ConOk.nil _ _) (by rfl)) (fun x => by kernel_rfl)
/-- vmfleet/cpu.Write -/
noncomputable def G182 (x : ((List (BitVec 32)) × ((BitVec 32) × ((List (BitVec 32)) × (Unit)))) × ((Int) × ((BitVec 32) × (Unit)))) : Option (((List (BitVec 32)) × ((BitVec 32) × ((List (BitVec 32)) × (Unit)))) × (Unit)) :=
  cond (eqI .i64 x.2.1 (0 : Int))
  (if (inR .i64 x.2.1 8) = true then
   some ((x.1.1, (x.1.2.1, ((List.set x.1.2.2.1 (cnt .i64 x.2.1) (andI .u32 x.2.2.1 (31#32))), x.1.2.2.2))), ())
   else none)
  (cond (eqI .i64 x.2.1 (7 : Int))
   (if (inR .i64 x.2.1 8) = true then
    some ((x.1.1, (x.1.2.1, ((List.set x.1.2.2.1 (cnt .i64 x.2.1) (andI .u32 x.2.2.1 (31#32))), x.1.2.2.2))), ())
    else none)
   (cond (eqI .i64 x.2.1 (6 : Int))
    (if (inR .i64 x.2.1 8) = true then
     some ((x.1.1, (x.1.2.1, ((List.set x.1.2.2.1 (cnt .i64 x.2.1) (andI .u32 x.2.2.1 (255#32))), x.1.2.2.2))), ())
     else none)
    (cond (eqI .i64 x.2.1 (1 : Int))
     (if (inR .i64 x.2.1 8) = true then
      some ((x.1.1, (x.1.2.1, ((List.set x.1.2.2.1 (cnt .i64 x.2.1) (andNot .u32 x.2.2.1 (3#32))), x.1.2.2.2))), ())
      else none)
     (cond (eqI .i64 x.2.1 (2 : Int))
      (if (inR .i64 x.2.1 8) = true then
       some ((x.1.1, (x.1.2.1, ((List.set x.1.2.2.1 (cnt .i64 x.2.1) (andNot .u32 x.2.2.1 (3#32))), x.1.2.2.2))), ())
       else none)
      (cond (eqI .i64 x.2.1 (3 : Int))
       (if (inR .i64 x.2.1 8) = true then
        some ((x.1.1, (x.1.2.1, ((List.set x.1.2.2.1 (cnt .i64 x.2.1) x.2.2.1), x.1.2.2.2))), ())
        else none)
       (cond (eqI .i64 x.2.1 (4 : Int))
        (if (inR .i64 x.2.1 8) = true then
         some ((x.1.1, (x.1.2.1, ((List.set x.1.2.2.1 (cnt .i64 x.2.1) x.2.2.1), x.1.2.2.2))), ())
         else none)
        (cond (eqI .i64 x.2.1 (5 : Int))
         (if (inR .i64 x.2.1 8) = true then
          some ((x.1.1, (x.1.2.1, ((List.set x.1.2.2.1 (cnt .i64 x.2.1) x.2.2.1), x.1.2.2.2))), ())
          else none)
         (some (x.1, ())))))))))
noncomputable def K182 : Con := ⟨(.cons (.cons (.arr 16 (.int .u32)) (.cons (.int .u32) (.cons (.arr 8 (.int .u32)) .nil))) (.cons (.int .i64) (.cons (.int .u32) .nil))), (.cons (.cons (.arr 16 (.int .u32)) (.cons (.int .u32) (.cons (.arr 8 (.int .u32)) .nil))) .nil), false, G182⟩
noncomputable def C182 : List (FuncId × Con) := []
noncomputable def D182 : List (FuncId × Con) := []
noncomputable def A182 : List (FuncId × Nat × Ann) := []
theorem S182 : Sat Tryz.prog gls 182 K182 :=
  Sat.congr (runF_ok (E := EC C182) (cd := D182) (n := 8) (an := anL A182) mo (con_ok _) (ConOk.nil _ _) (ConOk.nil _ _) (by rfl)) (fun x => by kernel_rfl)
/-- vmfleet/cpu.effect -/
noncomputable def G183 (x : (Int) × (Unit)) : Option ((Int) × (Unit)) :=
  cond (eqI .i64 x.1 (63 : Int))
  (some ((add .i64 (add .i64 (3 : Int) (1 : Int)) (1 : Int)), ()))
  (cond (eqI .i64 x.1 (64 : Int))
   (some ((add .i64 (3 : Int) (1 : Int)), ()))
   (some ((3 : Int), ())))
noncomputable def K183 : Con := ⟨(.cons (.int .i64) .nil), (.cons (.int .i64) .nil), false, G183⟩
noncomputable def C183 : List (FuncId × Con) := []
noncomputable def D183 : List (FuncId × Con) := []
noncomputable def A183 : List (FuncId × Nat × Ann) := []
theorem S183 : Sat Tryz.prog gls 183 K183 :=
  Sat.congr (runF_ok (E := EC C183) (cd := D183) (n := 8) (an := anL A183) mo (con_ok _) (ConOk.nil _ _) (ConOk.nil _ _) (by rfl)) (fun x => by kernel_rfl)
/-- vmfleet/bits.Divide -/
noncomputable def G221 (x : (BitVec 32) × ((BitVec 32) × (Unit))) : Option ((BitVec 32) × ((BitVec 32) × (Unit))) :=
  jn (R := (BitVec 32) × ((BitVec 32) × (Unit))) (Z := Unit)
  (cond (eqI .u32 x.2.1 (0#32))
   (some (Sum.inl ((4294967295#32), x.1, ())))
   (cond (eqI .u32 x.1 (2147483648#32))
    (cond (eqI .u32 x.2.1 (4294967295#32))
     (some (Sum.inl (x.1, (0#32), ())))
     (some (Sum.inr ())))
    (some (Sum.inr ()))))
  fun z1 =>
  if (!isZ .i32 (cv .u32 .i32 x.2.1)) = true then
  if (!isZ .i32 (cv .u32 .i32 x.2.1)) = true then
  some ((cv .i32 .u32 (quo .i32 (cv .u32 .i32 x.1) (cv .u32 .i32 x.2.1))), (cv .i32 .u32 (rem .i32 (cv .u32 .i32 x.1) (cv .u32 .i32 x.2.1))), ())
  else none
  else none
noncomputable def K221 : Con := ⟨(.cons (.int .u32) (.cons (.int .u32) .nil)), (.cons (.int .u32) (.cons (.int .u32) .nil)), false, G221⟩
noncomputable def C221 : List (FuncId × Con) := []
noncomputable def D221 : List (FuncId × Con) := []
noncomputable def A221 : List (FuncId × Nat × Ann) := [(221, 0, (.nd none .nil (.nd (some ⟨[], [6, 7, 8, 10, 11, 12, 13, 14, 15, 16], []⟩) .nil .nil)))]
theorem S221 : Sat Tryz.prog gls 221 K221 :=
  Sat.congr (runF_ok (E := EC C221) (cd := D221) (n := 8) (an := anL A221) mo (con_ok _) (ConOk.nil _ _) (ConOk.nil _ _) (by rfl)) (fun x => by kernel_rfl)
/-- vmfleet/cpu.truth -/
noncomputable def G222 (x : (Bool) × (Unit)) : Option ((BitVec 32) × (Unit)) :=
  cond x.1
  (some ((1#32), ()))
  (some ((0#32), ()))
noncomputable def K222 : Con := ⟨(.cons .bool .nil), (.cons (.int .u32) .nil), false, G222⟩
noncomputable def C222 : List (FuncId × Con) := []
noncomputable def D222 : List (FuncId × Con) := []
noncomputable def A222 : List (FuncId × Nat × Ann) := []
theorem S222 : Sat Tryz.prog gls 222 K222 :=
  Sat.congr (runF_ok (E := EC C222) (cd := D222) (n := 8) (an := anL A222) mo (con_ok _) (ConOk.nil _ _) (ConOk.nil _ _) (by rfl)) (fun x => by kernel_rfl)
/-- vmfleet/cpu.Alu -/
noncomputable def G184 (x : (Int) × ((BitVec 32) × ((BitVec 32) × (Unit)))) : Option ((BitVec 32) × ((Bool) × (Unit))) :=
  cond (eqI .i64 x.1 (1 : Int))
  (some ((add .u32 x.2.1 x.2.2.1), true, ()))
  (cond (eqI .i64 x.1 (16 : Int))
   (some ((add .u32 x.2.1 x.2.2.1), true, ()))
   (cond (eqI .i64 x.1 (2 : Int))
    (some ((sub .u32 x.2.1 x.2.2.1), true, ()))
    (cond (eqI .i64 x.1 (3 : Int))
     (some ((andI .u32 x.2.1 x.2.2.1), true, ()))
     (cond (eqI .i64 x.1 (17 : Int))
      (some ((andI .u32 x.2.1 x.2.2.1), true, ()))
      (cond (eqI .i64 x.1 (4 : Int))
       (some ((orI .u32 x.2.1 x.2.2.1), true, ()))
       (cond (eqI .i64 x.1 (18 : Int))
        (some ((orI .u32 x.2.1 x.2.2.1), true, ()))
        (cond (eqI .i64 x.1 (5 : Int))
         (some ((xorI .u32 x.2.1 x.2.2.1), true, ()))
         (cond (eqI .i64 x.1 (19 : Int))
          (some ((xorI .u32 x.2.1 x.2.2.1), true, ()))
          (cond (eqI .i64 x.1 (6 : Int))
           (some ((shl .u32 x.2.1 (cnt .u32 (andI .u32 x.2.2.1 (31#32)))), true, ()))
           (cond (eqI .i64 x.1 (20 : Int))
            (some ((shl .u32 x.2.1 (cnt .u32 (andI .u32 x.2.2.1 (31#32)))), true, ()))
            (cond (eqI .i64 x.1 (7 : Int))
             (some ((shr .u32 x.2.1 (cnt .u32 (andI .u32 x.2.2.1 (31#32)))), true, ()))
             (cond (eqI .i64 x.1 (21 : Int))
              (some ((shr .u32 x.2.1 (cnt .u32 (andI .u32 x.2.2.1 (31#32)))), true, ()))
              (cond (eqI .i64 x.1 (8 : Int))
               (some ((cv .i32 .u32 (shr .i32 (cv .u32 .i32 x.2.1) (cnt .u32 (andI .u32 x.2.2.1 (31#32))))), true, ()))
               (cond (eqI .i64 x.1 (22 : Int))
                (some ((cv .i32 .u32 (shr .i32 (cv .u32 .i32 x.2.1) (cnt .u32 (andI .u32 x.2.2.1 (31#32))))), true, ()))
                (cond (eqI .i64 x.1 (9 : Int))
                 (some ((mul .u32 x.2.1 x.2.2.1), true, ()))
                 (cond (eqI .i64 x.1 (10 : Int))
                  ((G221 (x.2.1, x.2.2.1, ())).bind fun r1 =>
                   some (r1.1, true, ()))
                  (cond (eqI .i64 x.1 (11 : Int))
                   ((G221 (x.2.1, x.2.2.1, ())).bind fun r2 =>
                    some (r2.2.1, true, ()))
                   (cond (eqI .i64 x.1 (12 : Int))
                    ((G222 ((ltI .i32 (cv .u32 .i32 x.2.1) (cv .u32 .i32 x.2.2.1)), ())).bind fun r3 =>
                     some (r3.1, true, ()))
                    (cond (eqI .i64 x.1 (23 : Int))
                     ((G222 ((ltI .i32 (cv .u32 .i32 x.2.1) (cv .u32 .i32 x.2.2.1)), ())).bind fun r4 =>
                      some (r4.1, true, ()))
                     (cond (eqI .i64 x.1 (13 : Int))
                      ((G222 ((ltI .u32 x.2.1 x.2.2.1), ())).bind fun r5 =>
                       some (r5.1, true, ()))
                      (some ((0#32), false, ()))))))))))))))))))))))
noncomputable def K184 : Con := ⟨(.cons (.int .i64) (.cons (.int .u32) (.cons (.int .u32) .nil))), (.cons (.int .u32) (.cons .bool .nil)), false, G184⟩
noncomputable def C184 : List (FuncId × Con) := [(221, K221), (222, K222)]
noncomputable def D184 : List (FuncId × Con) := []
noncomputable def A184 : List (FuncId × Nat × Ann) := []
theorem S184 : Sat Tryz.prog gls 184 K184 :=
  Sat.congr (runF_ok (E := EC C184) (cd := D184) (n := 8) (an := anL A184) mo (con_ok _) (ConOk.cons S221 <| ConOk.cons S222 <| ConOk.nil _ _) (ConOk.nil _ _) (by rfl)) (fun x => by kernel_rfl)
/-- vmfleet/cpu.execute -/
noncomputable def G148 (x : ((List (BitVec 32)) × ((BitVec 32) × ((List (BitVec 32)) × (Unit)))) × ((List (BitVec 32)) × (((Int) × ((Int) × ((Int) × ((Int) × ((BitVec 32) × (Unit)))))) × (Unit)))) : Option (((List (BitVec 32)) × ((BitVec 32) × ((List (BitVec 32)) × (Unit)))) × ((List (BitVec 32)) × (((Int) × ((Int) × ((Int) × ((BitVec 32) × (Unit))))) × (Unit)))) :=
  if (inR .i64 x.2.2.1.2.1 16) = true then
  if (inR .i64 x.2.2.1.2.2.1 16) = true then
  cond (eqI .i64 x.2.2.1.1 (24 : Int))
  (cond (!eqI .i64 x.2.2.1.2.1 (0 : Int))
   (if (inR .i64 x.2.2.1.2.1 16) = true then
    some (((List.set x.1.1 (cnt .i64 x.2.2.1.2.1) (shl .u32 (cv .i32 .u32 x.2.2.1.2.2.2.2.1) (cnt .u64 (16#64)))), ((add .u32 x.1.2.1 (4#32)), x.1.2.2)), x.2.1, ((0 : Int), ((0 : Int), ((0 : Int), ((0#32), ())))), ())
    else none)
   (some ((x.1.1, ((add .u32 x.1.2.1 (4#32)), x.1.2.2)), x.2.1, ((0 : Int), ((0 : Int), ((0 : Int), ((0#32), ())))), ())))
  (jn (R := ((List (BitVec 32)) × ((BitVec 32) × ((List (BitVec 32)) × (Unit)))) × ((List (BitVec 32)) × (((Int) × ((Int) × ((Int) × ((BitVec 32) × (Unit))))) × (Unit)))) (Z := (Bool) × (Unit))
   (cond (eqI .i64 x.2.2.1.1 (32 : Int))
    (some (Sum.inr (true, ())))
    (cond (eqI .i64 x.2.2.1.1 (33 : Int))
     (some (Sum.inr (true, ())))
     (some (Sum.inr ((eqI .i64 x.2.2.1.1 (34 : Int)), ())))))
   fun z1 =>
   cond z1.1
   ((G178 (x.1, x.2.1, (add .u32 (List.getD x.1.1 (cnt .i64 x.2.2.1.2.2.1) (0#32)) (cv .i32 .u32 x.2.2.1.2.2.2.2.1)), x.2.2.1.1, ())).bind fun r2 =>
    cond (!eqI .i64 r2.2.2.1 (0 : Int))
    ((G145 (x.1, r2.2.2.1, (add .u32 (List.getD x.1.1 (cnt .i64 x.2.2.1.2.2.1) (0#32)) (cv .i32 .u32 x.2.2.1.2.2.2.2.1)), ())).bind fun r3 =>
     some (r3.1, x.2.1, ((0 : Int), ((0 : Int), ((0 : Int), ((0#32), ())))), ()))
    (cond (!eqI .i64 x.2.2.1.2.1 (0 : Int))
     (if (inR .i64 x.2.2.1.2.1 16) = true then
      some (((List.set x.1.1 (cnt .i64 x.2.2.1.2.1) r2.1), ((add .u32 x.1.2.1 (4#32)), x.1.2.2)), r2.2.1, ((0 : Int), ((0 : Int), ((0 : Int), ((0#32), ())))), ())
      else none)
     (some ((x.1.1, ((add .u32 x.1.2.1 (4#32)), x.1.2.2)), r2.2.1, ((0 : Int), ((0 : Int), ((0 : Int), ((0#32), ())))), ()))))
   (jn (R := ((List (BitVec 32)) × ((BitVec 32) × ((List (BitVec 32)) × (Unit)))) × ((List (BitVec 32)) × (((Int) × ((Int) × ((Int) × ((BitVec 32) × (Unit))))) × (Unit)))) (Z := (Bool) × (Unit))
    (cond (eqI .i64 x.2.2.1.1 (35 : Int))
     (some (Sum.inr (true, ())))
     (some (Sum.inr ((eqI .i64 x.2.2.1.1 (36 : Int)), ()))))
    fun z4 =>
    cond z4.1
    (jn (R := ((List (BitVec 32)) × ((BitVec 32) × ((List (BitVec 32)) × (Unit)))) × ((List (BitVec 32)) × (((Int) × ((Int) × ((Int) × ((BitVec 32) × (Unit))))) × (Unit)))) (Z := (Int) × (Unit))
     (cond (eqI .i64 x.2.2.1.1 (36 : Int))
      (some (Sum.inr ((1 : Int), ())))
      (some (Sum.inr ((4 : Int), ()))))
     fun z5 =>
     (G153 (x.1, x.2.1, (add .u32 (List.getD x.1.1 (cnt .i64 x.2.2.1.2.2.1) (0#32)) (cv .i32 .u32 x.2.2.1.2.2.2.2.1)), z5.1, (3 : Int), ())).bind fun r6 =>
     cond (!eqI .i64 r6.2.2.1 (0 : Int))
     ((G145 (x.1, r6.2.2.1, (add .u32 (List.getD x.1.1 (cnt .i64 x.2.2.1.2.2.1) (0#32)) (cv .i32 .u32 x.2.2.1.2.2.2.2.1)), ())).bind fun r7 =>
      some (r7.1, x.2.1, ((0 : Int), ((0 : Int), ((0 : Int), ((0#32), ())))), ()))
     ((G179 (r6.2.1, r6.1, z5.1, (List.getD x.1.1 (cnt .i64 x.2.2.1.2.1) (0#32)), ())).bind fun r8 =>
      some ((x.1.1, ((add .u32 x.1.2.1 (4#32)), x.1.2.2)), r8.1, ((0 : Int), ((0 : Int), ((0 : Int), ((0#32), ())))), ())))
    (jn (R := ((List (BitVec 32)) × ((BitVec 32) × ((List (BitVec 32)) × (Unit)))) × ((List (BitVec 32)) × (((Int) × ((Int) × ((Int) × ((BitVec 32) × (Unit))))) × (Unit)))) (Z := (Bool) × (Unit))
     (cond (eqI .i64 x.2.2.1.1 (40 : Int))
      (some (Sum.inr (true, ())))
      (cond (eqI .i64 x.2.2.1.1 (41 : Int))
       (some (Sum.inr (true, ())))
       (cond (eqI .i64 x.2.2.1.1 (42 : Int))
        (some (Sum.inr (true, ())))
        (cond (eqI .i64 x.2.2.1.1 (43 : Int))
         (some (Sum.inr (true, ())))
         (cond (eqI .i64 x.2.2.1.1 (44 : Int))
          (some (Sum.inr (true, ())))
          (some (Sum.inr ((eqI .i64 x.2.2.1.1 (45 : Int)), ()))))))))
     fun z9 =>
     cond z9.1
     ((G180 (x.2.2.1.1, (List.getD x.1.1 (cnt .i64 x.2.2.1.2.1) (0#32)), (List.getD x.1.1 (cnt .i64 x.2.2.1.2.2.1) (0#32)), ())).bind fun r10 =>
      cond r10.1
      (some ((x.1.1, ((add .u32 x.1.2.1 (mul .u32 (4#32) (cv .i32 .u32 x.2.2.1.2.2.2.2.1))), x.1.2.2)), x.2.1, ((0 : Int), ((0 : Int), ((0 : Int), ((0#32), ())))), ()))
      (some ((x.1.1, ((add .u32 x.1.2.1 (4#32)), x.1.2.2)), x.2.1, ((0 : Int), ((0 : Int), ((0 : Int), ((0#32), ())))), ())))
     (cond (eqI .i64 x.2.2.1.1 (48 : Int))
      (cond (!eqI .i64 x.2.2.1.2.1 (0 : Int))
       (if (inR .i64 x.2.2.1.2.1 16) = true then
        some (((List.set x.1.1 (cnt .i64 x.2.2.1.2.1) (add .u32 x.1.2.1 (4#32))), ((add .u32 x.1.2.1 (mul .u32 (4#32) (cv .i32 .u32 x.2.2.1.2.2.2.2.1))), x.1.2.2)), x.2.1, ((0 : Int), ((0 : Int), ((0 : Int), ((0#32), ())))), ())
        else none)
       (some ((x.1.1, ((add .u32 x.1.2.1 (mul .u32 (4#32) (cv .i32 .u32 x.2.2.1.2.2.2.2.1))), x.1.2.2)), x.2.1, ((0 : Int), ((0 : Int), ((0 : Int), ((0#32), ())))), ())))
      (cond (eqI .i64 x.2.2.1.1 (49 : Int))
       (cond (!eqI .i64 x.2.2.1.2.1 (0 : Int))
        (if (inR .i64 x.2.2.1.2.1 16) = true then
         some (((List.set x.1.1 (cnt .i64 x.2.2.1.2.1) (add .u32 x.1.2.1 (4#32))), ((add .u32 (List.getD x.1.1 (cnt .i64 x.2.2.1.2.2.1) (0#32)) (cv .i32 .u32 x.2.2.1.2.2.2.2.1)), x.1.2.2)), x.2.1, ((0 : Int), ((0 : Int), ((0 : Int), ((0#32), ())))), ())
         else none)
        (some ((x.1.1, ((add .u32 (List.getD x.1.1 (cnt .i64 x.2.2.1.2.2.1) (0#32)) (cv .i32 .u32 x.2.2.1.2.2.2.2.1)), x.1.2.2)), x.2.1, ((0 : Int), ((0 : Int), ((0 : Int), ((0#32), ())))), ())))
       (cond (eqI .i64 x.2.2.1.1 (56 : Int))
        ((G145 (x.1, (7 : Int), (0#32), ())).bind fun r11 =>
         some (r11.1, x.2.1, ((0 : Int), ((0 : Int), ((0 : Int), ((0#32), ())))), ()))
        (cond (eqI .i64 x.2.2.1.1 (57 : Int))
         ((G181 (x.1, ())).bind fun r12 =>
          some (r12.1, x.2.1, ((0 : Int), ((0 : Int), ((0 : Int), ((0#32), ())))), ()))
         (cond (eqI .i64 x.2.2.1.1 (58 : Int))
          (if (inR .i32 x.2.2.1.2.2.2.2.1 8) = true then
           cond (!eqI .i64 x.2.2.1.2.1 (0 : Int))
           (if (inR .i64 x.2.2.1.2.1 16) = true then
            some (((List.set x.1.1 (cnt .i64 x.2.2.1.2.1) (List.getD x.1.2.2.1 (cnt .i32 x.2.2.1.2.2.2.2.1) (0#32))), ((add .u32 x.1.2.1 (4#32)), x.1.2.2)), x.2.1, ((0 : Int), ((0 : Int), ((0 : Int), ((0#32), ())))), ())
            else none)
           (some ((x.1.1, ((add .u32 x.1.2.1 (4#32)), x.1.2.2)), x.2.1, ((0 : Int), ((0 : Int), ((0 : Int), ((0#32), ())))), ()))
           else none)
          (cond (eqI .i64 x.2.2.1.1 (59 : Int))
           ((G182 ((x.1.1, ((add .u32 x.1.2.1 (4#32)), x.1.2.2)), (cv .i32 .i64 x.2.2.1.2.2.2.2.1), (List.getD x.1.1 (cnt .i64 x.2.2.1.2.1) (0#32)), ())).bind fun r13 =>
            some (r13.1, x.2.1, ((0 : Int), ((0 : Int), ((0 : Int), ((0#32), ())))), ()))
           (cond (eqI .i64 x.2.2.1.1 (60 : Int))
            (some ((x.1.1, ((add .u32 x.1.2.1 (4#32)), x.1.2.2)), x.2.1, ((1 : Int), ((cv .i32 .i64 x.2.2.1.2.2.2.2.1), (x.2.2.1.2.1, ((0#32), ())))), ()))
            (cond (eqI .i64 x.2.2.1.1 (61 : Int))
             (some ((x.1.1, ((add .u32 x.1.2.1 (4#32)), x.1.2.2)), x.2.1, ((2 : Int), ((cv .i32 .i64 x.2.2.1.2.2.2.2.1), ((0 : Int), ((List.getD x.1.1 (cnt .i64 x.2.2.1.2.1) (0#32)), ())))), ()))
             (cond (eqI .i64 x.2.2.1.1 (64 : Int))
              ((G183 (x.2.2.1.1, ())).bind fun r14 =>
               some ((x.1.1, ((add .u32 x.1.2.1 (4#32)), x.1.2.2)), x.2.1, (r14.1, ((0 : Int), ((0 : Int), ((0#32), ())))), ()))
              (cond (eqI .i64 x.2.2.1.1 (63 : Int))
               ((G183 (x.2.2.1.1, ())).bind fun r15 =>
                some ((x.1.1, ((add .u32 x.1.2.1 (4#32)), x.1.2.2)), x.2.1, (r15.1, ((0 : Int), ((0 : Int), ((0#32), ())))), ()))
               (cond (eqI .i64 x.2.2.1.1 (62 : Int))
                ((G183 (x.2.2.1.1, ())).bind fun r16 =>
                 some ((x.1.1, ((add .u32 x.1.2.1 (4#32)), x.1.2.2)), x.2.1, (r16.1, ((0 : Int), ((0 : Int), ((0#32), ())))), ()))
                (jn (R := ((List (BitVec 32)) × ((BitVec 32) × ((List (BitVec 32)) × (Unit)))) × ((List (BitVec 32)) × (((Int) × ((Int) × ((Int) × ((BitVec 32) × (Unit))))) × (Unit)))) (Z := (BitVec 32) × (Unit))
                 (cond (ltI .i64 x.2.2.1.1 (16 : Int))
                  (if (inR .i64 x.2.2.1.2.2.2.1 16) = true then
                   some (Sum.inr ((List.getD x.1.1 (cnt .i64 x.2.2.1.2.2.2.1) (0#32)), ()))
                   else none)
                  (some (Sum.inr ((cv .i32 .u32 x.2.2.1.2.2.2.2.1), ()))))
                 fun z17 =>
                 (G184 (x.2.2.1.1, (List.getD x.1.1 (cnt .i64 x.2.2.1.2.2.1) (0#32)), z17.1, ())).bind fun r18 =>
                 cond (!eqI .i64 x.2.2.1.2.1 (0 : Int))
                 (if (inR .i64 x.2.2.1.2.1 16) = true then
                  some (((List.set x.1.1 (cnt .i64 x.2.2.1.2.1) r18.1), ((add .u32 x.1.2.1 (4#32)), x.1.2.2)), x.2.1, ((0 : Int), ((0 : Int), ((0 : Int), ((0#32), ())))), ())
                  else none)
                 (some ((x.1.1, ((add .u32 x.1.2.1 (4#32)), x.1.2.2)), x.2.1, ((0 : Int), ((0 : Int), ((0 : Int), ((0#32), ())))), ())))))))))))))))))
  else none
  else none
noncomputable def K148 : Con := ⟨(.cons (.cons (.arr 16 (.int .u32)) (.cons (.int .u32) (.cons (.arr 8 (.int .u32)) .nil))) (.cons (.sl (.int .u32)) (.cons (.cons (.int .i64) (.cons (.int .i64) (.cons (.int .i64) (.cons (.int .i64) (.cons (.int .i32) .nil))))) .nil))), (.cons (.cons (.arr 16 (.int .u32)) (.cons (.int .u32) (.cons (.arr 8 (.int .u32)) .nil))) (.cons (.sl (.int .u32)) (.cons (.cons (.int .i64) (.cons (.int .i64) (.cons (.int .i64) (.cons (.int .u32) .nil)))) .nil))), false, G148⟩
noncomputable def C148 : List (FuncId × Con) := [(153, K153), (178, K178), (179, K179), (180, K180), (182, K182), (183, K183), (184, K184)]
noncomputable def D148 : List (FuncId × Con) := [(145, K145), (181, K181)]
noncomputable def A148 : List (FuncId × Nat × Ann) := [(148, 0, (.nd none .nil (.nd none .nil (.nd none .nil (.nd none .nil (.nd none .nil (.nd none .nil (.nd none (.nd none .nil (.nd none (.nd none .nil (.nd none .nil (.nd (some ⟨[(.slot 70, (.dat .bool))], [70, 71, 72, 73], []⟩) .nil (.nd none .nil (.nd (some ⟨[(.slot 101, (.dat .bool))], [101, 102, 103], []⟩) .nil (.nd none (.nd none .nil (.nd (some ⟨[(.slot 18, (.dat (.int .i64)))], [18, 104, 105, 106], []⟩) .nil .nil)) (.nd (some ⟨[(.slot 136, (.dat .bool))], [136, 137, 138, 139, 140, 141, 142], []⟩) .nil (.nd none .nil (.nd none .nil (.nd none .nil (.nd none .nil (.nd none .nil (.nd none .nil (.nd none .nil (.nd none .nil (.nd none .nil (.nd none .nil (.nd none .nil (.nd none .nil (.nd none .nil (.nd none .nil (.nd none .nil (.nd none .nil (.nd none .nil (.nd none .nil (.nd none .nil (.nd (some ⟨[(.slot 12, (.dat (.int .u32)))], [12, 44, 45, 46, 47, 48, 49, 50], []⟩) .nil .nil))))))))))))))))))))))))))) .nil)) .nil))))))))]
theorem S148 : Sat Tryz.prog gls 148 K148 :=
  Sat.congr (runF_ok (E := EC C148) (cd := D148) (n := 8) (an := anL A148) mo (con_ok _) (ConOk.cons S153 <| ConOk.cons S178 <| ConOk.cons S179 <| ConOk.cons S180 <| ConOk.cons S182 <| ConOk.cons S183 <| ConOk.cons S184 <| ConOk.nil _ _) (ConOk.cons S145 <| ConOk.cons S181 <| ConOk.nil _ _) (by rfl)) (fun x => by kernel_rfl)
/-- vmfleet/cpu.Exec -/
noncomputable def G84 (x : ((List (BitVec 32)) × ((BitVec 32) × ((List (BitVec 32)) × (Unit)))) × ((List (BitVec 32)) × (Unit))) : Option (((List (BitVec 32)) × ((BitVec 32) × ((List (BitVec 32)) × (Unit)))) × ((List (BitVec 32)) × (((Int) × ((Int) × ((Int) × ((BitVec 32) × (Unit))))) × (Unit)))) :=
  (G105 (x.1, x.2.1, ())).bind fun r1 =>
  cond (!eqI .i64 r1.2.2.1 (0 : Int))
  ((G145 (x.1, r1.2.2.1, x.1.2.1, ())).bind fun r2 =>
   some (r2.1, r1.2.1, ((0 : Int), ((0 : Int), ((0 : Int), ((0#32), ())))), ()))
  ((G106 (r1.1, ())).bind fun r3 =>
   cond (!r3.2.1)
   ((G145 (x.1, (1 : Int), r1.1, ())).bind fun r4 =>
    some (r4.1, r1.2.1, ((0 : Int), ((0 : Int), ((0 : Int), ((0#32), ())))), ()))
   ((G147 (r3.1.1, ())).bind fun r5 =>
    cond r5.1
    (if (inR .i64 (0 : Int) 8) = true then
     cond (eqI .u32 (andI .u32 (List.getD x.1.2.2.1 (cnt .i64 (0 : Int)) (0#32)) (1#32)) (0#32))
     ((G145 (x.1, (2 : Int), r1.1, ())).bind fun r6 =>
      some (r6.1, r1.2.1, ((0 : Int), ((0 : Int), ((0 : Int), ((0#32), ())))), ()))
     ((G148 (x.1, r1.2.1, r3.1, ())).bind fun r7 =>
      some (r7.1, r7.2.1, r7.2.2.1, ()))
     else none)
    ((G148 (x.1, r1.2.1, r3.1, ())).bind fun r8 =>
     some (r8.1, r8.2.1, r8.2.2.1, ()))))
noncomputable def K84 : Con := ⟨(.cons (.cons (.arr 16 (.int .u32)) (.cons (.int .u32) (.cons (.arr 8 (.int .u32)) .nil))) (.cons (.sl (.int .u32)) .nil)), (.cons (.cons (.arr 16 (.int .u32)) (.cons (.int .u32) (.cons (.arr 8 (.int .u32)) .nil))) (.cons (.sl (.int .u32)) (.cons (.cons (.int .i64) (.cons (.int .i64) (.cons (.int .i64) (.cons (.int .u32) .nil)))) .nil))), false, G84⟩
noncomputable def C84 : List (FuncId × Con) := [(105, K105), (106, K106), (145, K145), (147, K147), (148, K148)]
noncomputable def D84 : List (FuncId × Con) := []
noncomputable def A84 : List (FuncId × Nat × Ann) := []
theorem S84 : Sat Tryz.prog gls 84 K84 :=
  Sat.congr (runF_ok (E := EC C84) (cd := D84) (n := 8) (an := anL A84) mo (con_ok _) (ConOk.cons S105 <| ConOk.cons S106 <| ConOk.cons S145 <| ConOk.cons S147 <| ConOk.cons S148 <| ConOk.nil _ _) (ConOk.nil _ _) (by rfl)) (fun x => by kernel_rfl)
/-- vmfleet/console.In -/
noncomputable def G185 (x : ((List (BitVec 8)) × (Unit)) × ((Int) × (Unit))) : Option (((List (BitVec 8)) × (Unit)) × ((BitVec 32) × (Unit))) :=
  cond (eqI .i64 x.2.1 (0 : Int))
  (cond (decide (x.1.1 = ([] : List (BitVec 8))))
   (some (x.1, (4294967295#32), ()))
   (if (inR .i64 (0 : Int) (List.length x.1.1)) = true then
    if (decide (0 ≤ toI .i64 (1 : Int)) && true && decide ((cnt .i64 (1 : Int)) ≤ (List.length x.1.1)) && decide ((List.length x.1.1) ≤ List.length x.1.1)) = true then
    some (((List.drop (cnt .i64 (1 : Int)) (List.take (List.length x.1.1) x.1.1)), x.1.2), (cv .u8 .u32 (List.getD x.1.1 (cnt .i64 (0 : Int)) 0)), ())
    else none
    else none))
  (cond (eqI .i64 x.2.1 (1 : Int))
   (some (x.1, (cv .i64 .u32 ((List.length x.1.1 : Nat) : Int)), ()))
   (some (x.1, (0#32), ())))
noncomputable def K185 : Con := ⟨(.cons (.cons .str .nil) (.cons (.int .i64) .nil)), (.cons (.cons .str .nil) (.cons (.int .u32) .nil)), false, G185⟩
noncomputable def C185 : List (FuncId × Con) := []
noncomputable def D185 : List (FuncId × Con) := []
noncomputable def A185 : List (FuncId × Nat × Ann) := []
theorem S185 : Sat Tryz.prog gls 185 K185 :=
  Sat.congr (runF_ok (E := EC C185) (cd := D185) (n := 8) (an := anL A185) mo (con_ok _) (ConOk.nil _ _) (ConOk.nil _ _) (by rfl)) (fun x => by kernel_rfl)
/-- vmfleet/timer.In -/
noncomputable def G186 (x : ((Bool) × ((BitVec 32) × ((Bool) × (Unit)))) × (Unit)) : Option ((BitVec 32) × (Unit)) :=
  cond x.1.2.2.1
  (some ((1#32), ()))
  (some ((0#32), ()))
noncomputable def K186 : Con := ⟨(.cons (.cons .bool (.cons (.int .u32) (.cons .bool .nil))) .nil), (.cons (.int .u32) .nil), false, G186⟩
noncomputable def C186 : List (FuncId × Con) := []
noncomputable def D186 : List (FuncId × Con) := []
noncomputable def A186 : List (FuncId × Nat × Ann) := []
theorem S186 : Sat Tryz.prog gls 186 K186 :=
  Sat.congr (runF_ok (E := EC C186) (cd := D186) (n := 8) (an := anL A186) mo (con_ok _) (ConOk.nil _ _) (ConOk.nil _ _) (by rfl)) (fun x => by kernel_rfl)
/-- vmfleet/disk.In -/
noncomputable def G187 (x : ((BitVec 32) × ((BitVec 32) × ((BitVec 32) × ((Int) × ((Int) × ((BitVec 32) × ((BitVec 32) × ((List (BitVec 8)) × (Unit))))))))) × ((Int) × (Unit))) : Option ((BitVec 32) × (Unit)) :=
  cond (eqI .i64 x.2.1 (4 : Int))
  (some (x.1.2.1, ()))
  (cond (eqI .i64 x.2.1 (5 : Int))
   (some (x.1.2.2.1, ()))
   (cond (eqI .i64 x.2.1 (6 : Int))
    (some ((cv .i64 .u32 x.1.2.2.2.1), ()))
    (some ((0#32), ()))))
noncomputable def K187 : Con := ⟨(.cons (.cons (.int .u32) (.cons (.int .u32) (.cons (.int .u32) (.cons (.int .i64) (.cons (.int .i64) (.cons (.int .u32) (.cons (.int .u32) (.cons .str .nil)))))))) (.cons (.int .i64) .nil)), (.cons (.int .u32) .nil), false, G187⟩
noncomputable def C187 : List (FuncId × Con) := []
noncomputable def D187 : List (FuncId × Con) := []
noncomputable def A187 : List (FuncId × Nat × Ann) := []
theorem S187 : Sat Tryz.prog gls 187 K187 :=
  Sat.congr (runF_ok (E := EC C187) (cd := D187) (n := 8) (an := anL A187) mo (con_ok _) (ConOk.nil _ _) (ConOk.nil _ _) (by rfl)) (fun x => by kernel_rfl)
/-- vmfleet/nic.In -/
noncomputable def G188 (x : ((BitVec 32) × ((BitVec 32) × ((Bool) × ((BitVec 32) × ((Bool) × ((BitVec 32) × (Unit))))))) × ((Int) × (Unit))) : Option ((BitVec 32) × (Unit)) :=
  cond (eqI .i64 x.2.1 (7 : Int))
  (some (x.1.1, ()))
  (cond (eqI .i64 x.2.1 (8 : Int))
   (some (x.1.2.2.2.2.2.1, ()))
   (cond (eqI .i64 x.2.1 (9 : Int))
    (cond x.1.2.2.1
     (cond x.1.2.2.2.2.1
      (some ((add .u32 (add .u32 (0#32) (1#32)) (2#32)), ()))
      (some ((add .u32 (0#32) (1#32)), ())))
     (cond x.1.2.2.2.2.1
      (some ((add .u32 (0#32) (2#32)), ()))
      (some ((0#32), ()))))
    (some ((0#32), ()))))
noncomputable def K188 : Con := ⟨(.cons (.cons (.int .u32) (.cons (.int .u32) (.cons .bool (.cons (.int .u32) (.cons .bool (.cons (.int .u32) .nil)))))) (.cons (.int .i64) .nil)), (.cons (.int .u32) .nil), false, G188⟩
noncomputable def C188 : List (FuncId × Con) := []
noncomputable def D188 : List (FuncId × Con) := []
noncomputable def A188 : List (FuncId × Nat × Ann) := []
theorem S188 : Sat Tryz.prog gls 188 K188 :=
  Sat.congr (runF_ok (E := EC C188) (cd := D188) (n := 8) (an := anL A188) mo (con_ok _) (ConOk.nil _ _) (ConOk.nil _ _) (by rfl)) (fun x => by kernel_rfl)
/-- vmfleet/balloon.In -/
noncomputable def G189 (x : ((BitVec 32) × ((BitVec 32) × (Unit))) × ((Int) × (Unit))) : Option ((BitVec 32) × (Unit)) :=
  cond (eqI .i64 x.2.1 (10 : Int))
  (some (x.1.1, ()))
  (cond (eqI .i64 x.2.1 (11 : Int))
   ((G144 (x.1, ())).bind fun r1 =>
    some ((cv .i64 .u32 r1.1), ()))
   (some ((0#32), ())))
noncomputable def K189 : Con := ⟨(.cons (.cons (.int .u32) (.cons (.int .u32) .nil)) (.cons (.int .i64) .nil)), (.cons (.int .u32) .nil), false, G189⟩
noncomputable def C189 : List (FuncId × Con) := [(144, K144)]
noncomputable def D189 : List (FuncId × Con) := []
noncomputable def A189 : List (FuncId × Nat × Ann) := []
theorem S189 : Sat Tryz.prog gls 189 K189 :=
  Sat.congr (runF_ok (E := EC C189) (cd := D189) (n := 8) (an := anL A189) mo (con_ok _) (ConOk.cons S144 <| ConOk.nil _ _) (ConOk.nil _ _) (by rfl)) (fun x => by kernel_rfl)
/-- vmfleet/timer.Arm -/
noncomputable def G190 (x : ((Bool) × ((BitVec 32) × ((Bool) × (Unit)))) × ((BitVec 32) × (Unit))) : Option (((Bool) × ((BitVec 32) × ((Bool) × (Unit)))) × (Unit)) :=
  some (((!eqI .u32 x.2.1 (0#32)), (x.2.1, (false, ()))), ())
noncomputable def K190 : Con := ⟨(.cons (.cons .bool (.cons (.int .u32) (.cons .bool .nil))) (.cons (.int .u32) .nil)), (.cons (.cons .bool (.cons (.int .u32) (.cons .bool .nil))) .nil), false, G190⟩
noncomputable def C190 : List (FuncId × Con) := []
noncomputable def D190 : List (FuncId × Con) := []
noncomputable def A190 : List (FuncId × Nat × Ann) := []
theorem S190 : Sat Tryz.prog gls 190 K190 :=
  Sat.congr (runF_ok (E := EC C190) (cd := D190) (n := 8) (an := anL A190) mo (con_ok _) (ConOk.nil _ _) (ConOk.nil _ _) (by rfl)) (fun x => by kernel_rfl)
/-- vmfleet/memory.has -/
noncomputable def G168 (x : (List (BitVec 32)) × ((Int) × (Unit))) : Option ((Bool) × (Unit)) :=
  cond (leI .i64 (0 : Int) x.2.1)
  ((G51 (x.1, ())).bind fun r1 =>
   some ((ltI .i64 x.2.1 r1.1), ()))
  (some (false, ()))
noncomputable def K168 : Con := ⟨(.cons (.sl (.int .u32)) (.cons (.int .i64) .nil)), (.cons .bool .nil), false, G168⟩
noncomputable def C168 : List (FuncId × Con) := [(51, K51)]
noncomputable def D168 : List (FuncId × Con) := []
noncomputable def A168 : List (FuncId × Nat × Ann) := []
theorem S168 : Sat Tryz.prog gls 168 K168 :=
  Sat.congr (runF_ok (E := EC C168) (cd := D168) (n := 8) (an := anL A168) mo (con_ok _) (ConOk.cons S51 <| ConOk.nil _ _) (ConOk.nil _ _) (by rfl)) (fun x => by kernel_rfl)
/-- vmfleet/memory.text -/
noncomputable def G169 (x : (List (BitVec 32)) × (Unit)) : Option ((List (BitVec 8)) × (Unit)) :=
  if (decide (0 ≤ toI .i64 (0 : Int)) && decide (toI .i64 (0 : Int) ≤ toI .i64 (mul .i64 (4 : Int) ((List.length x.1 : Nat) : Int))) && room ((toI .i64 (mul .i64 (4 : Int) ((List.length x.1 : Nat) : Int))).toNat * 1) && decide (toI .i64 (mul .i64 (4 : Int) ((List.length x.1 : Nat) : Int)) ≤ 140737488355328) && true) = true then
  loopT (R := (List (BitVec 8)) × (Unit)) (X := (List (BitVec 8)) × ((Int) × (Unit))) (fun z1 =>
   cond (ltI .i64 z1.2.1 ((List.length x.1 : Nat) : Int))
   (if (inR .i64 z1.2.1 (List.length x.1)) = true then
    if (room ((List.length z1.1 + List.length [(cv .u32 .u8 (List.getD x.1 (cnt .i64 z1.2.1) (0#32))), (cv .u32 .u8 (shr .u32 (List.getD x.1 (cnt .i64 z1.2.1) (0#32)) (cnt .u64 (8#64)))), (cv .u32 .u8 (shr .u32 (List.getD x.1 (cnt .i64 z1.2.1) (0#32)) (cnt .u64 (16#64)))), (cv .u32 .u8 (shr .u32 (List.getD x.1 (cnt .i64 z1.2.1) (0#32)) (cnt .u64 (24#64))))]) * 1) && room (List.length z1.1 + List.length [(cv .u32 .u8 (List.getD x.1 (cnt .i64 z1.2.1) (0#32))), (cv .u32 .u8 (shr .u32 (List.getD x.1 (cnt .i64 z1.2.1) (0#32)) (cnt .u64 (8#64)))), (cv .u32 .u8 (shr .u32 (List.getD x.1 (cnt .i64 z1.2.1) (0#32)) (cnt .u64 (16#64)))), (cv .u32 .u8 (shr .u32 (List.getD x.1 (cnt .i64 z1.2.1) (0#32)) (cnt .u64 (24#64))))]) && true) = true then
    some (Sum.inr ((z1.1 ++ [(cv .u32 .u8 (List.getD x.1 (cnt .i64 z1.2.1) (0#32))), (cv .u32 .u8 (shr .u32 (List.getD x.1 (cnt .i64 z1.2.1) (0#32)) (cnt .u64 (8#64)))), (cv .u32 .u8 (shr .u32 (List.getD x.1 (cnt .i64 z1.2.1) (0#32)) (cnt .u64 (16#64)))), (cv .u32 .u8 (shr .u32 (List.getD x.1 (cnt .i64 z1.2.1) (0#32)) (cnt .u64 (24#64))))]), (add .i64 z1.2.1 (1 : Int)), ()))
    else none
    else none)
   (some (Sum.inl (z1.1, ()))))
  ((List.replicate (cnt .i64 (0 : Int)) (0#8)), (0 : Int), ())
  else none
noncomputable def K169 : Con := ⟨(.cons (.sl (.int .u32)) .nil), (.cons .str .nil), false, G169⟩
noncomputable def C169 : List (FuncId × Con) := []
noncomputable def D169 : List (FuncId × Con) := []
noncomputable def A169 : List (FuncId × Nat × Ann) := [(169, 0, (.nd none .nil (.nd none .nil (.nd none (.nd none .nil (.nd none (.nd (some ⟨[(.slot 3, (.row 5 (.int .u8))), (.slot 12, (.dat (.int .i64)))], [3, 5, 12, 13, 14, 15, 16, 17, 18, 19, 20, 21, 22, 23, 24, 25, 26, 27, 28, 29, 30], [0]⟩) .nil .nil) .nil)) .nil))))]
theorem S169 : Sat Tryz.prog gls 169 K169 :=
  Sat.congr (runF_ok (E := EC C169) (cd := D169) (n := 8) (an := anL A169) mo (con_ok _) (ConOk.nil _ _) (ConOk.nil _ _) (by rfl)) (fun x => by kernel_rfl)
/-- vmfleet/memory.Page -/
noncomputable def G130 (x : (List (BitVec 32)) × ((Int) × (Unit))) : Option ((List (BitVec 8)) × ((Bool) × (Unit))) :=
  (G168 (x.1, x.2.1, ())).bind fun r1 =>
  cond (!r1.1)
  (some (([] : List (BitVec 8)), false, ()))
  (if (decide (0 ≤ toI .i64 (mul .i64 x.2.1 (32 : Int))) && decide (0 ≤ toI .i64 (mul .i64 (add .i64 x.2.1 (1 : Int)) (32 : Int))) && decide ((cnt .i64 (mul .i64 x.2.1 (32 : Int))) ≤ (cnt .i64 (mul .i64 (add .i64 x.2.1 (1 : Int)) (32 : Int)))) && decide ((cnt .i64 (mul .i64 (add .i64 x.2.1 (1 : Int)) (32 : Int))) ≤ List.length x.1)) = true then
   let v2 := (List.drop (cnt .i64 (mul .i64 x.2.1 (32 : Int))) (List.take (cnt .i64 (mul .i64 (add .i64 x.2.1 (1 : Int)) (32 : Int))) x.1))
   (G169 (v2, ())).bind fun r3 =>
   some (r3.1, true, ())
   else none)
noncomputable def K130 : Con := ⟨(.cons (.sl (.int .u32)) (.cons (.int .i64) .nil)), (.cons .str (.cons .bool .nil)), false, G130⟩
noncomputable def C130 : List (FuncId × Con) := [(168, K168), (169, K169)]
noncomputable def D130 : List (FuncId × Con) := []
noncomputable def A130 : List (FuncId × Nat × Ann) := []
theorem S130 : Sat Tryz.prog gls 130 K130 :=
  Sat.congr (runF_ok (E := EC C130) (cd := D130) (n := 8) (an := anL A130) mo (con_ok _) (ConOk.cons S168 <| ConOk.cons S169 <| ConOk.nil _ _) (ConOk.nil _ _) (by rfl)) (fun x => by kernel_rfl)
/-- vmfleet/disk.Request -/
noncomputable def G250 (x : ((BitVec 32) × ((BitVec 32) × ((BitVec 32) × ((Int) × ((Int) × ((BitVec 32) × ((BitVec 32) × ((List (BitVec 8)) × (Unit))))))))) × ((BitVec 64) × (Unit))) : Option (((Int) × ((BitVec 64) × ((BitVec 32) × ((List (BitVec 8)) × (Unit))))) × ((Bool) × (Unit))) :=
  cond (!eqI .i64 x.1.2.2.2.1 (1 : Int))
  (some (((0 : Int), ((0#64), ((0#32), ((dflt .str), ())))), false, ()))
  (cond (eqI .i64 x.1.2.2.2.2.1 (1 : Int))
   (some (((3 : Int), (x.2.1, (x.1.2.2.2.2.2.1, ((dflt .str), ())))), true, ()))
   (cond (eqI .i64 x.1.2.2.2.2.1 (2 : Int))
    (some (((4 : Int), (x.2.1, (x.1.2.2.2.2.2.1, (x.1.2.2.2.2.2.2.2.1, ())))), true, ()))
    (some (((0 : Int), ((0#64), ((0#32), ((dflt .str), ())))), false, ()))))
noncomputable def K250 : Con := ⟨(.cons (.cons (.int .u32) (.cons (.int .u32) (.cons (.int .u32) (.cons (.int .i64) (.cons (.int .i64) (.cons (.int .u32) (.cons (.int .u32) (.cons .str .nil)))))))) (.cons (.int .u64) .nil)), (.cons (.cons (.int .i64) (.cons (.int .u64) (.cons (.int .u32) (.cons .str .nil)))) (.cons .bool .nil)), false, G250⟩
noncomputable def C250 : List (FuncId × Con) := []
noncomputable def D250 : List (FuncId × Con) := []
noncomputable def A250 : List (FuncId × Nat × Ann) := []
theorem S250 : Sat Tryz.prog gls 250 K250 :=
  Sat.congr (runF_ok (E := EC C250) (cd := D250) (n := 8) (an := anL A250) mo (con_ok _) (ConOk.nil _ _) (ConOk.nil _ _) (by rfl)) (fun x => by kernel_rfl)
/-- vmfleet/disk.command -/
noncomputable def G223 (x : ((BitVec 32) × ((BitVec 32) × ((BitVec 32) × ((Int) × ((Int) × ((BitVec 32) × ((BitVec 32) × ((List (BitVec 8)) × (Unit))))))))) × ((List (BitVec 32)) × ((BitVec 32) × ((BitVec 64) × (Unit))))) : Option (((BitVec 32) × ((BitVec 32) × ((BitVec 32) × ((Int) × ((Int) × ((BitVec 32) × ((BitVec 32) × ((List (BitVec 8)) × (Unit))))))))) × ((List ((Int) × ((BitVec 64) × ((BitVec 32) × ((List (BitVec 8)) × (Unit)))))) × (Unit))) :=
  jn (R := ((BitVec 32) × ((BitVec 32) × ((BitVec 32) × ((Int) × ((Int) × ((BitVec 32) × ((BitVec 32) × ((List (BitVec 8)) × (Unit))))))))) × ((List ((Int) × ((BitVec 64) × ((BitVec 32) × ((List (BitVec 8)) × (Unit)))))) × (Unit))) (Z := Unit)
  (cond (eqI .u32 x.2.2.1 (0#32))
   ((G78 (x.1, ())).bind fun r2 =>
    cond r2.1
    (some (Sum.inl ((x.1.1, (x.1.2.1, (x.1.2.2.1, ((0 : Int), x.1.2.2.2.2)))), ([] : List ((Int) × ((BitVec 64) × ((BitVec 32) × ((List (BitVec 8)) × (Unit)))))), ())))
    (some (Sum.inl (x.1, ([] : List ((Int) × ((BitVec 64) × ((BitVec 32) × ((List (BitVec 8)) × (Unit)))))), ()))))
   (cond (eqI .u32 x.2.2.1 (1#32))
    (some (Sum.inr ()))
    (cond (eqI .u32 x.2.2.1 (2#32))
     (some (Sum.inr ()))
     (some (Sum.inl (x.1, ([] : List ((Int) × ((BitVec 64) × ((BitVec 32) × ((List (BitVec 8)) × (Unit)))))), ()))))))
  fun z1 =>
  cond (!eqI .i64 x.1.2.2.2.1 (0 : Int))
  (some (x.1, ([] : List ((Int) × ((BitVec 64) × ((BitVec 32) × ((List (BitVec 8)) × (Unit)))))), ()))
  ((G130 (x.2.1, (cv .u32 .i64 x.1.2.2.1), ())).bind fun r3 =>
   cond (leI .u32 x.1.1 x.1.2.1)
   (some ((x.1.1, (x.1.2.1, (x.1.2.2.1, ((3 : Int), x.1.2.2.2.2)))), ([] : List ((Int) × ((BitVec 64) × ((BitVec 32) × ((List (BitVec 8)) × (Unit)))))), ()))
   (cond (!r3.2.1)
    (some ((x.1.1, (x.1.2.1, (x.1.2.2.1, ((3 : Int), x.1.2.2.2.2)))), ([] : List ((Int) × ((BitVec 64) × ((BitVec 32) × ((List (BitVec 8)) × (Unit)))))), ()))
    (jn (R := ((BitVec 32) × ((BitVec 32) × ((BitVec 32) × ((Int) × ((Int) × ((BitVec 32) × ((BitVec 32) × ((List (BitVec 8)) × (Unit))))))))) × ((List ((Int) × ((BitVec 64) × ((BitVec 32) × ((List (BitVec 8)) × (Unit)))))) × (Unit))) (Z := ((BitVec 32) × ((BitVec 32) × ((BitVec 32) × ((Int) × ((Int) × ((BitVec 32) × ((BitVec 32) × ((List (BitVec 8)) × (Unit))))))))) × (Unit))
     (cond (eqI .u32 x.2.2.1 (2#32))
      (some (Sum.inr ((x.1.1, (x.1.2.1, (x.1.2.2.1, ((1 : Int), ((cv .u32 .i64 x.2.2.1), (x.1.2.1, (x.1.2.2.1, (r3.1, x.1.2.2.2.2.2.2.2.2)))))))), ())))
      (some (Sum.inr ((x.1.1, (x.1.2.1, (x.1.2.2.1, ((1 : Int), ((cv .u32 .i64 x.2.2.1), (x.1.2.1, (x.1.2.2.1, (([] : List (BitVec 8)), x.1.2.2.2.2.2.2.2.2)))))))), ()))))
     fun z4 =>
     (G250 (z4.1, x.2.2.2.1, ())).bind fun r5 =>
     some (z4.1, [r5.1], ()))))
noncomputable def K223 : Con := ⟨(.cons (.cons (.int .u32) (.cons (.int .u32) (.cons (.int .u32) (.cons (.int .i64) (.cons (.int .i64) (.cons (.int .u32) (.cons (.int .u32) (.cons .str .nil)))))))) (.cons (.sl (.int .u32)) (.cons (.int .u32) (.cons (.int .u64) .nil)))), (.cons (.cons (.int .u32) (.cons (.int .u32) (.cons (.int .u32) (.cons (.int .i64) (.cons (.int .i64) (.cons (.int .u32) (.cons (.int .u32) (.cons .str .nil)))))))) (.cons (.sl (.cons (.int .i64) (.cons (.int .u64) (.cons (.int .u32) (.cons .str .nil))))) .nil)), false, G223⟩
noncomputable def C223 : List (FuncId × Con) := [(78, K78), (130, K130), (250, K250)]
noncomputable def D223 : List (FuncId × Con) := []
noncomputable def A223 : List (FuncId × Nat × Ann) := [(223, 0, (.nd none .nil (.nd (some ⟨[], [14, 16, 17, 22, 23, 24], []⟩) .nil (.nd none .nil (.nd none .nil (.nd none .nil (.nd none .nil (.nd none .nil (.nd (some ⟨[(.box 0, (.dat (.cons (.int .u32) (.cons (.int .u32) (.cons (.int .u32) (.cons (.int .i64) (.cons (.int .i64) (.cons (.int .u32) (.cons (.int .u32) (.cons .str .nil))))))))))], [59, 60, 61, 62], []⟩) .nil .nil)))))))))]
theorem S223 : Sat Tryz.prog gls 223 K223 :=
  Sat.congr (runF_ok (E := EC C223) (cd := D223) (n := 8) (an := anL A223) mo (con_ok _) (ConOk.cons S78 <| ConOk.cons S130 <| ConOk.cons S250 <| ConOk.nil _ _) (ConOk.nil _ _) (by rfl)) (fun x => by kernel_rfl)
/-- vmfleet/disk.Out -/
noncomputable def G191 (x : ((BitVec 32) × ((BitVec 32) × ((BitVec 32) × ((Int) × ((Int) × ((BitVec 32) × ((BitVec 32) × ((List (BitVec 8)) × (Unit))))))))) × ((List (BitVec 32)) × ((Int) × ((BitVec 32) × ((BitVec 64) × (Unit)))))) : Option (((BitVec 32) × ((BitVec 32) × ((BitVec 32) × ((Int) × ((Int) × ((BitVec 32) × ((BitVec 32) × ((List (BitVec 8)) × (Unit))))))))) × ((List ((Int) × ((BitVec 64) × ((BitVec 32) × ((List (BitVec 8)) × (Unit)))))) × (Unit))) :=
  cond (eqI .i64 x.2.2.1 (4 : Int))
  (some ((x.1.1, (x.2.2.2.1, x.1.2.2)), ([] : List ((Int) × ((BitVec 64) × ((BitVec 32) × ((List (BitVec 8)) × (Unit)))))), ()))
  (cond (eqI .i64 x.2.2.1 (5 : Int))
   (some ((x.1.1, (x.1.2.1, (x.2.2.2.1, x.1.2.2.2))), ([] : List ((Int) × ((BitVec 64) × ((BitVec 32) × ((List (BitVec 8)) × (Unit)))))), ()))
   (cond (eqI .i64 x.2.2.1 (6 : Int))
    ((G223 (x.1, x.2.1, x.2.2.2.1, x.2.2.2.2.1, ())).bind fun r1 =>
     some (r1.1, r1.2.1, ()))
    (some (x.1, ([] : List ((Int) × ((BitVec 64) × ((BitVec 32) × ((List (BitVec 8)) × (Unit)))))), ()))))
noncomputable def K191 : Con := ⟨(.cons (.cons (.int .u32) (.cons (.int .u32) (.cons (.int .u32) (.cons (.int .i64) (.cons (.int .i64) (.cons (.int .u32) (.cons (.int .u32) (.cons .str .nil)))))))) (.cons (.sl (.int .u32)) (.cons (.int .i64) (.cons (.int .u32) (.cons (.int .u64) .nil))))), (.cons (.cons (.int .u32) (.cons (.int .u32) (.cons (.int .u32) (.cons (.int .i64) (.cons (.int .i64) (.cons (.int .u32) (.cons (.int .u32) (.cons .str .nil)))))))) (.cons (.sl (.cons (.int .i64) (.cons (.int .u64) (.cons (.int .u32) (.cons .str .nil))))) .nil)), false, G191⟩
noncomputable def C191 : List (FuncId × Con) := [(223, K223)]
noncomputable def D191 : List (FuncId × Con) := []
noncomputable def A191 : List (FuncId × Nat × Ann) := []
theorem S191 : Sat Tryz.prog gls 191 K191 :=
  Sat.congr (runF_ok (E := EC C191) (cd := D191) (n := 8) (an := anL A191) mo (con_ok _) (ConOk.cons S223 <| ConOk.nil _ _) (ConOk.nil _ _) (by rfl)) (fun x => by kernel_rfl)
/-- vmfleet/nic.command -/
noncomputable def G224 (x : ((BitVec 32) × ((BitVec 32) × ((Bool) × ((BitVec 32) × ((Bool) × ((BitVec 32) × (Unit))))))) × ((List (BitVec 32)) × ((BitVec 32) × ((BitVec 64) × (Unit))))) : Option (((BitVec 32) × ((BitVec 32) × ((Bool) × ((BitVec 32) × ((Bool) × ((BitVec 32) × (Unit))))))) × ((List ((Int) × ((BitVec 64) × ((BitVec 32) × ((List (BitVec 8)) × (Unit)))))) × (Unit))) :=
  (G130 (x.2.1, (cv .u32 .i64 x.1.1), ())).bind fun r1 =>
  cond (eqI .u32 x.2.2.1 (0#32))
  (some ((x.1.1, (x.1.2.1, (x.1.2.2.1, (x.1.2.2.2.1, (false, ((0#32), x.1.2.2.2.2.2.2)))))), ([] : List ((Int) × ((BitVec 64) × ((BitVec 32) × ((List (BitVec 8)) × (Unit)))))), ()))
  (cond (eqI .u32 x.2.2.1 (1#32))
   (cond r1.2.1
    (cond (leI .u32 (1#32) x.1.2.1)
     (cond (leI .u32 x.1.2.1 (128#32))
      (if (true && decide (0 ≤ toI .u32 x.1.2.1) && decide (0 ≤ (cnt .u32 x.1.2.1)) && decide ((cnt .u32 x.1.2.1) ≤ List.length r1.1)) = true then
       some (x.1, [((2 : Int), (x.2.2.2.1, ((0#32), ((List.drop 0 (List.take (cnt .u32 x.1.2.1) r1.1)), ()))))], ())
       else none)
      (some (x.1, ([] : List ((Int) × ((BitVec 64) × ((BitVec 32) × ((List (BitVec 8)) × (Unit)))))), ())))
     (some (x.1, ([] : List ((Int) × ((BitVec 64) × ((BitVec 32) × ((List (BitVec 8)) × (Unit)))))), ())))
    (some (x.1, ([] : List ((Int) × ((BitVec 64) × ((BitVec 32) × ((List (BitVec 8)) × (Unit)))))), ())))
   (cond (eqI .u32 x.2.2.1 (2#32))
    (cond r1.2.1
     (cond (!x.1.2.2.1)
      (cond (!x.1.2.2.2.2.1)
       (some ((x.1.1, (x.1.2.1, (true, (x.1.1, x.1.2.2.2.2)))), ([] : List ((Int) × ((BitVec 64) × ((BitVec 32) × ((List (BitVec 8)) × (Unit)))))), ()))
       (some (x.1, ([] : List ((Int) × ((BitVec 64) × ((BitVec 32) × ((List (BitVec 8)) × (Unit)))))), ())))
      (some (x.1, ([] : List ((Int) × ((BitVec 64) × ((BitVec 32) × ((List (BitVec 8)) × (Unit)))))), ())))
     (some (x.1, ([] : List ((Int) × ((BitVec 64) × ((BitVec 32) × ((List (BitVec 8)) × (Unit)))))), ())))
    (some (x.1, ([] : List ((Int) × ((BitVec 64) × ((BitVec 32) × ((List (BitVec 8)) × (Unit)))))), ()))))
noncomputable def K224 : Con := ⟨(.cons (.cons (.int .u32) (.cons (.int .u32) (.cons .bool (.cons (.int .u32) (.cons .bool (.cons (.int .u32) .nil)))))) (.cons (.sl (.int .u32)) (.cons (.int .u32) (.cons (.int .u64) .nil)))), (.cons (.cons (.int .u32) (.cons (.int .u32) (.cons .bool (.cons (.int .u32) (.cons .bool (.cons (.int .u32) .nil)))))) (.cons (.sl (.cons (.int .i64) (.cons (.int .u64) (.cons (.int .u32) (.cons .str .nil))))) .nil)), false, G224⟩
noncomputable def C224 : List (FuncId × Con) := [(130, K130)]
noncomputable def D224 : List (FuncId × Con) := []
noncomputable def A224 : List (FuncId × Nat × Ann) := []
theorem S224 : Sat Tryz.prog gls 224 K224 :=
  Sat.congr (runF_ok (E := EC C224) (cd := D224) (n := 8) (an := anL A224) mo (con_ok _) (ConOk.cons S130 <| ConOk.nil _ _) (ConOk.nil _ _) (by rfl)) (fun x => by kernel_rfl)
/-- vmfleet/nic.Out -/
noncomputable def G192 (x : ((BitVec 32) × ((BitVec 32) × ((Bool) × ((BitVec 32) × ((Bool) × ((BitVec 32) × (Unit))))))) × ((List (BitVec 32)) × ((Int) × ((BitVec 32) × ((BitVec 64) × (Unit)))))) : Option (((BitVec 32) × ((BitVec 32) × ((Bool) × ((BitVec 32) × ((Bool) × ((BitVec 32) × (Unit))))))) × ((List ((Int) × ((BitVec 64) × ((BitVec 32) × ((List (BitVec 8)) × (Unit)))))) × (Unit))) :=
  cond (eqI .i64 x.2.2.1 (7 : Int))
  (some ((x.2.2.2.1, x.1.2), ([] : List ((Int) × ((BitVec 64) × ((BitVec 32) × ((List (BitVec 8)) × (Unit)))))), ()))
  (cond (eqI .i64 x.2.2.1 (8 : Int))
   (some ((x.1.1, (x.2.2.2.1, x.1.2.2)), ([] : List ((Int) × ((BitVec 64) × ((BitVec 32) × ((List (BitVec 8)) × (Unit)))))), ()))
   (cond (eqI .i64 x.2.2.1 (9 : Int))
    ((G224 (x.1, x.2.1, x.2.2.2.1, x.2.2.2.2.1, ())).bind fun r1 =>
     some (r1.1, r1.2.1, ()))
    (some (x.1, ([] : List ((Int) × ((BitVec 64) × ((BitVec 32) × ((List (BitVec 8)) × (Unit)))))), ()))))
noncomputable def K192 : Con := ⟨(.cons (.cons (.int .u32) (.cons (.int .u32) (.cons .bool (.cons (.int .u32) (.cons .bool (.cons (.int .u32) .nil)))))) (.cons (.sl (.int .u32)) (.cons (.int .i64) (.cons (.int .u32) (.cons (.int .u64) .nil))))), (.cons (.cons (.int .u32) (.cons (.int .u32) (.cons .bool (.cons (.int .u32) (.cons .bool (.cons (.int .u32) .nil)))))) (.cons (.sl (.cons (.int .i64) (.cons (.int .u64) (.cons (.int .u32) (.cons .str .nil))))) .nil)), false, G192⟩
noncomputable def C192 : List (FuncId × Con) := [(224, K224)]
noncomputable def D192 : List (FuncId × Con) := []
noncomputable def A192 : List (FuncId × Nat × Ann) := []
theorem S192 : Sat Tryz.prog gls 192 K192 :=
  Sat.congr (runF_ok (E := EC C192) (cd := D192) (n := 8) (an := anL A192) mo (con_ok _) (ConOk.cons S224 <| ConOk.nil _ _) (ConOk.nil _ _) (by rfl)) (fun x => by kernel_rfl)
/-- vmfleet/memory.SetPage -/
noncomputable def G132 (x : (List (BitVec 32)) × ((Int) × ((List (BitVec 8)) × (Unit)))) : Option ((List (BitVec 32)) × ((Bool) × (Unit))) :=
  jn (R := (List (BitVec 32)) × ((Bool) × (Unit))) (Z := (List (BitVec 32)) × (Unit))
  (cond (eqI .i64 ((List.length x.1 : Nat) : Int) (0 : Int))
   (some (Sum.inr (([] : List (BitVec 32)), ())))
   (if (decide (0 ≤ toI .i64 ((List.length x.1 : Nat) : Int)) && decide (toI .i64 ((List.length x.1 : Nat) : Int) ≤ toI .i64 ((List.length x.1 : Nat) : Int)) && room ((toI .i64 ((List.length x.1 : Nat) : Int)).toNat * 4) && decide (toI .i64 ((List.length x.1 : Nat) : Int) ≤ 140737488355328) && true) = true then
    let v2 := ((min (List.length x.1) (List.length (List.replicate (cnt .i64 ((List.length x.1 : Nat) : Int)) (0#32))) : Nat) : Int)
    some (Sum.inr ((List.take (List.length (List.replicate (cnt .i64 ((List.length x.1 : Nat) : Int)) (0#32))) x.1 ++ List.drop (List.length x.1) (List.replicate (cnt .i64 ((List.length x.1 : Nat) : Int)) (0#32))), ()))
    else none))
  fun z1 =>
  (G168 (x.1, x.2.1, ())).bind fun r3 =>
  cond (!r3.1)
  (some (z1.1, false, ()))
  (cond (!eqI .i64 ((List.length x.2.2.1 : Nat) : Int) (128 : Int))
   (some (z1.1, false, ()))
   (loopT (R := (List (BitVec 32)) × ((Bool) × (Unit))) (X := (Int) × ((List (BitVec 32)) × (Unit))) (fun z4 =>
     cond (ltI .i64 z4.1 (32 : Int))
     (if (inR .i64 (mul .i64 (4 : Int) z4.1) (List.length x.2.2.1)) = true then
      if (inR .i64 (add .i64 (mul .i64 (4 : Int) z4.1) (1 : Int)) (List.length x.2.2.1)) = true then
      let v5 := (shl .u32 (cv .u8 .u32 (List.getD x.2.2.1 (cnt .i64 (add .i64 (mul .i64 (4 : Int) z4.1) (1 : Int))) 0)) (cnt .u64 (8#64)))
      if (inR .i64 (add .i64 (mul .i64 (4 : Int) z4.1) (2 : Int)) (List.length x.2.2.1)) = true then
      let v6 := (shl .u32 (cv .u8 .u32 (List.getD x.2.2.1 (cnt .i64 (add .i64 (mul .i64 (4 : Int) z4.1) (2 : Int))) 0)) (cnt .u64 (16#64)))
      if (inR .i64 (add .i64 (mul .i64 (4 : Int) z4.1) (3 : Int)) (List.length x.2.2.1)) = true then
      let v7 := (shl .u32 (cv .u8 .u32 (List.getD x.2.2.1 (cnt .i64 (add .i64 (mul .i64 (4 : Int) z4.1) (3 : Int))) 0)) (cnt .u64 (24#64)))
      let v8 := (orI .u32 (orI .u32 (orI .u32 (cv .u8 .u32 (List.getD x.2.2.1 (cnt .i64 (mul .i64 (4 : Int) z4.1)) 0)) v5) v6) v7)
      if (inR .i64 (add .i64 (mul .i64 x.2.1 (32 : Int)) z4.1) (List.length z4.2.1)) = true then
      some (Sum.inr ((add .i64 z4.1 (1 : Int)), (List.set z4.2.1 (cnt .i64 (add .i64 (mul .i64 x.2.1 (32 : Int)) z4.1)) v8), ()))
      else none
      else none
      else none
      else none
      else none)
     (some (Sum.inl (z4.2.1, true, ()))))
    ((0 : Int), z1.1, ())))
noncomputable def K132 : Con := ⟨(.cons (.sl (.int .u32)) (.cons (.int .i64) (.cons .str .nil))), (.cons (.sl (.int .u32)) (.cons .bool .nil)), false, G132⟩
noncomputable def C132 : List (FuncId × Con) := [(168, K168)]
noncomputable def D132 : List (FuncId × Con) := []
noncomputable def A132 : List (FuncId × Nat × Ann) := [(132, 0, (.nd none .nil (.nd (some ⟨[(.slot 8, (.row 27 (.int .u32)))], [8, 10, 11], []⟩) .nil (.nd none .nil (.nd none (.nd none .nil (.nd none (.nd (some ⟨[(.slot 22, (.dat (.int .i64))), (.slot 8, (.row 27 (.int .u32)))], [9, 22, 23, 24, 25, 26, 27, 28, 29, 30, 31, 32, 33, 34, 35, 36, 37, 38, 39, 40, 41, 42, 43, 44, 45, 46, 47, 48, 49, 50, 51, 52, 53, 54, 55, 56, 57, 58, 59, 60], [0]⟩) .nil .nil) .nil)) .nil)))))]
theorem S132 : Sat Tryz.prog gls 132 K132 :=
  Sat.congr (runF_ok (E := EC C132) (cd := D132) (n := 8) (an := anL A132) mo (con_ok _) (ConOk.cons S168 <| ConOk.nil _ _) (ConOk.nil _ _) (by rfl)) (fun x => by kernel_rfl)
/-- vmfleet/balloon.Out -/
noncomputable def G193 (x : ((BitVec 32) × ((BitVec 32) × (Unit))) × ((List (BitVec 32)) × ((Int) × ((BitVec 32) × (Unit))))) : Option (((BitVec 32) × ((BitVec 32) × (Unit))) × ((List (BitVec 32)) × (Unit))) :=
  if (room (List.length x.2.1 * 4) && room (List.length x.2.1)) = true then
  cond (leI .u32 (32#32) x.2.2.2.1)
  (some (x.1, x.2.1, ()))
  (cond (eqI .i64 x.2.2.1 (10 : Int))
   (if (decide (0 ≤ toI .i64 (128 : Int)) && decide (toI .i64 (128 : Int) ≤ toI .i64 (128 : Int)) && room ((toI .i64 (128 : Int)).toNat * 1) && decide (toI .i64 (128 : Int) ≤ 140737488355328) && true) = true then
    (G132 (x.2.1, (cv .u32 .i64 x.2.2.2.1), (List.replicate (cnt .i64 (128 : Int)) (0#8)), ())).bind fun r1 =>
    cond r1.2.1
    (cond (eqI .u32 (andI .u32 x.1.2.1 (shl .u32 (1#32) (cnt .u32 x.2.2.2.1))) (0#32))
     (some ((x.1.1, ((orI .u32 x.1.2.1 (shl .u32 (1#32) (cnt .u32 x.2.2.2.1))), x.1.2.2)), r1.1, ()))
     (some (x.1, x.2.1, ())))
    (some (x.1, x.2.1, ()))
    else none)
   (cond (eqI .i64 x.2.2.1 (11 : Int))
    (some ((x.1.1, ((andNot .u32 x.1.2.1 (shl .u32 (1#32) (cnt .u32 x.2.2.2.1))), x.1.2.2)), x.2.1, ()))
    (some (x.1, x.2.1, ()))))
  else none
noncomputable def K193 : Con := ⟨(.cons (.cons (.int .u32) (.cons (.int .u32) .nil)) (.cons (.sl (.int .u32)) (.cons (.int .i64) (.cons (.int .u32) .nil)))), (.cons (.cons (.int .u32) (.cons (.int .u32) .nil)) (.cons (.sl (.int .u32)) .nil)), false, G193⟩
noncomputable def C193 : List (FuncId × Con) := [(132, K132)]
noncomputable def D193 : List (FuncId × Con) := []
noncomputable def A193 : List (FuncId × Nat × Ann) := []
theorem S193 : Sat Tryz.prog gls 193 K193 :=
  Sat.congr (runF_ok (E := EC C193) (cd := D193) (n := 8) (an := anL A193) mo (con_ok _) (ConOk.cons S132 <| ConOk.nil _ _) (ConOk.nil _ _) (by rfl)) (fun x => by kernel_rfl)
/-- vmfleet/machine.Step -/
noncomputable def G29 (x : (((List (BitVec 32)) × ((BitVec 32) × ((List (BitVec 32)) × (Unit)))) × ((List (BitVec 32)) × (((List (BitVec 8)) × (Unit)) × (((Bool) × ((BitVec 32) × ((Bool) × (Unit)))) × (((BitVec 32) × ((BitVec 32) × ((BitVec 32) × ((Int) × ((Int) × ((BitVec 32) × ((BitVec 32) × ((List (BitVec 8)) × (Unit))))))))) × (((BitVec 32) × ((BitVec 32) × ((Bool) × ((BitVec 32) × ((Bool) × ((BitVec 32) × (Unit))))))) × (((BitVec 32) × ((BitVec 32) × (Unit))) × ((BitVec 64) × ((Bool) × ((Bool) × (Unit))))))))))) × ((BitVec 32) × (Unit))) : Option ((((List (BitVec 32)) × ((BitVec 32) × ((List (BitVec 32)) × (Unit)))) × ((List (BitVec 32)) × (((List (BitVec 8)) × (Unit)) × (((Bool) × ((BitVec 32) × ((Bool) × (Unit)))) × (((BitVec 32) × ((BitVec 32) × ((BitVec 32) × ((Int) × ((Int) × ((BitVec 32) × ((BitVec 32) × ((List (BitVec 8)) × (Unit))))))))) × (((BitVec 32) × ((BitVec 32) × ((Bool) × ((BitVec 32) × ((Bool) × ((BitVec 32) × (Unit))))))) × (((BitVec 32) × ((BitVec 32) × (Unit))) × ((BitVec 64) × ((Bool) × ((Bool) × (Unit))))))))))) × ((List ((Int) × ((BitVec 64) × ((BitVec 32) × ((List (BitVec 8)) × (Unit)))))) × (Unit))) :=
  (G81 (x.1, ())).bind fun r1 =>
  cond (!r1.1)
  ((G82 (x.1, ())).bind fun r2 =>
   some (r2.1, ([] : List ((Int) × ((BitVec 64) × ((BitVec 32) × ((List (BitVec 8)) × (Unit)))))), ()))
  ((G83 (x.1, ())).bind fun r3 =>
   (G84 (r3.1, x.1.2.1, ())).bind fun r4 =>
   cond (eqI .i64 r4.2.2.1.1 (1 : Int))
   (jn (R := (((List (BitVec 32)) × ((BitVec 32) × ((List (BitVec 32)) × (Unit)))) × ((List (BitVec 32)) × (((List (BitVec 8)) × (Unit)) × (((Bool) × ((BitVec 32) × ((Bool) × (Unit)))) × (((BitVec 32) × ((BitVec 32) × ((BitVec 32) × ((Int) × ((Int) × ((BitVec 32) × ((BitVec 32) × ((List (BitVec 8)) × (Unit))))))))) × (((BitVec 32) × ((BitVec 32) × ((Bool) × ((BitVec 32) × ((Bool) × ((BitVec 32) × (Unit))))))) × (((BitVec 32) × ((BitVec 32) × (Unit))) × ((BitVec 64) × ((Bool) × ((Bool) × (Unit))))))))))) × ((List ((Int) × ((BitVec 64) × ((BitVec 32) × ((List (BitVec 8)) × (Unit)))))) × (Unit))) (Z := (BitVec 32) × ((((List (BitVec 32)) × ((BitVec 32) × ((List (BitVec 32)) × (Unit)))) × ((List (BitVec 32)) × (((List (BitVec 8)) × (Unit)) × (((Bool) × ((BitVec 32) × ((Bool) × (Unit)))) × (((BitVec 32) × ((BitVec 32) × ((BitVec 32) × ((Int) × ((Int) × ((BitVec 32) × ((BitVec 32) × ((List (BitVec 8)) × (Unit))))))))) × (((BitVec 32) × ((BitVec 32) × ((Bool) × ((BitVec 32) × ((Bool) × ((BitVec 32) × (Unit))))))) × (((BitVec 32) × ((BitVec 32) × (Unit))) × ((BitVec 64) × ((Bool) × ((Bool) × (Unit))))))))))) × (Unit)))
    (jn (R := ((((List (BitVec 32)) × ((BitVec 32) × ((List (BitVec 32)) × (Unit)))) × ((List (BitVec 32)) × (((List (BitVec 8)) × (Unit)) × (((Bool) × ((BitVec 32) × ((Bool) × (Unit)))) × (((BitVec 32) × ((BitVec 32) × ((BitVec 32) × ((Int) × ((Int) × ((BitVec 32) × ((BitVec 32) × ((List (BitVec 8)) × (Unit))))))))) × (((BitVec 32) × ((BitVec 32) × ((Bool) × ((BitVec 32) × ((Bool) × ((BitVec 32) × (Unit))))))) × (((BitVec 32) × ((BitVec 32) × (Unit))) × ((BitVec 64) × ((Bool) × ((Bool) × (Unit))))))))))) × ((List ((Int) × ((BitVec 64) × ((BitVec 32) × ((List (BitVec 8)) × (Unit)))))) × (Unit))) ⊕ ((BitVec 32) × ((((List (BitVec 32)) × ((BitVec 32) × ((List (BitVec 32)) × (Unit)))) × ((List (BitVec 32)) × (((List (BitVec 8)) × (Unit)) × (((Bool) × ((BitVec 32) × ((Bool) × (Unit)))) × (((BitVec 32) × ((BitVec 32) × ((BitVec 32) × ((Int) × ((Int) × ((BitVec 32) × ((BitVec 32) × ((List (BitVec 8)) × (Unit))))))))) × (((BitVec 32) × ((BitVec 32) × ((Bool) × ((BitVec 32) × ((Bool) × ((BitVec 32) × (Unit))))))) × (((BitVec 32) × ((BitVec 32) × (Unit))) × ((BitVec 64) × ((Bool) × ((Bool) × (Unit))))))))))) × (Unit)))) (Z := (Bool) × (Unit))
     (cond (eqI .i64 r4.2.2.1.2.1 (0 : Int))
      (some (Sum.inr (true, ())))
      (some (Sum.inr ((eqI .i64 r4.2.2.1.2.1 (1 : Int)), ()))))
     fun z6 =>
     cond z6.1
     ((G185 (x.1.2.2.1, r4.2.2.1.2.1, ())).bind fun r7 =>
      some (Sum.inr (r7.2.1, (r4.1, (r4.2.1, (r7.1, (x.1.2.2.2.1, (x.1.2.2.2.2.1, (x.1.2.2.2.2.2.1, (x.1.2.2.2.2.2.2.1, (x.1.2.2.2.2.2.2.2.1, (false, x.1.2.2.2.2.2.2.2.2.2))))))))), ())))
     (cond (eqI .i64 r4.2.2.1.2.1 (2 : Int))
      (some (Sum.inr (x.2.1, (r4.1, (r4.2.1, (x.1.2.2.1, (x.1.2.2.2.1, (x.1.2.2.2.2.1, (x.1.2.2.2.2.2.1, (x.1.2.2.2.2.2.2.1, (x.1.2.2.2.2.2.2.2.1, (false, x.1.2.2.2.2.2.2.2.2.2))))))))), ())))
      (cond (eqI .i64 r4.2.2.1.2.1 (3 : Int))
       ((G186 (x.1.2.2.2.1, ())).bind fun r8 =>
        some (Sum.inr (r8.1, (r4.1, (r4.2.1, (x.1.2.2.1, (x.1.2.2.2.1, (x.1.2.2.2.2.1, (x.1.2.2.2.2.2.1, (x.1.2.2.2.2.2.2.1, (x.1.2.2.2.2.2.2.2.1, (false, x.1.2.2.2.2.2.2.2.2.2))))))))), ())))
       (cond (eqI .i64 r4.2.2.1.2.1 (4 : Int))
        ((G187 (x.1.2.2.2.2.1, r4.2.2.1.2.1, ())).bind fun r9 =>
         some (Sum.inr (r9.1, (r4.1, (r4.2.1, (x.1.2.2.1, (x.1.2.2.2.1, (x.1.2.2.2.2.1, (x.1.2.2.2.2.2.1, (x.1.2.2.2.2.2.2.1, (x.1.2.2.2.2.2.2.2.1, (false, x.1.2.2.2.2.2.2.2.2.2))))))))), ())))
        (cond (eqI .i64 r4.2.2.1.2.1 (5 : Int))
         ((G187 (x.1.2.2.2.2.1, r4.2.2.1.2.1, ())).bind fun r10 =>
          some (Sum.inr (r10.1, (r4.1, (r4.2.1, (x.1.2.2.1, (x.1.2.2.2.1, (x.1.2.2.2.2.1, (x.1.2.2.2.2.2.1, (x.1.2.2.2.2.2.2.1, (x.1.2.2.2.2.2.2.2.1, (false, x.1.2.2.2.2.2.2.2.2.2))))))))), ())))
         (cond (eqI .i64 r4.2.2.1.2.1 (6 : Int))
          ((G187 (x.1.2.2.2.2.1, r4.2.2.1.2.1, ())).bind fun r11 =>
           some (Sum.inr (r11.1, (r4.1, (r4.2.1, (x.1.2.2.1, (x.1.2.2.2.1, (x.1.2.2.2.2.1, (x.1.2.2.2.2.2.1, (x.1.2.2.2.2.2.2.1, (x.1.2.2.2.2.2.2.2.1, (false, x.1.2.2.2.2.2.2.2.2.2))))))))), ())))
          (cond (eqI .i64 r4.2.2.1.2.1 (7 : Int))
           ((G188 (x.1.2.2.2.2.2.1, r4.2.2.1.2.1, ())).bind fun r12 =>
            some (Sum.inr (r12.1, (r4.1, (r4.2.1, (x.1.2.2.1, (x.1.2.2.2.1, (x.1.2.2.2.2.1, (x.1.2.2.2.2.2.1, (x.1.2.2.2.2.2.2.1, (x.1.2.2.2.2.2.2.2.1, (false, x.1.2.2.2.2.2.2.2.2.2))))))))), ())))
           (cond (eqI .i64 r4.2.2.1.2.1 (8 : Int))
            ((G188 (x.1.2.2.2.2.2.1, r4.2.2.1.2.1, ())).bind fun r13 =>
             some (Sum.inr (r13.1, (r4.1, (r4.2.1, (x.1.2.2.1, (x.1.2.2.2.1, (x.1.2.2.2.2.1, (x.1.2.2.2.2.2.1, (x.1.2.2.2.2.2.2.1, (x.1.2.2.2.2.2.2.2.1, (false, x.1.2.2.2.2.2.2.2.2.2))))))))), ())))
            (cond (eqI .i64 r4.2.2.1.2.1 (9 : Int))
             ((G188 (x.1.2.2.2.2.2.1, r4.2.2.1.2.1, ())).bind fun r14 =>
              some (Sum.inr (r14.1, (r4.1, (r4.2.1, (x.1.2.2.1, (x.1.2.2.2.1, (x.1.2.2.2.2.1, (x.1.2.2.2.2.2.1, (x.1.2.2.2.2.2.2.1, (x.1.2.2.2.2.2.2.2.1, (false, x.1.2.2.2.2.2.2.2.2.2))))))))), ())))
             ((G189 (x.1.2.2.2.2.2.2.1, r4.2.2.1.2.1, ())).bind fun r15 =>
              some (Sum.inr (r15.1, (r4.1, (r4.2.1, (x.1.2.2.1, (x.1.2.2.2.1, (x.1.2.2.2.2.1, (x.1.2.2.2.2.2.1, (x.1.2.2.2.2.2.2.1, (x.1.2.2.2.2.2.2.2.1, (false, x.1.2.2.2.2.2.2.2.2.2))))))))), ()))))))))))))
    fun z5 =>
    cond (!eqI .i64 r4.2.2.1.2.2.1 (0 : Int))
    (if (inR .i64 r4.2.2.1.2.2.1 16) = true then
     some ((((List.set z5.2.1.1.1 (cnt .i64 r4.2.2.1.2.2.1) z5.1), z5.2.1.1.2), (z5.2.1.2.1, (z5.2.1.2.2.1, (z5.2.1.2.2.2.1, (z5.2.1.2.2.2.2.1, (z5.2.1.2.2.2.2.2.1, (z5.2.1.2.2.2.2.2.2.1, ((add .u64 z5.2.1.2.2.2.2.2.2.2.1 (1#64)), z5.2.1.2.2.2.2.2.2.2.2)))))))), ([] : List ((Int) × ((BitVec 64) × ((BitVec 32) × ((List (BitVec 8)) × (Unit)))))), ())
     else none)
    (some ((z5.2.1.1, (z5.2.1.2.1, (z5.2.1.2.2.1, (z5.2.1.2.2.2.1, (z5.2.1.2.2.2.2.1, (z5.2.1.2.2.2.2.2.1, (z5.2.1.2.2.2.2.2.2.1, ((add .u64 z5.2.1.2.2.2.2.2.2.2.1 (1#64)), z5.2.1.2.2.2.2.2.2.2.2)))))))), ([] : List ((Int) × ((BitVec 64) × ((BitVec 32) × ((List (BitVec 8)) × (Unit)))))), ())))
   (cond (eqI .i64 r4.2.2.1.1 (2 : Int))
    (cond (eqI .i64 r4.2.2.1.2.1 (0 : Int))
     (some ((r4.1, (r4.2.1, (x.1.2.2.1, (x.1.2.2.2.1, (x.1.2.2.2.2.1, (x.1.2.2.2.2.2.1, (x.1.2.2.2.2.2.2.1, ((add .u64 x.1.2.2.2.2.2.2.2.1 (1#64)), (false, x.1.2.2.2.2.2.2.2.2.2))))))))), [((1 : Int), (x.1.2.2.2.2.2.2.2.1, ((0#32), ([(cv .u32 .u8 r4.2.2.1.2.2.2.1)], ()))))], ()))
     (cond (eqI .i64 r4.2.2.1.2.1 (3 : Int))
      ((G190 (x.1.2.2.2.1, r4.2.2.1.2.2.2.1, ())).bind fun r16 =>
       some ((r4.1, (r4.2.1, (x.1.2.2.1, (r16.1, (x.1.2.2.2.2.1, (x.1.2.2.2.2.2.1, (x.1.2.2.2.2.2.2.1, ((add .u64 x.1.2.2.2.2.2.2.2.1 (1#64)), (false, x.1.2.2.2.2.2.2.2.2.2))))))))), ([] : List ((Int) × ((BitVec 64) × ((BitVec 32) × ((List (BitVec 8)) × (Unit)))))), ()))
      (jn (R := (((List (BitVec 32)) × ((BitVec 32) × ((List (BitVec 32)) × (Unit)))) × ((List (BitVec 32)) × (((List (BitVec 8)) × (Unit)) × (((Bool) × ((BitVec 32) × ((Bool) × (Unit)))) × (((BitVec 32) × ((BitVec 32) × ((BitVec 32) × ((Int) × ((Int) × ((BitVec 32) × ((BitVec 32) × ((List (BitVec 8)) × (Unit))))))))) × (((BitVec 32) × ((BitVec 32) × ((Bool) × ((BitVec 32) × ((Bool) × ((BitVec 32) × (Unit))))))) × (((BitVec 32) × ((BitVec 32) × (Unit))) × ((BitVec 64) × ((Bool) × ((Bool) × (Unit))))))))))) × ((List ((Int) × ((BitVec 64) × ((BitVec 32) × ((List (BitVec 8)) × (Unit)))))) × (Unit))) (Z := (Bool) × (Unit))
       (cond (eqI .i64 r4.2.2.1.2.1 (4 : Int))
        (some (Sum.inr (true, ())))
        (cond (eqI .i64 r4.2.2.1.2.1 (5 : Int))
         (some (Sum.inr (true, ())))
         (some (Sum.inr ((eqI .i64 r4.2.2.1.2.1 (6 : Int)), ())))))
       fun z17 =>
       cond z17.1
       ((G191 (x.1.2.2.2.2.1, r4.2.1, r4.2.2.1.2.1, r4.2.2.1.2.2.2.1, x.1.2.2.2.2.2.2.2.1, ())).bind fun r18 =>
        some ((r4.1, (r4.2.1, (x.1.2.2.1, (x.1.2.2.2.1, (r18.1, (x.1.2.2.2.2.2.1, (x.1.2.2.2.2.2.2.1, ((add .u64 x.1.2.2.2.2.2.2.2.1 (1#64)), (false, x.1.2.2.2.2.2.2.2.2.2))))))))), r18.2.1, ()))
       (jn (R := (((List (BitVec 32)) × ((BitVec 32) × ((List (BitVec 32)) × (Unit)))) × ((List (BitVec 32)) × (((List (BitVec 8)) × (Unit)) × (((Bool) × ((BitVec 32) × ((Bool) × (Unit)))) × (((BitVec 32) × ((BitVec 32) × ((BitVec 32) × ((Int) × ((Int) × ((BitVec 32) × ((BitVec 32) × ((List (BitVec 8)) × (Unit))))))))) × (((BitVec 32) × ((BitVec 32) × ((Bool) × ((BitVec 32) × ((Bool) × ((BitVec 32) × (Unit))))))) × (((BitVec 32) × ((BitVec 32) × (Unit))) × ((BitVec 64) × ((Bool) × ((Bool) × (Unit))))))))))) × ((List ((Int) × ((BitVec 64) × ((BitVec 32) × ((List (BitVec 8)) × (Unit)))))) × (Unit))) (Z := (Bool) × (Unit))
        (cond (eqI .i64 r4.2.2.1.2.1 (7 : Int))
         (some (Sum.inr (true, ())))
         (cond (eqI .i64 r4.2.2.1.2.1 (8 : Int))
          (some (Sum.inr (true, ())))
          (some (Sum.inr ((eqI .i64 r4.2.2.1.2.1 (9 : Int)), ())))))
        fun z19 =>
        cond z19.1
        ((G192 (x.1.2.2.2.2.2.1, r4.2.1, r4.2.2.1.2.1, r4.2.2.1.2.2.2.1, x.1.2.2.2.2.2.2.2.1, ())).bind fun r20 =>
         some ((r4.1, (r4.2.1, (x.1.2.2.1, (x.1.2.2.2.1, (x.1.2.2.2.2.1, (r20.1, (x.1.2.2.2.2.2.2.1, ((add .u64 x.1.2.2.2.2.2.2.2.1 (1#64)), (false, x.1.2.2.2.2.2.2.2.2.2))))))))), r20.2.1, ()))
        (jn (R := (((List (BitVec 32)) × ((BitVec 32) × ((List (BitVec 32)) × (Unit)))) × ((List (BitVec 32)) × (((List (BitVec 8)) × (Unit)) × (((Bool) × ((BitVec 32) × ((Bool) × (Unit)))) × (((BitVec 32) × ((BitVec 32) × ((BitVec 32) × ((Int) × ((Int) × ((BitVec 32) × ((BitVec 32) × ((List (BitVec 8)) × (Unit))))))))) × (((BitVec 32) × ((BitVec 32) × ((Bool) × ((BitVec 32) × ((Bool) × ((BitVec 32) × (Unit))))))) × (((BitVec 32) × ((BitVec 32) × (Unit))) × ((BitVec 64) × ((Bool) × ((Bool) × (Unit))))))))))) × ((List ((Int) × ((BitVec 64) × ((BitVec 32) × ((List (BitVec 8)) × (Unit)))))) × (Unit))) (Z := (Bool) × (Unit))
         (cond (eqI .i64 r4.2.2.1.2.1 (10 : Int))
          (some (Sum.inr (true, ())))
          (some (Sum.inr ((eqI .i64 r4.2.2.1.2.1 (11 : Int)), ()))))
         fun z21 =>
         cond z21.1
         ((G193 (x.1.2.2.2.2.2.2.1, r4.2.1, r4.2.2.1.2.1, r4.2.2.1.2.2.2.1, ())).bind fun r22 =>
          some ((r4.1, (r22.2.1, (x.1.2.2.1, (x.1.2.2.2.1, (x.1.2.2.2.2.1, (x.1.2.2.2.2.2.1, (r22.1, ((add .u64 x.1.2.2.2.2.2.2.2.1 (1#64)), (false, x.1.2.2.2.2.2.2.2.2.2))))))))), ([] : List ((Int) × ((BitVec 64) × ((BitVec 32) × ((List (BitVec 8)) × (Unit)))))), ()))
         (some ((r4.1, (r4.2.1, (x.1.2.2.1, (x.1.2.2.2.1, (x.1.2.2.2.2.1, (x.1.2.2.2.2.2.1, (x.1.2.2.2.2.2.2.1, ((add .u64 x.1.2.2.2.2.2.2.2.1 (1#64)), (false, x.1.2.2.2.2.2.2.2.2.2))))))))), ([] : List ((Int) × ((BitVec 64) × ((BitVec 32) × ((List (BitVec 8)) × (Unit)))))), ())))))))
    (cond (eqI .i64 r4.2.2.1.1 (3 : Int))
     (some ((r4.1, (r4.2.1, (x.1.2.2.1, (x.1.2.2.2.1, (x.1.2.2.2.2.1, (x.1.2.2.2.2.2.1, (x.1.2.2.2.2.2.2.1, ((add .u64 x.1.2.2.2.2.2.2.2.1 (1#64)), (true, x.1.2.2.2.2.2.2.2.2.2))))))))), ([] : List ((Int) × ((BitVec 64) × ((BitVec 32) × ((List (BitVec 8)) × (Unit)))))), ()))
     (cond (eqI .i64 r4.2.2.1.1 (4 : Int))
      (some ((r4.1, (r4.2.1, (x.1.2.2.1, (x.1.2.2.2.1, (x.1.2.2.2.2.1, (x.1.2.2.2.2.2.1, (x.1.2.2.2.2.2.2.1, ((add .u64 x.1.2.2.2.2.2.2.2.1 (1#64)), (false, (true, x.1.2.2.2.2.2.2.2.2.2.2)))))))))), ([] : List ((Int) × ((BitVec 64) × ((BitVec 32) × ((List (BitVec 8)) × (Unit)))))), ()))
      (some ((r4.1, (r4.2.1, (x.1.2.2.1, (x.1.2.2.2.1, (x.1.2.2.2.2.1, (x.1.2.2.2.2.2.1, (x.1.2.2.2.2.2.2.1, ((add .u64 x.1.2.2.2.2.2.2.2.1 (1#64)), (false, x.1.2.2.2.2.2.2.2.2.2))))))))), ([] : List ((Int) × ((BitVec 64) × ((BitVec 32) × ((List (BitVec 8)) × (Unit)))))), ()))))))
noncomputable def K29 : Con := ⟨(.cons (.cons (.cons (.arr 16 (.int .u32)) (.cons (.int .u32) (.cons (.arr 8 (.int .u32)) .nil))) (.cons (.sl (.int .u32)) (.cons (.cons .str .nil) (.cons (.cons .bool (.cons (.int .u32) (.cons .bool .nil))) (.cons (.cons (.int .u32) (.cons (.int .u32) (.cons (.int .u32) (.cons (.int .i64) (.cons (.int .i64) (.cons (.int .u32) (.cons (.int .u32) (.cons .str .nil)))))))) (.cons (.cons (.int .u32) (.cons (.int .u32) (.cons .bool (.cons (.int .u32) (.cons .bool (.cons (.int .u32) .nil)))))) (.cons (.cons (.int .u32) (.cons (.int .u32) .nil)) (.cons (.int .u64) (.cons .bool (.cons .bool .nil)))))))))) (.cons (.int .u32) .nil)), (.cons (.cons (.cons (.arr 16 (.int .u32)) (.cons (.int .u32) (.cons (.arr 8 (.int .u32)) .nil))) (.cons (.sl (.int .u32)) (.cons (.cons .str .nil) (.cons (.cons .bool (.cons (.int .u32) (.cons .bool .nil))) (.cons (.cons (.int .u32) (.cons (.int .u32) (.cons (.int .u32) (.cons (.int .i64) (.cons (.int .i64) (.cons (.int .u32) (.cons (.int .u32) (.cons .str .nil)))))))) (.cons (.cons (.int .u32) (.cons (.int .u32) (.cons .bool (.cons (.int .u32) (.cons .bool (.cons (.int .u32) .nil)))))) (.cons (.cons (.int .u32) (.cons (.int .u32) .nil)) (.cons (.int .u64) (.cons .bool (.cons .bool .nil)))))))))) (.cons (.sl (.cons (.int .i64) (.cons (.int .u64) (.cons (.int .u32) (.cons .str .nil))))) .nil)), false, G29⟩
noncomputable def C29 : List (FuncId × Con) := [(81, K81), (82, K82), (83, K83), (84, K84), (185, K185), (186, K186), (187, K187), (188, K188), (189, K189), (190, K190)]
noncomputable def D29 : List (FuncId × Con) := [(191, K191), (192, K192), (193, K193)]
noncomputable def A29 : List (FuncId × Nat × Ann) := [(85, 3, (.nd none .nil (.nd none (.nd none .nil (.nd none (.nd none .nil (.nd none (.nd (some ⟨[(.slot 7, (.dat (.int .u32))), (.box 0, (.dat (.cons (.cons (.arr 16 (.int .u32)) (.cons (.int .u32) (.cons (.arr 8 (.int .u32)) .nil))) (.cons (.sl (.int .u32)) (.cons (.cons .str .nil) (.cons (.cons .bool (.cons (.int .u32) (.cons .bool .nil))) (.cons (.cons (.int .u32) (.cons (.int .u32) (.cons (.int .u32) (.cons (.int .i64) (.cons (.int .i64) (.cons (.int .u32) (.cons (.int .u32) (.cons .str .nil)))))))) (.cons (.cons (.int .u32) (.cons (.int .u32) (.cons .bool (.cons (.int .u32) (.cons .bool (.cons (.int .u32) .nil)))))) (.cons (.cons (.int .u32) (.cons (.int .u32) .nil)) (.cons (.int .u64) (.cons .bool (.cons .bool .nil))))))))))))], [7, 12, 13, 14, 15, 16], []⟩) .nil .nil) .nil)) .nil)) .nil))), (149, 4, (.nd none .nil (.nd none (.nd none .nil (.nd none (.nd (some ⟨[(.slot 9, (.dat .bool))], [9, 10, 11], []⟩) .nil .nil) .nil)) .nil))), (150, 4, (.nd none .nil (.nd none .nil (.nd none (.nd none .nil (.nd none (.nd none .nil (.nd none .nil (.nd none .nil (.nd none .nil (.nd (some ⟨[(.slot 32, (.dat .bool))], [32, 33, 34, 35], []⟩) .nil (.nd none .nil (.nd (some ⟨[(.slot 57, (.dat .bool))], [57, 58, 59, 60], []⟩) .nil (.nd none .nil (.nd (some ⟨[(.slot 82, (.dat .bool))], [82, 83, 84], []⟩) .nil .nil))))))))) .nil)) .nil))))]
theorem S29 : Sat Tryz.prog gls 29 K29 :=
  Sat.congr (runF_ok (E := EC C29) (cd := D29) (n := 8) (an := anL A29) mo (con_ok _) (ConOk.cons S81 <| ConOk.cons S82 <| ConOk.cons S83 <| ConOk.cons S84 <| ConOk.cons S185 <| ConOk.cons S186 <| ConOk.cons S187 <| ConOk.cons S188 <| ConOk.cons S189 <| ConOk.cons S190 <| ConOk.nil _ _) (ConOk.cons S191 <| ConOk.cons S192 <| ConOk.cons S193 <| ConOk.nil _ _) (by rfl)) (fun x => by kernel_rfl)
/-- slices.Equal[[]uint32,uint32] -/
noncomputable def G86 (x : (List (BitVec 32)) × ((List (BitVec 32)) × (Unit))) : Option ((Bool) × (Unit)) :=
  cond (!eqI .i64 ((List.length x.1 : Nat) : Int) ((List.length x.2.1 : Nat) : Int))
  (some (false, ()))
  (loopT (R := (Bool) × (Unit)) (X := (Int) × (Unit)) (fun z1 =>
    cond (ltI .i64 z1.1 ((List.length x.1 : Nat) : Int))
    (if (inR .i64 z1.1 (List.length x.1)) = true then
     if (inR .i64 z1.1 (List.length x.2.1)) = true then
     cond (!eqI .u32 (List.getD x.1 (cnt .i64 z1.1) (0#32)) (List.getD x.2.1 (cnt .i64 z1.1) (0#32)))
     (some (Sum.inl (false, ())))
     (some (Sum.inr ((add .i64 z1.1 (1 : Int)), ())))
     else none
     else none)
    (some (Sum.inl (true, ()))))
   ((0 : Int), ()))
noncomputable def K86 : Con := ⟨(.cons (.sl (.int .u32)) (.cons (.sl (.int .u32)) .nil)), (.cons .bool .nil), false, G86⟩
noncomputable def C86 : List (FuncId × Con) := []
noncomputable def D86 : List (FuncId × Con) := []
noncomputable def A86 : List (FuncId × Nat × Ann) := [(86, 0, (.nd none .nil (.nd none .nil (.nd none (.nd none .nil (.nd none (.nd (some ⟨[(.slot 13, (.dat (.int .i64)))], [5, 13, 14, 15, 16, 17, 18, 19, 20, 21, 22, 23, 24, 25], []⟩) .nil .nil) .nil)) .nil))))]
theorem S86 : Sat Tryz.prog gls 86 K86 :=
  Sat.congr (runF_ok (E := EC C86) (cd := D86) (n := 8) (an := anL A86) mo (con_ok _) (ConOk.nil _ _) (ConOk.nil _ _) (by rfl)) (fun x => by kernel_rfl)
/-- vmfleet/machine.Same -/
noncomputable def G30 (x : (((List (BitVec 32)) × ((BitVec 32) × ((List (BitVec 32)) × (Unit)))) × ((List (BitVec 32)) × (((List (BitVec 8)) × (Unit)) × (((Bool) × ((BitVec 32) × ((Bool) × (Unit)))) × (((BitVec 32) × ((BitVec 32) × ((BitVec 32) × ((Int) × ((Int) × ((BitVec 32) × ((BitVec 32) × ((List (BitVec 8)) × (Unit))))))))) × (((BitVec 32) × ((BitVec 32) × ((Bool) × ((BitVec 32) × ((Bool) × ((BitVec 32) × (Unit))))))) × (((BitVec 32) × ((BitVec 32) × (Unit))) × ((BitVec 64) × ((Bool) × ((Bool) × (Unit))))))))))) × ((((List (BitVec 32)) × ((BitVec 32) × ((List (BitVec 32)) × (Unit)))) × ((List (BitVec 32)) × (((List (BitVec 8)) × (Unit)) × (((Bool) × ((BitVec 32) × ((Bool) × (Unit)))) × (((BitVec 32) × ((BitVec 32) × ((BitVec 32) × ((Int) × ((Int) × ((BitVec 32) × ((BitVec 32) × ((List (BitVec 8)) × (Unit))))))))) × (((BitVec 32) × ((BitVec 32) × ((Bool) × ((BitVec 32) × ((Bool) × ((BitVec 32) × (Unit))))))) × (((BitVec 32) × ((BitVec 32) × (Unit))) × ((BitVec 64) × ((Bool) × ((Bool) × (Unit))))))))))) × (Unit))) : Option ((Bool) × (Unit)) :=
  let v1 := (eqD (.cons (.arr 16 (.int .u32)) (.cons (.int .u32) (.cons (.arr 8 (.int .u32)) .nil))) x.1.1 x.2.1.1)
  cond v1
  (cond (eqD (.cons .str .nil) x.1.2.2.1 x.2.1.2.2.1)
   (cond (eqD (.cons .bool (.cons (.int .u32) (.cons .bool .nil))) x.1.2.2.2.1 x.2.1.2.2.2.1)
    (let v2 := (eqD (.cons (.int .u32) (.cons (.int .u32) (.cons (.int .u32) (.cons (.int .i64) (.cons (.int .i64) (.cons (.int .u32) (.cons (.int .u32) (.cons .str .nil)))))))) x.1.2.2.2.2.1 x.2.1.2.2.2.2.1)
     cond v2
     (let v3 := (eqD (.cons (.int .u32) (.cons (.int .u32) (.cons .bool (.cons (.int .u32) (.cons .bool (.cons (.int .u32) .nil)))))) x.1.2.2.2.2.2.1 x.2.1.2.2.2.2.2.1)
      cond v3
      (cond (eqD (.cons (.int .u32) (.cons (.int .u32) .nil)) x.1.2.2.2.2.2.2.1 x.2.1.2.2.2.2.2.2.1)
       (cond (eqI .u64 x.1.2.2.2.2.2.2.2.1 x.2.1.2.2.2.2.2.2.2.1)
        (cond (x.1.2.2.2.2.2.2.2.2.1 == x.2.1.2.2.2.2.2.2.2.2.1)
         (cond (x.1.2.2.2.2.2.2.2.2.2.1 == x.2.1.2.2.2.2.2.2.2.2.2.1)
          ((G86 (x.1.2.1, x.2.1.2.1, ())).bind fun r4 =>
           some (r4.1, ()))
          (some (false, ())))
         (some (false, ())))
        (some (false, ())))
       (some (false, ())))
      (some (false, ())))
     (some (false, ())))
    (some (false, ())))
   (some (false, ())))
  (some (false, ()))
noncomputable def K30 : Con := ⟨(.cons (.cons (.cons (.arr 16 (.int .u32)) (.cons (.int .u32) (.cons (.arr 8 (.int .u32)) .nil))) (.cons (.sl (.int .u32)) (.cons (.cons .str .nil) (.cons (.cons .bool (.cons (.int .u32) (.cons .bool .nil))) (.cons (.cons (.int .u32) (.cons (.int .u32) (.cons (.int .u32) (.cons (.int .i64) (.cons (.int .i64) (.cons (.int .u32) (.cons (.int .u32) (.cons .str .nil)))))))) (.cons (.cons (.int .u32) (.cons (.int .u32) (.cons .bool (.cons (.int .u32) (.cons .bool (.cons (.int .u32) .nil)))))) (.cons (.cons (.int .u32) (.cons (.int .u32) .nil)) (.cons (.int .u64) (.cons .bool (.cons .bool .nil)))))))))) (.cons (.cons (.cons (.arr 16 (.int .u32)) (.cons (.int .u32) (.cons (.arr 8 (.int .u32)) .nil))) (.cons (.sl (.int .u32)) (.cons (.cons .str .nil) (.cons (.cons .bool (.cons (.int .u32) (.cons .bool .nil))) (.cons (.cons (.int .u32) (.cons (.int .u32) (.cons (.int .u32) (.cons (.int .i64) (.cons (.int .i64) (.cons (.int .u32) (.cons (.int .u32) (.cons .str .nil)))))))) (.cons (.cons (.int .u32) (.cons (.int .u32) (.cons .bool (.cons (.int .u32) (.cons .bool (.cons (.int .u32) .nil)))))) (.cons (.cons (.int .u32) (.cons (.int .u32) .nil)) (.cons (.int .u64) (.cons .bool (.cons .bool .nil)))))))))) .nil)), (.cons .bool .nil), false, G30⟩
noncomputable def C30 : List (FuncId × Con) := [(86, K86)]
noncomputable def D30 : List (FuncId × Con) := []
noncomputable def A30 : List (FuncId × Nat × Ann) := []
theorem S30 : Sat Tryz.prog gls 30 K30 :=
  Sat.congr (runF_ok (E := EC C30) (cd := D30) (n := 8) (an := anL A30) mo (con_ok _) (ConOk.cons S86 <| ConOk.nil _ _) (ConOk.nil _ _) (by rfl)) (fun x => by kernel_rfl)
/-- vmfleet/vmfleetlaw12.awake -/
noncomputable def G17 (x : Unit) : Option ((Bool) × (Unit)) :=
  (G18 ((1 : Int), (0 : Int), ([] : List (BitVec 32)), ())).bind fun r1 =>
  (G29 (r1.1, (0#32), ())).bind fun r2 =>
  cond (eqI .i64 r1.2.1 (0 : Int))
  ((G21 (r1.1, ())).bind fun r3 =>
   cond r3.1
   (cond (eqI .u64 r2.1.2.2.2.2.2.2.2.1 (1#64))
    (if (inR .i64 (3 : Int) 8) = true then
     cond (eqI .u32 (List.getD r2.1.1.2.2.1 (cnt .i64 (3 : Int)) (0#32)) (1#32))
     (cond (eqI .i64 ((List.length r2.2.1 : Nat) : Int) (0 : Int))
      ((G30 (r1.1, r2.1, ())).bind fun r4 =>
       some ((!r4.1), ()))
      (some (false, ())))
     (some (false, ()))
     else none)
    (some (false, ())))
   (some (false, ())))
  (some (false, ()))
noncomputable def K17 : Con := ⟨.nil, (.cons .bool .nil), false, G17⟩
noncomputable def C17 : List (FuncId × Con) := [(18, K18), (21, K21), (29, K29), (30, K30)]
noncomputable def D17 : List (FuncId × Con) := []
noncomputable def A17 : List (FuncId × Nat × Ann) := []
theorem S17 : Sat Tryz.prog gls 17 K17 :=
  Sat.congr (runF_ok (E := EC C17) (cd := D17) (n := 8) (an := anL A17) mo (con_ok _) (ConOk.cons S18 <| ConOk.cons S21 <| ConOk.cons S29 <| ConOk.cons S30 <| ConOk.nil _ _) (ConOk.nil _ _) (by rfl)) (fun x => by kernel_rfl)
/-- vmfleet/vmfleetref1.Reset -/
noncomputable def G63 (x : (BitVec 32) × (Unit)) : Option (((List (BitVec 32)) × ((BitVec 32) × ((List (BitVec 32)) × (Unit)))) × (Unit)) :=
  if (inR .i64 (0 : Int) 8) = true then
  some (((dflt (.arr 16 (.int .u32))), (x.1, ((List.set (dflt (.arr 8 (.int .u32))) (cnt .i64 (0 : Int)) (1#32)), ()))), ())
  else none
noncomputable def K63 : Con := ⟨(.cons (.int .u32) .nil), (.cons (.cons (.arr 16 (.int .u32)) (.cons (.int .u32) (.cons (.arr 8 (.int .u32)) .nil))) .nil), false, G63⟩
noncomputable def C63 : List (FuncId × Con) := []
noncomputable def D63 : List (FuncId × Con) := []
noncomputable def A63 : List (FuncId × Nat × Ann) := []
theorem S63 : Sat Tryz.prog gls 63 K63 :=
  Sat.congr (runF_ok (E := EC C63) (cd := D63) (n := 8) (an := anL A63) mo (con_ok _) (ConOk.nil _ _) (ConOk.nil _ _) (by rfl)) (fun x => by kernel_rfl)
/-- vmfleet/vmfleetref7.New -/
noncomputable def G19 (x : (Int) × ((Int) × ((List (BitVec 32)) × (Unit)))) : Option ((((List (BitVec 32)) × ((BitVec 32) × ((List (BitVec 32)) × (Unit)))) × ((List (BitVec 32)) × (((List (BitVec 8)) × (Unit)) × (((Bool) × ((BitVec 32) × ((Bool) × (Unit)))) × (((BitVec 32) × ((BitVec 32) × ((BitVec 32) × ((Int) × ((Int) × ((BitVec 32) × ((BitVec 32) × ((List (BitVec 8)) × (Unit))))))))) × (((BitVec 32) × ((BitVec 32) × ((Bool) × ((BitVec 32) × ((Bool) × ((BitVec 32) × (Unit))))))) × (((BitVec 32) × ((BitVec 32) × (Unit))) × ((BitVec 64) × ((Bool) × ((Bool) × (Unit))))))))))) × ((Bool) × (Unit))) :=
  cond (ltI .i64 x.1 (1 : Int))
  (some ((((dflt (.arr 16 (.int .u32))), ((0#32), ((dflt (.arr 8 (.int .u32))), ()))), (([] : List (BitVec 32)), (((dflt .str), ()), ((false, ((0#32), (false, ()))), (((0#32), ((0#32), ((0#32), ((0 : Int), ((0 : Int), ((0#32), ((0#32), ((dflt .str), ())))))))), (((0#32), ((0#32), (false, ((0#32), (false, ((0#32), ())))))), (((0#32), ((0#32), ())), ((0#64), (false, (false, ())))))))))), false, ()))
  (cond (ltI .i64 (32 : Int) x.1)
   (some ((((dflt (.arr 16 (.int .u32))), ((0#32), ((dflt (.arr 8 (.int .u32))), ()))), (([] : List (BitVec 32)), (((dflt .str), ()), ((false, ((0#32), (false, ()))), (((0#32), ((0#32), ((0#32), ((0 : Int), ((0 : Int), ((0#32), ((0#32), ((dflt .str), ())))))))), (((0#32), ((0#32), (false, ((0#32), (false, ((0#32), ())))))), (((0#32), ((0#32), ())), ((0#64), (false, (false, ())))))))))), false, ()))
   (cond (ltI .i64 x.2.1 (0 : Int))
    (some ((((dflt (.arr 16 (.int .u32))), ((0#32), ((dflt (.arr 8 (.int .u32))), ()))), (([] : List (BitVec 32)), (((dflt .str), ()), ((false, ((0#32), (false, ()))), (((0#32), ((0#32), ((0#32), ((0 : Int), ((0 : Int), ((0#32), ((0#32), ((dflt .str), ())))))))), (((0#32), ((0#32), (false, ((0#32), (false, ((0#32), ())))))), (((0#32), ((0#32), ())), ((0#64), (false, (false, ())))))))))), false, ()))
    (cond (ltI .i64 (64 : Int) x.2.1)
     (some ((((dflt (.arr 16 (.int .u32))), ((0#32), ((dflt (.arr 8 (.int .u32))), ()))), (([] : List (BitVec 32)), (((dflt .str), ()), ((false, ((0#32), (false, ()))), (((0#32), ((0#32), ((0#32), ((0 : Int), ((0 : Int), ((0#32), ((0#32), ((dflt .str), ())))))))), (((0#32), ((0#32), (false, ((0#32), (false, ((0#32), ())))))), (((0#32), ((0#32), ())), ((0#64), (false, (false, ())))))))))), false, ()))
     (cond (ltI .i64 (mul .i64 x.1 (32 : Int)) ((List.length x.2.2.1 : Nat) : Int))
      (some ((((dflt (.arr 16 (.int .u32))), ((0#32), ((dflt (.arr 8 (.int .u32))), ()))), (([] : List (BitVec 32)), (((dflt .str), ()), ((false, ((0#32), (false, ()))), (((0#32), ((0#32), ((0#32), ((0 : Int), ((0 : Int), ((0#32), ((0#32), ((dflt .str), ())))))))), (((0#32), ((0#32), (false, ((0#32), (false, ((0#32), ())))))), (((0#32), ((0#32), ())), ((0#64), (false, (false, ())))))))))), false, ()))
      ((G63 ((0#32), ())).bind fun r1 =>
       cond (ltI .i64 x.1 (1 : Int))
       (some ((r1.1, (([] : List (BitVec 32)), (((dflt .str), ()), ((false, ((0#32), (false, ()))), (((cv .i64 .u32 x.2.1), ((0#32), ((0#32), ((0 : Int), ((0 : Int), ((0#32), ((0#32), ((dflt .str), ())))))))), (((0#32), ((0#32), (false, ((0#32), (false, ((0#32), ())))))), (((0#32), ((0#32), ())), ((0#64), (false, (false, ())))))))))), true, ()))
       (cond (ltI .i64 (32 : Int) x.1)
        (some ((r1.1, (([] : List (BitVec 32)), (((dflt .str), ()), ((false, ((0#32), (false, ()))), (((cv .i64 .u32 x.2.1), ((0#32), ((0#32), ((0 : Int), ((0 : Int), ((0#32), ((0#32), ((dflt .str), ())))))))), (((0#32), ((0#32), (false, ((0#32), (false, ((0#32), ())))))), (((0#32), ((0#32), ())), ((0#64), (false, (false, ())))))))))), true, ()))
        (if (decide (0 ≤ toI .i64 (mul .i64 x.1 (32 : Int))) && decide (toI .i64 (mul .i64 x.1 (32 : Int)) ≤ toI .i64 (mul .i64 x.1 (32 : Int))) && room ((toI .i64 (mul .i64 x.1 (32 : Int))).toNat * 4) && decide (toI .i64 (mul .i64 x.1 (32 : Int)) ≤ 140737488355328) && true) = true then
         let v2 := ((min (List.length x.2.2.1) (List.length (List.replicate (cnt .i64 (mul .i64 x.1 (32 : Int))) (0#32))) : Nat) : Int)
         some ((r1.1, ((List.take (List.length (List.replicate (cnt .i64 (mul .i64 x.1 (32 : Int))) (0#32))) x.2.2.1 ++ List.drop (List.length x.2.2.1) (List.replicate (cnt .i64 (mul .i64 x.1 (32 : Int))) (0#32))), (((dflt .str), ()), ((false, ((0#32), (false, ()))), (((cv .i64 .u32 x.2.1), ((0#32), ((0#32), ((0 : Int), ((0 : Int), ((0#32), ((0#32), ((dflt .str), ())))))))), (((0#32), ((0#32), (false, ((0#32), (false, ((0#32), ())))))), (((0#32), ((0#32), ())), ((0#64), (false, (false, ())))))))))), true, ())
         else none)))))))
noncomputable def K19 : Con := ⟨(.cons (.int .i64) (.cons (.int .i64) (.cons (.sl (.int .u32)) .nil))), (.cons (.cons (.cons (.arr 16 (.int .u32)) (.cons (.int .u32) (.cons (.arr 8 (.int .u32)) .nil))) (.cons (.sl (.int .u32)) (.cons (.cons .str .nil) (.cons (.cons .bool (.cons (.int .u32) (.cons .bool .nil))) (.cons (.cons (.int .u32) (.cons (.int .u32) (.cons (.int .u32) (.cons (.int .i64) (.cons (.int .i64) (.cons (.int .u32) (.cons (.int .u32) (.cons .str .nil)))))))) (.cons (.cons (.int .u32) (.cons (.int .u32) (.cons .bool (.cons (.int .u32) (.cons .bool (.cons (.int .u32) .nil)))))) (.cons (.cons (.int .u32) (.cons (.int .u32) .nil)) (.cons (.int .u64) (.cons .bool (.cons .bool .nil)))))))))) (.cons .bool .nil)), false, G19⟩
noncomputable def C19 : List (FuncId × Con) := [(63, K63)]
noncomputable def D19 : List (FuncId × Con) := []
noncomputable def A19 : List (FuncId × Nat × Ann) := []
theorem S19 : Sat Tryz.prog gls 19 K19 :=
  Sat.congr (runF_ok (E := EC C19) (cd := D19) (n := 8) (an := anL A19) mo (con_ok _) (ConOk.cons S63 <| ConOk.nil _ _) (ConOk.nil _ _) (by rfl)) (fun x => by kernel_rfl)
/-- vmfleet/vmfleetref1.SameWords -/
noncomputable def G57 (x : (List (BitVec 32)) × ((List (BitVec 32)) × (Unit))) : Option ((Bool) × (Unit)) :=
  cond (!eqI .i64 ((List.length x.1 : Nat) : Int) ((List.length x.2.1 : Nat) : Int))
  (some (false, ()))
  (loopT (R := (Bool) × (Unit)) (X := (Int) × (Unit)) (fun z1 =>
    cond (ltI .i64 z1.1 ((List.length x.1 : Nat) : Int))
    (if (inR .i64 z1.1 (List.length x.1)) = true then
     if (inR .i64 z1.1 (List.length x.2.1)) = true then
     cond (!eqI .u32 (List.getD x.1 (cnt .i64 z1.1) (0#32)) (List.getD x.2.1 (cnt .i64 z1.1) (0#32)))
     (some (Sum.inl (false, ())))
     (some (Sum.inr ((add .i64 z1.1 (1 : Int)), ())))
     else none
     else none)
    (some (Sum.inl (true, ()))))
   ((0 : Int), ()))
noncomputable def K57 : Con := ⟨(.cons (.sl (.int .u32)) (.cons (.sl (.int .u32)) .nil)), (.cons .bool .nil), false, G57⟩
noncomputable def C57 : List (FuncId × Con) := []
noncomputable def D57 : List (FuncId × Con) := []
noncomputable def A57 : List (FuncId × Nat × Ann) := [(57, 0, (.nd none .nil (.nd none .nil (.nd none (.nd none .nil (.nd none (.nd (some ⟨[(.slot 5, (.dat (.int .i64)))], [5, 11, 12, 13, 14, 15, 16, 17, 18, 19, 20, 21, 22, 23, 24, 25], []⟩) .nil .nil) .nil)) .nil))))]
theorem S57 : Sat Tryz.prog gls 57 K57 :=
  Sat.congr (runF_ok (E := EC C57) (cd := D57) (n := 8) (an := anL A57) mo (con_ok _) (ConOk.nil _ _) (ConOk.nil _ _) (by rfl)) (fun x => by kernel_rfl)
/-- vmfleet/vmfleetref7.Same -/
noncomputable def G20 (x : (((List (BitVec 32)) × ((BitVec 32) × ((List (BitVec 32)) × (Unit)))) × ((List (BitVec 32)) × (((List (BitVec 8)) × (Unit)) × (((Bool) × ((BitVec 32) × ((Bool) × (Unit)))) × (((BitVec 32) × ((BitVec 32) × ((BitVec 32) × ((Int) × ((Int) × ((BitVec 32) × ((BitVec 32) × ((List (BitVec 8)) × (Unit))))))))) × (((BitVec 32) × ((BitVec 32) × ((Bool) × ((BitVec 32) × ((Bool) × ((BitVec 32) × (Unit))))))) × (((BitVec 32) × ((BitVec 32) × (Unit))) × ((BitVec 64) × ((Bool) × ((Bool) × (Unit))))))))))) × ((((List (BitVec 32)) × ((BitVec 32) × ((List (BitVec 32)) × (Unit)))) × ((List (BitVec 32)) × (((List (BitVec 8)) × (Unit)) × (((Bool) × ((BitVec 32) × ((Bool) × (Unit)))) × (((BitVec 32) × ((BitVec 32) × ((BitVec 32) × ((Int) × ((Int) × ((BitVec 32) × ((BitVec 32) × ((List (BitVec 8)) × (Unit))))))))) × (((BitVec 32) × ((BitVec 32) × ((Bool) × ((BitVec 32) × ((Bool) × ((BitVec 32) × (Unit))))))) × (((BitVec 32) × ((BitVec 32) × (Unit))) × ((BitVec 64) × ((Bool) × ((Bool) × (Unit))))))))))) × (Unit))) : Option ((Bool) × (Unit)) :=
  let v1 := (eqD (.cons (.arr 16 (.int .u32)) (.cons (.int .u32) (.cons (.arr 8 (.int .u32)) .nil))) x.1.1 x.2.1.1)
  cond v1
  ((G57 (x.1.2.1, x.2.1.2.1, ())).bind fun r2 =>
   cond r2.1
   (cond (eqD (.cons .str .nil) x.1.2.2.1 x.2.1.2.2.1)
    (cond (eqD (.cons .bool (.cons (.int .u32) (.cons .bool .nil))) x.1.2.2.2.1 x.2.1.2.2.2.1)
     (let v3 := (eqD (.cons (.int .u32) (.cons (.int .u32) (.cons (.int .u32) (.cons (.int .i64) (.cons (.int .i64) (.cons (.int .u32) (.cons (.int .u32) (.cons .str .nil)))))))) x.1.2.2.2.2.1 x.2.1.2.2.2.2.1)
      cond v3
      (let v4 := (eqD (.cons (.int .u32) (.cons (.int .u32) (.cons .bool (.cons (.int .u32) (.cons .bool (.cons (.int .u32) .nil)))))) x.1.2.2.2.2.2.1 x.2.1.2.2.2.2.2.1)
       cond v4
       (cond (eqD (.cons (.int .u32) (.cons (.int .u32) .nil)) x.1.2.2.2.2.2.2.1 x.2.1.2.2.2.2.2.2.1)
        (cond (eqI .u64 x.1.2.2.2.2.2.2.2.1 x.2.1.2.2.2.2.2.2.2.1)
         (cond (x.1.2.2.2.2.2.2.2.2.1 == x.2.1.2.2.2.2.2.2.2.2.1)
          (some ((x.1.2.2.2.2.2.2.2.2.2.1 == x.2.1.2.2.2.2.2.2.2.2.2.1), ()))
          (some (false, ())))
         (some (false, ())))
        (some (false, ())))
       (some (false, ())))
      (some (false, ())))
     (some (false, ())))
    (some (false, ())))
   (some (false, ())))
  (some (false, ()))
noncomputable def K20 : Con := ⟨(.cons (.cons (.cons (.arr 16 (.int .u32)) (.cons (.int .u32) (.cons (.arr 8 (.int .u32)) .nil))) (.cons (.sl (.int .u32)) (.cons (.cons .str .nil) (.cons (.cons .bool (.cons (.int .u32) (.cons .bool .nil))) (.cons (.cons (.int .u32) (.cons (.int .u32) (.cons (.int .u32) (.cons (.int .i64) (.cons (.int .i64) (.cons (.int .u32) (.cons (.int .u32) (.cons .str .nil)))))))) (.cons (.cons (.int .u32) (.cons (.int .u32) (.cons .bool (.cons (.int .u32) (.cons .bool (.cons (.int .u32) .nil)))))) (.cons (.cons (.int .u32) (.cons (.int .u32) .nil)) (.cons (.int .u64) (.cons .bool (.cons .bool .nil)))))))))) (.cons (.cons (.cons (.arr 16 (.int .u32)) (.cons (.int .u32) (.cons (.arr 8 (.int .u32)) .nil))) (.cons (.sl (.int .u32)) (.cons (.cons .str .nil) (.cons (.cons .bool (.cons (.int .u32) (.cons .bool .nil))) (.cons (.cons (.int .u32) (.cons (.int .u32) (.cons (.int .u32) (.cons (.int .i64) (.cons (.int .i64) (.cons (.int .u32) (.cons (.int .u32) (.cons .str .nil)))))))) (.cons (.cons (.int .u32) (.cons (.int .u32) (.cons .bool (.cons (.int .u32) (.cons .bool (.cons (.int .u32) .nil)))))) (.cons (.cons (.int .u32) (.cons (.int .u32) .nil)) (.cons (.int .u64) (.cons .bool (.cons .bool .nil)))))))))) .nil)), (.cons .bool .nil), false, G20⟩
noncomputable def C20 : List (FuncId × Con) := [(57, K57)]
noncomputable def D20 : List (FuncId × Con) := []
noncomputable def A20 : List (FuncId × Nat × Ann) := []
theorem S20 : Sat Tryz.prog gls 20 K20 :=
  Sat.congr (runF_ok (E := EC C20) (cd := D20) (n := 8) (an := anL A20) mo (con_ok _) (ConOk.cons S57 <| ConOk.nil _ _) (ConOk.nil _ _) (by rfl)) (fun x => by kernel_rfl)
/-- vmfleet/vmfleetlaw12.MachineNews -/
noncomputable def G3 (x : (Int) × ((Int) × ((List (BitVec 32)) × ((List (Int)) × ((Bool) × (Unit)))))) : Option ((Bool) × (Unit)) :=
  jn (R := (Bool) × (Unit)) (Z := (Int) × ((Int) × ((List (BitVec 32)) × (Unit))))
  (cond x.2.2.2.2.1
   ((G15 (x.2.2.2.1, ())).bind fun r2 =>
    (G16 (x.1, (36 : Int), ())).bind fun r3 =>
    (G16 (x.2.1, (70 : Int), ())).bind fun r4 =>
    some (Sum.inr (r3.1, r4.1, r2.1, ())))
   (some (Sum.inr (x.1, x.2.1, x.2.2.1, ()))))
  fun z1 =>
  cond (ltI .i64 (200 : Int) ((List.length z1.2.2.1 : Nat) : Int))
  ((G17 ()).bind fun r5 =>
   some (r5.1, ()))
  ((G18 (z1.1, z1.2.1, z1.2.2.1, ())).bind fun r6 =>
   (G19 (z1.1, z1.2.1, z1.2.2.1, ())).bind fun r7 =>
   jn (R := (Bool) × (Unit)) (Z := Unit)
   (cond (!((eqI .i64 r6.2.1 (0 : Int)) == r7.2.1))
    (some (Sum.inl (false, ())))
    (cond (!r7.2.1)
     (cond (!eqI .i64 r6.2.1 (1200 : Int))
      (some (Sum.inl (false, ())))
      ((G20 (r6.1, r7.1, ())).bind fun r9 =>
       cond (!r9.1)
       (some (Sum.inl (false, ())))
       (some (Sum.inr ()))))
     ((G20 (r6.1, r7.1, ())).bind fun r10 =>
      cond (!r10.1)
      (some (Sum.inl (false, ())))
      (some (Sum.inr ())))))
   fun z8 =>
   cond (!r7.2.1)
   ((G17 ()).bind fun r11 =>
    some (r11.1, ()))
   ((G21 (r6.1, ())).bind fun r12 =>
    cond r12.1
    ((G22 (r6.1, ())).bind fun r13 =>
     cond (!r13.1)
     ((G17 ()).bind fun r14 =>
      some (r14.1, ()))
     (some (false, ())))
    (some (false, ()))))
noncomputable def K3 : Con := ⟨(.cons (.int .i64) (.cons (.int .i64) (.cons (.sl (.int .u32)) (.cons (.sl (.int .i64)) (.cons .bool .nil))))), (.cons .bool .nil), false, G3⟩
noncomputable def C3 : List (FuncId × Con) := [(15, K15), (16, K16), (17, K17), (18, K18), (19, K19), (20, K20), (21, K21), (22, K22)]
noncomputable def D3 : List (FuncId × Con) := []
noncomputable def A3 : List (FuncId × Nat × Ann) := [(3, 0, (.nd none .nil (.nd (some ⟨[(.slot 0, (.dat (.int .i64))), (.slot 1, (.dat (.int .i64))), (.slot 2, (.dat (.sl (.int .u32))))], [0, 1, 2, 15, 16, 17, 18, 19, 20, 21], []⟩) .nil (.nd none .nil (.nd none .nil (.nd none .nil (.nd (some ⟨[], [40, 41, 42, 43, 44, 45, 46, 47, 48, 49, 50, 51, 52, 53, 54, 55, 56, 57], []⟩) .nil .nil)))))))]
theorem S3 : Sat Tryz.prog gls 3 K3 :=
  Sat.congr (runF_ok (E := EC C3) (cd := D3) (n := 8) (an := anL A3) mo (con_ok _) (ConOk.cons S15 <| ConOk.cons S16 <| ConOk.cons S17 <| ConOk.cons S18 <| ConOk.cons S19 <| ConOk.cons S20 <| ConOk.cons S21 <| ConOk.cons S22 <| ConOk.nil _ _) (ConOk.nil _ _) (by rfl)) (fun x => by kernel_rfl)
end Go.Proofs.YtageoaecepnfnaaGreatDoor
