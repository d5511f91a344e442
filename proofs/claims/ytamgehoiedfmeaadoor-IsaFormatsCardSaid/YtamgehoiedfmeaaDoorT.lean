/- The functions of the seat of the Isa laws by text, each held against the evaluator by the kernel. Printed by this repo's wip/gen/emit.py. -/
import Derived.Test.YtamgehoiedfmeaaDoorProg
import Derived.Test.YtamgehoiedfmeaaDoorShelf
import Derived.Test.YtamgehoiedfmeaaDoorSyI
namespace Go.Proofs.YtamgehoiedfmeaaDoor
open Go Go.Sy Go.RowKit
set_option maxRecDepth 100000
set_option linter.unusedVariables false
/-- vmfleet/isa.names -/
noncomputable def gv0 : Den (.arr 65 .str) := [[], [97#8, 100#8, 100#8], [115#8, 117#8, 98#8], [97#8, 110#8, 100#8], [111#8, 114#8], [120#8, 111#8, 114#8], [115#8, 104#8, 108#8], [115#8, 104#8, 114#8], [115#8, 97#8, 114#8], [109#8, 117#8, 108#8], [100#8, 105#8, 118#8], [114#8, 101#8, 109#8], [115#8, 108#8, 116#8], [115#8, 108#8, 116#8, 117#8], [], [], [97#8, 100#8, 100#8, 105#8], [97#8, 110#8, 100#8, 105#8], [111#8, 114#8, 105#8], [120#8, 111#8, 114#8, 105#8], [115#8, 104#8, 108#8, 105#8], [115#8, 104#8, 114#8, 105#8], [115#8, 97#8, 114#8, 105#8], [115#8, 108#8, 116#8, 105#8], [108#8, 117#8, 105#8], [], [], [], [], [], [], [], [108#8, 119#8], [108#8, 98#8], [108#8, 98#8, 117#8], [115#8, 119#8], [115#8, 98#8], [], [], [], [98#8, 101#8, 113#8], [98#8, 110#8, 101#8], [98#8, 108#8, 116#8], [98#8, 103#8, 101#8], [98#8, 108#8, 116#8, 117#8], [98#8, 103#8, 101#8, 117#8], [], [], [106#8, 97#8, 108#8], [106#8, 97#8, 108#8, 114#8], [], [], [], [], [], [], [101#8, 99#8, 97#8, 108#8, 108#8], [101#8, 114#8, 101#8, 116#8], [99#8, 115#8, 114#8, 114#8], [99#8, 115#8, 114#8, 119#8], [105#8, 110#8], [111#8, 117#8, 116#8], [119#8, 102#8, 105#8], [102#8, 108#8, 117#8, 115#8, 104#8], [104#8, 97#8, 108#8, 116#8]]
/-- internal/strconv.uint64pow10 -/
noncomputable def gv1 : Den (.arr 20 (.int .u64)) := [(1#64), (10#64), (100#64), (1000#64), (10000#64), (100000#64), (1000000#64), (10000000#64), (100000000#64), (1000000000#64), (10000000000#64), (100000000000#64), (1000000000000#64), (10000000000000#64), (100000000000000#64), (1000000000000000#64), (10000000000000000#64), (100000000000000000#64), (1000000000000000000#64), (10000000000000000000#64)]
/-- math/bits.deBruijn32tab -/
noncomputable def gv2 : Den (.arr 32 (.int .u8)) := [(0#8), (1#8), (28#8), (2#8), (29#8), (14#8), (24#8), (3#8), (30#8), (22#8), (20#8), (15#8), (25#8), (17#8), (4#8), (8#8), (31#8), (27#8), (13#8), (23#8), (21#8), (19#8), (16#8), (7#8), (26#8), (12#8), (18#8), (6#8), (11#8), (5#8), (10#8), (9#8)]
/-- math/bits.deBruijn64tab -/
noncomputable def gv3 : Den (.arr 64 (.int .u8)) := [(0#8), (1#8), (56#8), (2#8), (57#8), (49#8), (28#8), (3#8), (61#8), (58#8), (42#8), (50#8), (38#8), (29#8), (17#8), (4#8), (62#8), (47#8), (59#8), (36#8), (45#8), (43#8), (51#8), (22#8), (53#8), (39#8), (33#8), (30#8), (24#8), (18#8), (12#8), (5#8), (63#8), (55#8), (48#8), (27#8), (60#8), (41#8), (37#8), (16#8), (46#8), (35#8), (44#8), (21#8), (52#8), (32#8), (23#8), (11#8), (54#8), (26#8), (40#8), (15#8), (34#8), (20#8), (31#8), (10#8), (25#8), (14#8), (19#8), (9#8), (13#8), (8#8), (7#8), (6#8)]
noncomputable def gls : List (Nat × GV) := [(0, ⟨(.arr 65 .str), gv0⟩), (1, ⟨(.arr 20 (.int .u64)), gv1⟩), (2, ⟨(.arr 32 (.int .u8)), gv2⟩), (3, ⟨(.arr 64 (.int .u8)), gv3⟩)]
noncomputable def E0 : Env :=
  ⟨[(2, (.int .i64), 8), (3, (.int .i64), 8), (4, .bool, 1), (5, (.int .u8), 1), (9, .str, 16), (21, (.int .i32), 4), (23, (.cons (.int .i64) (.cons (.int .i64) (.cons (.int .i64) (.cons (.int .i64) (.cons (.int .i32) .nil))))), 40), (25, (.int .u32), 4), (26, (.int .i64), 8), (39, (.int .u64), 8), (44, (.sl (.int .i64)), 24), (48, (.cons .bool (.cons .bool (.cons .bool (.cons (.int .i32) (.cons (.int .i32) .nil))))), 12), (55, (.int .i16), 2), (58, (.int .u64), 8), (64, (.arr 65 .str), 1040), (65, (.sl .str), 24), (68, (.sl (.int .u8)), 24), (75, (.arr 20 (.int .u64)), 160), (79, (.arr 32 (.int .u8)), 32), (80, (.arr 64 (.int .u8)), 64)],
    [(44, 3, 8), (65, 9, 16), (68, 5, 1)],
    [(23, (.cons (.int .i64) (.cons (.int .i64) (.cons (.int .i64) (.cons (.int .i64) (.cons (.int .i32) .nil))))))],
    gls, [],
    [(3, Tryd.f3), (4, Tryd.f4), (5, Tryd.f5), (6, Tryd.f6), (7, Tryd.f7), (8, Tryd.f8), (9, Tryd.f9), (10, Tryd.f10), (11, Tryd.f11), (12, Tryd.f12), (13, Tryd.f13), (14, Tryd.f14), (15, Tryd.f15), (16, Tryd.f16), (17, Tryd.f17), (18, Tryd.f18), (19, Tryd.f19), (20, Tryd.f20), (21, Tryd.f21), (22, Tryd.f22), (23, Tryd.f23), (24, Tryd.f24), (25, Tryd.f25), (26, Tryd.f26), (27, Tryd.f27), (28, Tryd.f28), (29, Tryd.f29), (30, Tryd.f30), (31, Tryd.f31), (32, Tryd.f32), (33, Tryd.f33), (34, Tryd.f34), (35, Tryd.f35), (36, Tryd.f36), (37, Tryd.f37), (38, Tryd.f38), (39, Tryd.f39), (40, Tryd.f40), (41, Tryd.f41), (42, Tryd.f42), (43, Tryd.f43), (44, Tryd.f44), (46, Tryd.f46)],
    []⟩
theorem mo : Tryd.prog.follows .mixedOrders = true := by kernel_rfl
theorem E0_ok : E0.Ok Tryd.prog := Env.ok_of (by kernel_rfl) (by kernel_rfl) (by kernel_rfl)
  (FnsOk.cons Tryd.func3 (by kernel_rfl) <| FnsOk.cons Tryd.func4 (by kernel_rfl) <| FnsOk.cons Tryd.func5 (by kernel_rfl) <| FnsOk.cons Tryd.func6 (by kernel_rfl) <| FnsOk.cons Tryd.func7 (by kernel_rfl) <| FnsOk.cons Tryd.func8 (by kernel_rfl) <| FnsOk.cons Tryd.func9 (by kernel_rfl) <| FnsOk.cons Tryd.func10 (by kernel_rfl) <| FnsOk.cons Tryd.func11 (by kernel_rfl) <| FnsOk.cons Tryd.func12 (by kernel_rfl) <| FnsOk.cons Tryd.func13 (by kernel_rfl) <| FnsOk.cons Tryd.func14 (by kernel_rfl) <| FnsOk.cons Tryd.func15 (by kernel_rfl) <| FnsOk.cons Tryd.func16 (by kernel_rfl) <| FnsOk.cons Tryd.func17 (by kernel_rfl) <| FnsOk.cons Tryd.func18 (by kernel_rfl) <| FnsOk.cons Tryd.func19 (by kernel_rfl) <| FnsOk.cons Tryd.func20 (by kernel_rfl) <| FnsOk.cons Tryd.func21 (by kernel_rfl) <| FnsOk.cons Tryd.func22 (by kernel_rfl) <| FnsOk.cons Tryd.func23 (by kernel_rfl) <| FnsOk.cons Tryd.func24 (by kernel_rfl) <| FnsOk.cons Tryd.func25 (by kernel_rfl) <| FnsOk.cons Tryd.func26 (by kernel_rfl) <| FnsOk.cons Tryd.func27 (by kernel_rfl) <| FnsOk.cons Tryd.func28 (by kernel_rfl) <| FnsOk.cons Tryd.func29 (by kernel_rfl) <| FnsOk.cons Tryd.func30 (by kernel_rfl) <| FnsOk.cons Tryd.func31 (by kernel_rfl) <| FnsOk.cons Tryd.func32 (by kernel_rfl) <| FnsOk.cons Tryd.func33 (by kernel_rfl) <| FnsOk.cons Tryd.func34 (by kernel_rfl) <| FnsOk.cons Tryd.func35 (by kernel_rfl) <| FnsOk.cons Tryd.func36 (by kernel_rfl) <| FnsOk.cons Tryd.func37 (by kernel_rfl) <| FnsOk.cons Tryd.func38 (by kernel_rfl) <| FnsOk.cons Tryd.func39 (by kernel_rfl) <| FnsOk.cons Tryd.func40 (by kernel_rfl) <| FnsOk.cons Tryd.func41 (by kernel_rfl) <| FnsOk.cons Tryd.func42 (by kernel_rfl) <| FnsOk.cons Tryd.func43 (by kernel_rfl) <| FnsOk.cons Tryd.func44 (by kernel_rfl) <| FnsOk.cons Tryd.func46 (by kernel_rfl) <| FnsOk.nil _)
  (ClnOk.nil _)
noncomputable def EC (l : List (FuncId × Con)) : Env := ⟨E0.ty, E0.sl, E0.eq, gls, l, E0.fns, E0.cln⟩
theorem con_ok (l : List (FuncId × Con)) : (EC l).Ok Tryd.prog := E0_ok.con l
/-- vmfleet/vmfleetmake.ops -/
noncomputable def G25 (x : Unit) : Option ((List (Int)) × (Unit)) :=
  some ([(1 : Int), (2 : Int), (3 : Int), (4 : Int), (5 : Int), (6 : Int), (7 : Int), (8 : Int), (9 : Int), (10 : Int), (11 : Int), (12 : Int), (13 : Int), (16 : Int), (16 : Int), (17 : Int), (18 : Int), (19 : Int), (20 : Int), (21 : Int), (22 : Int), (23 : Int), (24 : Int), (24 : Int), (32 : Int), (32 : Int), (33 : Int), (34 : Int), (35 : Int), (35 : Int), (36 : Int), (40 : Int), (41 : Int), (42 : Int), (43 : Int), (44 : Int), (45 : Int), (48 : Int), (49 : Int), (56 : Int), (57 : Int), (58 : Int), (59 : Int), (60 : Int), (60 : Int), (61 : Int), (61 : Int), (62 : Int), (63 : Int), (64 : Int)], ())
noncomputable def K25 : Con := ⟨.nil, (.cons (.sl (.int .i64)) .nil), false, G25⟩
noncomputable def C25 : List (FuncId × Con) := []
noncomputable def D25 : List (FuncId × Con) := []
noncomputable def A25 : List (FuncId × Nat × Ann) := []
theorem S25 : Sat Tryd.prog gls 25 K25 :=
  Sat.congr (runF_ok (E := EC C25) (cd := D25) (n := 8) (an := anL A25) mo (con_ok _) (ConOk.nil _ _) (ConOk.nil _ _) (by rfl)) (fun x => by kernel_rfl)
/-- vmfleet/vmfleetref1.Next -/
noncomputable def G40 (x : (BitVec 64) × (Unit)) : Option ((BitVec 64) × ((BitVec 64) × (Unit))) :=
  let v1 := (xorI .u64 (add .u64 x.1 (11400714819323198485#64)) (shr .u64 (add .u64 x.1 (11400714819323198485#64)) (cnt .u64 (30#64))))
  let v2 := (xorI .u64 (mul .u64 v1 (13787848793156543929#64)) (shr .u64 (mul .u64 v1 (13787848793156543929#64)) (cnt .u64 (27#64))))
  let v3 := (xorI .u64 (mul .u64 v2 (10723151780598845931#64)) (shr .u64 (mul .u64 v2 (10723151780598845931#64)) (cnt .u64 (31#64))))
  some (v3, (add .u64 x.1 (11400714819323198485#64)), ())
noncomputable def K40 : Con := ⟨(.cons (.int .u64) .nil), (.cons (.int .u64) (.cons (.int .u64) .nil)), false, G40⟩
noncomputable def C40 : List (FuncId × Con) := []
noncomputable def D40 : List (FuncId × Con) := []
noncomputable def A40 : List (FuncId × Nat × Ann) := []
theorem S40 : Sat Tryd.prog gls 40 K40 :=
  Sat.congr (runF_ok (E := EC C40) (cd := D40) (n := 8) (an := anL A40) mo (con_ok _) (ConOk.nil _ _) (ConOk.nil _ _) (by rfl)) (fun x => by kernel_rfl)
/-- vmfleet/vmfleetmake.Mix -/
noncomputable def G26 (x : (Int) × ((Int) × (Unit))) : Option ((Int) × (Unit)) :=
  (G40 ((xorI .u64 (cv .i64 .u64 x.1) (mul .u64 (cv .i64 .u64 x.2.1) (11400714819323198485#64))), ())).bind fun r1 =>
  some ((cv .u64 .i64 (shr .u64 r1.1 (cnt .u64 (1#64)))), ())
noncomputable def K26 : Con := ⟨(.cons (.int .i64) (.cons (.int .i64) .nil)), (.cons (.int .i64) .nil), false, G26⟩
noncomputable def C26 : List (FuncId × Con) := [(40, K40)]
noncomputable def D26 : List (FuncId × Con) := []
noncomputable def A26 : List (FuncId × Nat × Ann) := []
theorem S26 : Sat Tryd.prog gls 26 K26 :=
  Sat.congr (runF_ok (E := EC C26) (cd := D26) (n := 8) (an := anL A26) mo (con_ok _) (ConOk.cons S40 <| ConOk.nil _ _) (ConOk.nil _ _) (by rfl)) (fun x => by kernel_rfl)
/-- vmfleet/vmfleetmake.Round -/
noncomputable def G19 (x : (Int) × ((Int) × (Unit))) : Option ((Int) × (Unit)) :=
  if (!isZ .i64 x.2.1) = true then
  cond (ltI .i64 (rem .i64 x.1 x.2.1) (0 : Int))
  (some ((add .i64 (rem .i64 x.1 x.2.1) x.2.1), ()))
  (some ((rem .i64 x.1 x.2.1), ()))
  else none
noncomputable def K19 : Con := ⟨(.cons (.int .i64) (.cons (.int .i64) .nil)), (.cons (.int .i64) .nil), false, G19⟩
noncomputable def C19 : List (FuncId × Con) := []
noncomputable def D19 : List (FuncId × Con) := []
noncomputable def A19 : List (FuncId × Nat × Ann) := []
theorem S19 : Sat Tryd.prog gls 19 K19 :=
  Sat.congr (runF_ok (E := EC C19) (cd := D19) (n := 8) (an := anL A19) mo (con_ok _) (ConOk.nil _ _) (ConOk.nil _ _) (by rfl)) (fun x => by kernel_rfl)
/-- vmfleet/vmfleetmake.Inst -/
noncomputable def G10 (x : (Int) × (Unit)) : Option (((Int) × ((Int) × ((Int) × ((Int) × ((BitVec 32) × (Unit)))))) × (Unit)) :=
  (G25 ()).bind fun r1 =>
  (G26 (x.1, (1 : Int), ())).bind fun r2 =>
  (G19 (r2.1, ((List.length r1.1 : Nat) : Int), ())).bind fun r3 =>
  if (inR .i64 r3.1 (List.length r1.1)) = true then
  (G19 ((shr .i64 r2.1 (cnt .u64 (8#64))), (6 : Int), ())).bind fun r4 =>
  (G19 ((shr .i64 r2.1 (cnt .u64 (12#64))), (6 : Int), ())).bind fun r5 =>
  (G19 ((shr .i64 r2.1 (cnt .u64 (16#64))), (6 : Int), ())).bind fun r6 =>
  (G19 ((shr .i64 r2.1 (cnt .u64 (20#64))), (24 : Int), ())).bind fun r7 =>
  cond (leI .i64 (List.getD r1.1 (cnt .i64 r3.1) (0 : Int)) (13 : Int))
  (some (((List.getD r1.1 (cnt .i64 r3.1) (0 : Int)), (r4.1, (r5.1, (r6.1, ((0#32), ()))))), ()))
  (jn (R := ((Int) × ((Int) × ((Int) × ((Int) × ((BitVec 32) × (Unit)))))) × (Unit)) (Z := (Bool) × (Unit))
   (cond (leI .i64 (40 : Int) (List.getD r1.1 (cnt .i64 r3.1) (0 : Int)))
    (some (Sum.inr ((leI .i64 (List.getD r1.1 (cnt .i64 r3.1) (0 : Int)) (48 : Int)), ())))
    (some (Sum.inr (false, ()))))
   fun z8 =>
   cond z8.1
   (cond (eqI .i64 (List.getD r1.1 (cnt .i64 r3.1) (0 : Int)) (48 : Int))
    (some (((List.getD r1.1 (cnt .i64 r3.1) (0 : Int)), (r4.1, ((0 : Int), ((0 : Int), ((cv .i64 .i32 (sub .i64 r7.1 (12 : Int))), ()))))), ()))
    (some (((List.getD r1.1 (cnt .i64 r3.1) (0 : Int)), (r4.1, (r5.1, ((0 : Int), ((cv .i64 .i32 (sub .i64 r7.1 (12 : Int))), ()))))), ())))
   (jn (R := ((Int) × ((Int) × ((Int) × ((Int) × ((BitVec 32) × (Unit)))))) × (Unit)) (Z := (Bool) × (Unit))
    (cond (eqI .i64 (List.getD r1.1 (cnt .i64 r3.1) (0 : Int)) (16 : Int))
     (some (Sum.inr (true, ())))
     (cond (eqI .i64 (List.getD r1.1 (cnt .i64 r3.1) (0 : Int)) (23 : Int))
      (some (Sum.inr (true, ())))
      (cond (leI .i64 (32 : Int) (List.getD r1.1 (cnt .i64 r3.1) (0 : Int)))
       (cond (leI .i64 (List.getD r1.1 (cnt .i64 r3.1) (0 : Int)) (36 : Int))
        (some (Sum.inr (true, ())))
        (some (Sum.inr ((eqI .i64 (List.getD r1.1 (cnt .i64 r3.1) (0 : Int)) (49 : Int)), ()))))
       (some (Sum.inr ((eqI .i64 (List.getD r1.1 (cnt .i64 r3.1) (0 : Int)) (49 : Int)), ()))))))
    fun z9 =>
    cond z9.1
    (some (((List.getD r1.1 (cnt .i64 r3.1) (0 : Int)), (r4.1, (r5.1, ((0 : Int), ((cv .i64 .i32 (sub .i64 (mul .i64 (8 : Int) r7.1) (32 : Int))), ()))))), ()))
    (cond (eqI .i64 (List.getD r1.1 (cnt .i64 r3.1) (0 : Int)) (24 : Int))
     (some (((List.getD r1.1 (cnt .i64 r3.1) (0 : Int)), (r4.1, ((0 : Int), ((0 : Int), ((cv .i64 .i32 (mul .i64 r7.1 (andI .i64 (shr .i64 r2.1 (cnt .u64 (40#64))) (1 : Int)))), ()))))), ()))
     (jn (R := ((Int) × ((Int) × ((Int) × ((Int) × ((BitVec 32) × (Unit)))))) × (Unit)) (Z := (Bool) × (Unit))
      (cond (leI .i64 (17 : Int) (List.getD r1.1 (cnt .i64 r3.1) (0 : Int)))
       (some (Sum.inr ((leI .i64 (List.getD r1.1 (cnt .i64 r3.1) (0 : Int)) (22 : Int)), ())))
       (some (Sum.inr (false, ()))))
      fun z10 =>
      cond z10.1
      (some (((List.getD r1.1 (cnt .i64 r3.1) (0 : Int)), (r4.1, (r5.1, ((0 : Int), ((cv .i64 .i32 r7.1), ()))))), ()))
      (cond (eqI .i64 (List.getD r1.1 (cnt .i64 r3.1) (0 : Int)) (58 : Int))
       (if (!isZ .i64 (8 : Int)) = true then
        some (((List.getD r1.1 (cnt .i64 r3.1) (0 : Int)), (r4.1, ((0 : Int), ((0 : Int), ((cv .i64 .i32 (rem .i64 r7.1 (8 : Int))), ()))))), ())
        else none)
       (cond (eqI .i64 (List.getD r1.1 (cnt .i64 r3.1) (0 : Int)) (59 : Int))
        (if (!isZ .i64 (8 : Int)) = true then
         some (((List.getD r1.1 (cnt .i64 r3.1) (0 : Int)), (r4.1, ((0 : Int), ((0 : Int), ((cv .i64 .i32 (rem .i64 r7.1 (8 : Int))), ()))))), ())
         else none)
        (cond (eqI .i64 (List.getD r1.1 (cnt .i64 r3.1) (0 : Int)) (60 : Int))
         (if (!isZ .i64 (12 : Int)) = true then
          some (((List.getD r1.1 (cnt .i64 r3.1) (0 : Int)), (r4.1, ((0 : Int), ((0 : Int), ((cv .i64 .i32 (rem .i64 r7.1 (12 : Int))), ()))))), ())
          else none)
         (cond (eqI .i64 (List.getD r1.1 (cnt .i64 r3.1) (0 : Int)) (61 : Int))
          (if (!isZ .i64 (12 : Int)) = true then
           some (((List.getD r1.1 (cnt .i64 r3.1) (0 : Int)), (r4.1, ((0 : Int), ((0 : Int), ((cv .i64 .i32 (rem .i64 r7.1 (12 : Int))), ()))))), ())
           else none)
          (some (((List.getD r1.1 (cnt .i64 r3.1) (0 : Int)), ((0 : Int), ((0 : Int), ((0 : Int), ((0#32), ()))))), ()))))))))))
  else none
noncomputable def K10 : Con := ⟨(.cons (.int .i64) .nil), (.cons (.cons (.int .i64) (.cons (.int .i64) (.cons (.int .i64) (.cons (.int .i64) (.cons (.int .i32) .nil))))) .nil), false, G10⟩
noncomputable def C10 : List (FuncId × Con) := [(19, K19), (25, K25), (26, K26)]
noncomputable def D10 : List (FuncId × Con) := [(19, K19)]
noncomputable def A10 : List (FuncId × Nat × Ann) := [(10, 0, (.nd none .nil (.nd none .nil (.nd none .nil (.nd none .nil (.nd none .nil (.nd none (.nd none (.nd none .nil (.nd none .nil (.nd (some ⟨[(.slot 37, (.dat .bool))], [37, 38, 39, 40, 41, 42, 43, 44, 45], []⟩) .nil (.nd none .nil (.nd (some ⟨[(.slot 55, (.dat .bool))], [55, 56, 57, 58, 59, 60, 61, 62, 63, 64, 65, 66, 67, 68, 69, 70, 71, 72, 73, 74, 75, 76, 77, 78], []⟩) .nil (.nd none .nil (.nd none .nil (.nd none .nil (.nd (some ⟨[(.slot 98, (.dat .bool))], [98, 99, 100, 101, 102, 103, 104, 105, 106], []⟩) .nil .nil))))))))) .nil) .nil)))))))]
theorem S10 : Sat Tryd.prog gls 10 K10 :=
  Sat.congr (runF_ok (E := EC C10) (cd := D10) (n := 8) (an := anL A10) mo (con_ok _) (ConOk.cons S19 <| ConOk.cons S25 <| ConOk.cons S26 <| ConOk.nil _ _) (ConOk.cons S19 <| ConOk.nil _ _) (by rfl)) (fun x => by kernel_rfl)
/-- vmfleet/isa.Name -/
noncomputable def G35 (x : (Int) × (Unit)) : Option ((List (BitVec 8)) × (Unit)) :=
  cond (ltI .i64 x.1 (0 : Int))
  (some (([] : List (BitVec 8)), ()))
  (cond (leI .i64 (65 : Int) x.1)
   (some (([] : List (BitVec 8)), ()))
   (if (inR .i64 x.1 65) = true then
    some ((List.getD gv0 (cnt .i64 x.1) (dflt .str)), ())
    else none))
noncomputable def K35 : Con := ⟨(.cons (.int .i64) .nil), (.cons .str .nil), false, G35⟩
noncomputable def C35 : List (FuncId × Con) := []
noncomputable def D35 : List (FuncId × Con) := []
noncomputable def A35 : List (FuncId × Nat × Ann) := []
theorem S35 : Sat Tryd.prog gls 35 K35 :=
  Sat.congr (runF_ok (E := EC C35) (cd := D35) (n := 8) (an := anL A35) mo (con_ok _) (ConOk.nil _ _) (ConOk.nil _ _) (by rfl)) (fun x => by kernel_rfl)
/-- vmfleet/isa.shapeOf -/
noncomputable def G29 (x : (Int) × (Unit)) : Option (((Bool) × ((Bool) × ((Bool) × ((BitVec 32) × ((BitVec 32) × (Unit)))))) × ((Bool) × (Unit))) :=
  cond (eqI .i64 x.1 (1 : Int))
  (some ((true, (true, (true, ((0#32), ((0#32), ()))))), true, ()))
  (cond (eqI .i64 x.1 (2 : Int))
   (some ((true, (true, (true, ((0#32), ((0#32), ()))))), true, ()))
   (cond (eqI .i64 x.1 (3 : Int))
    (some ((true, (true, (true, ((0#32), ((0#32), ()))))), true, ()))
    (cond (eqI .i64 x.1 (4 : Int))
     (some ((true, (true, (true, ((0#32), ((0#32), ()))))), true, ()))
     (cond (eqI .i64 x.1 (5 : Int))
      (some ((true, (true, (true, ((0#32), ((0#32), ()))))), true, ()))
      (cond (eqI .i64 x.1 (6 : Int))
       (some ((true, (true, (true, ((0#32), ((0#32), ()))))), true, ()))
       (cond (eqI .i64 x.1 (7 : Int))
        (some ((true, (true, (true, ((0#32), ((0#32), ()))))), true, ()))
        (cond (eqI .i64 x.1 (8 : Int))
         (some ((true, (true, (true, ((0#32), ((0#32), ()))))), true, ()))
         (cond (eqI .i64 x.1 (9 : Int))
          (some ((true, (true, (true, ((0#32), ((0#32), ()))))), true, ()))
          (cond (eqI .i64 x.1 (10 : Int))
           (some ((true, (true, (true, ((0#32), ((0#32), ()))))), true, ()))
           (cond (eqI .i64 x.1 (11 : Int))
            (some ((true, (true, (true, ((0#32), ((0#32), ()))))), true, ()))
            (cond (eqI .i64 x.1 (12 : Int))
             (some ((true, (true, (true, ((0#32), ((0#32), ()))))), true, ()))
             (cond (eqI .i64 x.1 (13 : Int))
              (some ((true, (true, (true, ((0#32), ((0#32), ()))))), true, ()))
              (cond (eqI .i64 x.1 (16 : Int))
               (some ((true, (true, (false, ((BitVec.ofInt 32 (-32768)), ((32767#32), ()))))), true, ()))
               (cond (eqI .i64 x.1 (23 : Int))
                (some ((true, (true, (false, ((BitVec.ofInt 32 (-32768)), ((32767#32), ()))))), true, ()))
                (cond (eqI .i64 x.1 (32 : Int))
                 (some ((true, (true, (false, ((BitVec.ofInt 32 (-32768)), ((32767#32), ()))))), true, ()))
                 (cond (eqI .i64 x.1 (33 : Int))
                  (some ((true, (true, (false, ((BitVec.ofInt 32 (-32768)), ((32767#32), ()))))), true, ()))
                  (cond (eqI .i64 x.1 (34 : Int))
                   (some ((true, (true, (false, ((BitVec.ofInt 32 (-32768)), ((32767#32), ()))))), true, ()))
                   (cond (eqI .i64 x.1 (35 : Int))
                    (some ((true, (true, (false, ((BitVec.ofInt 32 (-32768)), ((32767#32), ()))))), true, ()))
                    (cond (eqI .i64 x.1 (36 : Int))
                     (some ((true, (true, (false, ((BitVec.ofInt 32 (-32768)), ((32767#32), ()))))), true, ()))
                     (cond (eqI .i64 x.1 (40 : Int))
                      (some ((true, (true, (false, ((BitVec.ofInt 32 (-32768)), ((32767#32), ()))))), true, ()))
                      (cond (eqI .i64 x.1 (41 : Int))
                       (some ((true, (true, (false, ((BitVec.ofInt 32 (-32768)), ((32767#32), ()))))), true, ()))
                       (cond (eqI .i64 x.1 (42 : Int))
                        (some ((true, (true, (false, ((BitVec.ofInt 32 (-32768)), ((32767#32), ()))))), true, ()))
                        (cond (eqI .i64 x.1 (43 : Int))
                         (some ((true, (true, (false, ((BitVec.ofInt 32 (-32768)), ((32767#32), ()))))), true, ()))
                         (cond (eqI .i64 x.1 (44 : Int))
                          (some ((true, (true, (false, ((BitVec.ofInt 32 (-32768)), ((32767#32), ()))))), true, ()))
                          (cond (eqI .i64 x.1 (45 : Int))
                           (some ((true, (true, (false, ((BitVec.ofInt 32 (-32768)), ((32767#32), ()))))), true, ()))
                           (cond (eqI .i64 x.1 (49 : Int))
                            (some ((true, (true, (false, ((BitVec.ofInt 32 (-32768)), ((32767#32), ()))))), true, ()))
                            (cond (eqI .i64 x.1 (17 : Int))
                             (some ((true, (true, (false, ((0#32), ((65535#32), ()))))), true, ()))
                             (cond (eqI .i64 x.1 (18 : Int))
                              (some ((true, (true, (false, ((0#32), ((65535#32), ()))))), true, ()))
                              (cond (eqI .i64 x.1 (19 : Int))
                               (some ((true, (true, (false, ((0#32), ((65535#32), ()))))), true, ()))
                               (cond (eqI .i64 x.1 (20 : Int))
                                (some ((true, (true, (false, ((0#32), ((31#32), ()))))), true, ()))
                                (cond (eqI .i64 x.1 (21 : Int))
                                 (some ((true, (true, (false, ((0#32), ((31#32), ()))))), true, ()))
                                 (cond (eqI .i64 x.1 (22 : Int))
                                  (some ((true, (true, (false, ((0#32), ((31#32), ()))))), true, ()))
                                  (cond (eqI .i64 x.1 (24 : Int))
                                   (some ((true, (false, (false, ((0#32), ((65535#32), ()))))), true, ()))
                                   (cond (eqI .i64 x.1 (48 : Int))
                                    (some ((true, (false, (false, ((BitVec.ofInt 32 (-32768)), ((32767#32), ()))))), true, ()))
                                    (cond (eqI .i64 x.1 (58 : Int))
                                     (some ((true, (false, (false, ((0#32), ((7#32), ()))))), true, ()))
                                     (cond (eqI .i64 x.1 (59 : Int))
                                      (some ((true, (false, (false, ((0#32), ((7#32), ()))))), true, ()))
                                      (cond (eqI .i64 x.1 (60 : Int))
                                       (some ((true, (false, (false, ((0#32), ((11#32), ()))))), true, ()))
                                       (cond (eqI .i64 x.1 (61 : Int))
                                        (some ((true, (false, (false, ((0#32), ((11#32), ()))))), true, ()))
                                        ((G35 (x.1, ())).bind fun r1 =>
                                         some ((false, (false, (false, ((0#32), ((0#32), ()))))), (!(decide (r1.1 = ([] : List (BitVec 8))))), ()))))))))))))))))))))))))))))))))))))))))
noncomputable def K29 : Con := ⟨(.cons (.int .i64) .nil), (.cons (.cons .bool (.cons .bool (.cons .bool (.cons (.int .i32) (.cons (.int .i32) .nil))))) (.cons .bool .nil)), false, G29⟩
noncomputable def C29 : List (FuncId × Con) := [(35, K35)]
noncomputable def D29 : List (FuncId × Con) := []
noncomputable def A29 : List (FuncId × Nat × Ann) := []
theorem S29 : Sat Tryd.prog gls 29 K29 :=
  Sat.congr (runF_ok (E := EC C29) (cd := D29) (n := 8) (an := anL A29) mo (con_ok _) (ConOk.cons S35 <| ConOk.nil _ _) (ConOk.nil _ _) (by rfl)) (fun x => by kernel_rfl)
/-- vmfleet/isa.register -/
noncomputable def G30 (x : (Int) × ((Bool) × (Unit))) : Option ((Bool) × (Unit)) :=
  cond (eqI .i64 x.1 (0 : Int))
  (some (true, ()))
  (cond x.2.1
   (cond (ltI .i64 (0 : Int) x.1)
    (some ((ltI .i64 x.1 (16 : Int)), ()))
    (some (false, ())))
   (some (false, ())))
noncomputable def K30 : Con := ⟨(.cons (.int .i64) (.cons .bool .nil)), (.cons .bool .nil), false, G30⟩
noncomputable def C30 : List (FuncId × Con) := []
noncomputable def D30 : List (FuncId × Con) := []
noncomputable def A30 : List (FuncId × Nat × Ann) := []
theorem S30 : Sat Tryd.prog gls 30 K30 :=
  Sat.congr (runF_ok (E := EC C30) (cd := D30) (n := 8) (an := anL A30) mo (con_ok _) (ConOk.nil _ _) (ConOk.nil _ _) (by rfl)) (fun x => by kernel_rfl)
/-- vmfleet/isa.Valid -/
noncomputable def G13 (x : ((Int) × ((Int) × ((Int) × ((Int) × ((BitVec 32) × (Unit)))))) × (Unit)) : Option ((Bool) × (Unit)) :=
  (G29 (x.1.1, ())).bind fun r1 =>
  cond r1.2.1
  ((G30 (x.1.2.1, r1.1.1, ())).bind fun r2 =>
   cond r2.1
   ((G30 (x.1.2.2.1, r1.1.2.1, ())).bind fun r3 =>
    cond r3.1
    ((G30 (x.1.2.2.2.1, r1.1.2.2.1, ())).bind fun r4 =>
     cond r4.1
     (cond (leI .i32 r1.1.2.2.2.1 x.1.2.2.2.2.1)
      (some ((leI .i32 x.1.2.2.2.2.1 r1.1.2.2.2.2.1), ()))
      (some (false, ())))
     (some (false, ())))
    (some (false, ())))
   (some (false, ())))
  (some (false, ()))
noncomputable def K13 : Con := ⟨(.cons (.cons (.int .i64) (.cons (.int .i64) (.cons (.int .i64) (.cons (.int .i64) (.cons (.int .i32) .nil))))) .nil), (.cons .bool .nil), false, G13⟩
noncomputable def C13 : List (FuncId × Con) := [(29, K29), (30, K30)]
noncomputable def D13 : List (FuncId × Con) := []
noncomputable def A13 : List (FuncId × Nat × Ann) := []
theorem S13 : Sat Tryd.prog gls 13 K13 :=
  Sat.congr (runF_ok (E := EC C13) (cd := D13) (n := 8) (an := anL A13) mo (con_ok _) (ConOk.cons S29 <| ConOk.cons S30 <| ConOk.nil _ _) (ConOk.nil _ _) (by rfl)) (fun x => by kernel_rfl)
/-- vmfleet/bits.outside -/
noncomputable def G41 (x : (Int) × ((Int) × (Unit))) : Option ((Bool) × (Unit)) :=
  cond (ltI .i64 x.1 (0 : Int))
  (some (true, ()))
  (cond (ltI .i64 (31 : Int) x.1)
   (some (true, ()))
   (some ((ltI .i64 x.2.1 (1 : Int)), ())))
noncomputable def K41 : Con := ⟨(.cons (.int .i64) (.cons (.int .i64) .nil)), (.cons .bool .nil), false, G41⟩
noncomputable def C41 : List (FuncId × Con) := []
noncomputable def D41 : List (FuncId × Con) := []
noncomputable def A41 : List (FuncId × Nat × Ann) := []
theorem S41 : Sat Tryd.prog gls 41 K41 :=
  Sat.congr (runF_ok (E := EC C41) (cd := D41) (n := 8) (an := anL A41) mo (con_ok _) (ConOk.nil _ _) (ConOk.nil _ _) (by rfl)) (fun x => by kernel_rfl)
/-- vmfleet/bits.mask -/
noncomputable def G42 (x : (Int) × (Unit)) : Option ((BitVec 32) × (Unit)) :=
  cond (leI .i64 (32 : Int) x.1)
  (some ((4294967295#32), ()))
  (if (cntOk .i64 x.1) = true then
   some ((sub .u32 (shl .u32 (1#32) (cnt .i64 x.1)) (1#32)), ())
   else none)
noncomputable def K42 : Con := ⟨(.cons (.int .i64) .nil), (.cons (.int .u32) .nil), false, G42⟩
noncomputable def C42 : List (FuncId × Con) := []
noncomputable def D42 : List (FuncId × Con) := []
noncomputable def A42 : List (FuncId × Nat × Ann) := []
theorem S42 : Sat Tryd.prog gls 42 K42 :=
  Sat.congr (runF_ok (E := EC C42) (cd := D42) (n := 8) (an := anL A42) mo (con_ok _) (ConOk.nil _ _) (ConOk.nil _ _) (by rfl)) (fun x => by kernel_rfl)
/-- vmfleet/bits.SetField -/
noncomputable def G27 (x : (BitVec 32) × ((Int) × ((Int) × ((BitVec 32) × (Unit))))) : Option ((BitVec 32) × (Unit)) :=
  (G41 (x.2.1, x.2.2.1, ())).bind fun r1 =>
  cond r1.1
  (some (x.1, ()))
  ((G42 (x.2.2.1, ())).bind fun r2 =>
   if (cntOk .i64 x.2.1) = true then
   if (cntOk .i64 x.2.1) = true then
   let v3 := (orI .u32 (andNot .u32 x.1 (shl .u32 r2.1 (cnt .i64 x.2.1))) (andI .u32 (shl .u32 x.2.2.2.1 (cnt .i64 x.2.1)) (shl .u32 r2.1 (cnt .i64 x.2.1))))
   some (v3, ())
   else none
   else none)
noncomputable def K27 : Con := ⟨(.cons (.int .u32) (.cons (.int .i64) (.cons (.int .i64) (.cons (.int .u32) .nil)))), (.cons (.int .u32) .nil), false, G27⟩
noncomputable def C27 : List (FuncId × Con) := [(41, K41), (42, K42)]
noncomputable def D27 : List (FuncId × Con) := []
noncomputable def A27 : List (FuncId × Nat × Ann) := []
theorem S27 : Sat Tryd.prog gls 27 K27 :=
  Sat.congr (runF_ok (E := EC C27) (cd := D27) (n := 8) (an := anL A27) mo (con_ok _) (ConOk.cons S41 <| ConOk.cons S42 <| ConOk.nil _ _) (ConOk.nil _ _) (by rfl)) (fun x => by kernel_rfl)
/-- vmfleet/isa.Encode -/
noncomputable def G11 (x : ((Int) × ((Int) × ((Int) × ((Int) × ((BitVec 32) × (Unit)))))) × (Unit)) : Option ((BitVec 32) × ((Int) × (Unit))) :=
  (G13 (x.1, ())).bind fun r1 =>
  cond (!r1.1)
  (some ((0#32), (200 : Int), ()))
  ((G27 ((orI .u32 (cv .i64 .u32 x.1.2.2.2.1) (andI .u32 (cv .i32 .u32 x.1.2.2.2.2.1) (65535#32))), (24 : Int), (8 : Int), (cv .i64 .u32 x.1.1), ())).bind fun r2 =>
   (G27 (r2.1, (20 : Int), (4 : Int), (cv .i64 .u32 x.1.2.1), ())).bind fun r3 =>
   (G27 (r3.1, (16 : Int), (4 : Int), (cv .i64 .u32 x.1.2.2.1), ())).bind fun r4 =>
   some (r4.1, (0 : Int), ()))
noncomputable def K11 : Con := ⟨(.cons (.cons (.int .i64) (.cons (.int .i64) (.cons (.int .i64) (.cons (.int .i64) (.cons (.int .i32) .nil))))) .nil), (.cons (.int .u32) (.cons (.int .i64) .nil)), false, G11⟩
noncomputable def C11 : List (FuncId × Con) := [(13, K13), (27, K27)]
noncomputable def D11 : List (FuncId × Con) := []
noncomputable def A11 : List (FuncId × Nat × Ann) := []
theorem S11 : Sat Tryd.prog gls 11 K11 :=
  Sat.congr (runF_ok (E := EC C11) (cd := D11) (n := 8) (an := anL A11) mo (con_ok _) (ConOk.cons S13 <| ConOk.cons S27 <| ConOk.nil _ _) (ConOk.nil _ _) (by rfl)) (fun x => by kernel_rfl)
/-- vmfleet/vmfleetref1.form -/
noncomputable def G33 (x : (Int) × (Unit)) : Option ((Int) × (Unit)) :=
  jn (R := (Int) × (Unit)) (Z := (Bool) × (Unit))
  (cond (leI .i64 (1 : Int) x.1)
   (some (Sum.inr ((leI .i64 x.1 (13 : Int)), ())))
   (some (Sum.inr (false, ()))))
  fun z1 =>
  cond z1.1
  (some ((2 : Int), ()))
  (jn (R := (Int) × (Unit)) (Z := (Bool) × (Unit))
   (cond (eqI .i64 x.1 (16 : Int))
    (some (Sum.inr (true, ())))
    (cond (eqI .i64 x.1 (23 : Int))
     (some (Sum.inr (true, ())))
     (cond (leI .i64 (32 : Int) x.1)
      (cond (leI .i64 x.1 (36 : Int))
       (some (Sum.inr (true, ())))
       (cond (leI .i64 (40 : Int) x.1)
        (cond (leI .i64 x.1 (45 : Int))
         (some (Sum.inr (true, ())))
         (some (Sum.inr ((eqI .i64 x.1 (49 : Int)), ()))))
        (some (Sum.inr ((eqI .i64 x.1 (49 : Int)), ())))))
      (cond (leI .i64 (40 : Int) x.1)
       (cond (leI .i64 x.1 (45 : Int))
        (some (Sum.inr (true, ())))
        (some (Sum.inr ((eqI .i64 x.1 (49 : Int)), ()))))
       (some (Sum.inr ((eqI .i64 x.1 (49 : Int)), ())))))))
   fun z2 =>
   cond z2.1
   (some ((3 : Int), ()))
   (jn (R := (Int) × (Unit)) (Z := (Bool) × (Unit))
    (cond (leI .i64 (17 : Int) x.1)
     (some (Sum.inr ((leI .i64 x.1 (19 : Int)), ())))
     (some (Sum.inr (false, ()))))
    fun z3 =>
    cond z3.1
    (some ((4 : Int), ()))
    (jn (R := (Int) × (Unit)) (Z := (Bool) × (Unit))
     (cond (leI .i64 (20 : Int) x.1)
      (some (Sum.inr ((leI .i64 x.1 (22 : Int)), ())))
      (some (Sum.inr (false, ()))))
     fun z4 =>
     cond z4.1
     (some ((5 : Int), ()))
     (cond (eqI .i64 x.1 (24 : Int))
      (some ((6 : Int), ()))
      (cond (eqI .i64 x.1 (48 : Int))
       (some ((7 : Int), ()))
       (cond (eqI .i64 x.1 (58 : Int))
        (some ((8 : Int), ()))
        (cond (eqI .i64 x.1 (59 : Int))
         (some ((8 : Int), ()))
         (cond (eqI .i64 x.1 (60 : Int))
          (some ((9 : Int), ()))
          (cond (eqI .i64 x.1 (61 : Int))
           (some ((9 : Int), ()))
           (cond (eqI .i64 x.1 (56 : Int))
            (some ((1 : Int), ()))
            (cond (eqI .i64 x.1 (57 : Int))
             (some ((1 : Int), ()))
             (cond (leI .i64 (62 : Int) x.1)
              (cond (leI .i64 x.1 (64 : Int))
               (some ((1 : Int), ()))
               (some ((0 : Int), ())))
              (some ((0 : Int), ()))))))))))))))
noncomputable def K33 : Con := ⟨(.cons (.int .i64) .nil), (.cons (.int .i64) .nil), false, G33⟩
noncomputable def C33 : List (FuncId × Con) := []
noncomputable def D33 : List (FuncId × Con) := []
noncomputable def A33 : List (FuncId × Nat × Ann) := [(33, 0, (.nd none .nil (.nd none (.nd none (.nd (some ⟨[(.slot 3, (.dat .bool))], [3, 4, 5, 6, 7, 8, 9], []⟩) .nil (.nd none .nil (.nd (some ⟨[(.slot 10, (.dat .bool))], [10, 11, 12, 13, 14, 15, 16, 17, 18, 19, 20, 21, 22, 23, 24, 25, 26, 27, 28, 29, 30, 31, 32, 33, 34, 35, 36], []⟩) .nil (.nd none .nil (.nd (some ⟨[(.slot 37, (.dat .bool))], [37, 38, 39, 40, 41, 42, 43], []⟩) .nil (.nd none .nil (.nd (some ⟨[(.slot 44, (.dat .bool))], [44, 45, 46, 47, 48, 49, 50], []⟩) .nil .nil))))))) .nil) .nil)))]
theorem S33 : Sat Tryd.prog gls 33 K33 :=
  Sat.congr (runF_ok (E := EC C33) (cd := D33) (n := 8) (an := anL A33) mo (con_ok _) (ConOk.nil _ _) (ConOk.nil _ _) (by rfl)) (fun x => by kernel_rfl)
/-- vmfleet/vmfleetref1.register -/
noncomputable def G43 (x : (Int) × (Unit)) : Option ((Bool) × (Unit)) :=
  cond (leI .i64 (0 : Int) x.1)
  (some ((leI .i64 x.1 (15 : Int)), ()))
  (some (false, ()))
noncomputable def K43 : Con := ⟨(.cons (.int .i64) .nil), (.cons .bool .nil), false, G43⟩
noncomputable def C43 : List (FuncId × Con) := []
noncomputable def D43 : List (FuncId × Con) := []
noncomputable def A43 : List (FuncId × Nat × Ann) := []
theorem S43 : Sat Tryd.prog gls 43 K43 :=
  Sat.congr (runF_ok (E := EC C43) (cd := D43) (n := 8) (an := anL A43) mo (con_ok _) (ConOk.nil _ _) (ConOk.nil _ _) (by rfl)) (fun x => by kernel_rfl)
/-- vmfleet/vmfleetref1.bounds -/
noncomputable def G44 (x : (Int) × (Unit)) : Option ((Int) × ((Int) × (Unit))) :=
  cond (eqI .i64 x.1 (3 : Int))
  (some ((-32768 : Int), (32767 : Int), ()))
  (cond (eqI .i64 x.1 (7 : Int))
   (some ((-32768 : Int), (32767 : Int), ()))
   (cond (eqI .i64 x.1 (4 : Int))
    (some ((0 : Int), (65535 : Int), ()))
    (cond (eqI .i64 x.1 (6 : Int))
     (some ((0 : Int), (65535 : Int), ()))
     (cond (eqI .i64 x.1 (5 : Int))
      (some ((0 : Int), (31 : Int), ()))
      (cond (eqI .i64 x.1 (8 : Int))
       (some ((0 : Int), (7 : Int), ()))
       (cond (eqI .i64 x.1 (9 : Int))
        (some ((0 : Int), (11 : Int), ()))
        (some ((0 : Int), (0 : Int), ()))))))))
noncomputable def K44 : Con := ⟨(.cons (.int .i64) .nil), (.cons (.int .i64) (.cons (.int .i64) .nil)), false, G44⟩
noncomputable def C44 : List (FuncId × Con) := []
noncomputable def D44 : List (FuncId × Con) := []
noncomputable def A44 : List (FuncId × Nat × Ann) := []
theorem S44 : Sat Tryd.prog gls 44 K44 :=
  Sat.congr (runF_ok (E := EC C44) (cd := D44) (n := 8) (an := anL A44) mo (con_ok _) (ConOk.nil _ _) (ConOk.nil _ _) (by rfl)) (fun x => by kernel_rfl)
/-- vmfleet/vmfleetref1.Valid -/
noncomputable def G28 (x : ((Int) × ((Int) × ((Int) × ((Int) × ((BitVec 32) × (Unit)))))) × (Unit)) : Option ((Bool) × (Unit)) :=
  (G33 (x.1.1, ())).bind fun r1 =>
  cond (eqI .i64 r1.1 (0 : Int))
  (some (false, ()))
  ((G43 (x.1.2.1, ())).bind fun r2 =>
   cond (!r2.1)
   (some (false, ()))
   ((G43 (x.1.2.2.1, ())).bind fun r3 =>
    cond (!r3.1)
    (some (false, ()))
    ((G43 (x.1.2.2.2.1, ())).bind fun r4 =>
     cond (!r4.1)
     (some (false, ()))
     ((G44 (r1.1, ())).bind fun r5 =>
      jn (R := (Bool) × (Unit)) (Z := Unit)
      (cond (ltI .i64 (cv .i32 .i64 x.1.2.2.2.2.1) r5.1)
       (some (Sum.inl (false, ())))
       (cond (ltI .i64 r5.2.1 (cv .i32 .i64 x.1.2.2.2.2.1))
        (some (Sum.inl (false, ())))
        (cond (!eqI .i64 r1.1 (2 : Int))
         (cond (!eqI .i64 x.1.2.2.2.1 (0 : Int))
          (some (Sum.inl (false, ())))
          (cond (eqI .i64 r1.1 (1 : Int))
           (cond (!eqI .i64 x.1.2.1 (0 : Int))
            (some (Sum.inl (false, ())))
            (some (Sum.inr ())))
           (some (Sum.inr ()))))
         (cond (eqI .i64 r1.1 (1 : Int))
          (cond (!eqI .i64 x.1.2.1 (0 : Int))
           (some (Sum.inl (false, ())))
           (some (Sum.inr ())))
          (some (Sum.inr ()))))))
      fun z6 =>
      cond (eqI .i64 x.1.2.2.1 (0 : Int))
      (some (true, ()))
      (cond (leI .i64 (2 : Int) r1.1)
       (some ((leI .i64 r1.1 (5 : Int)), ()))
       (some (false, ())))))))
noncomputable def K28 : Con := ⟨(.cons (.cons (.int .i64) (.cons (.int .i64) (.cons (.int .i64) (.cons (.int .i64) (.cons (.int .i32) .nil))))) .nil), (.cons .bool .nil), false, G28⟩
noncomputable def C28 : List (FuncId × Con) := [(33, K33), (43, K43), (44, K44)]
noncomputable def D28 : List (FuncId × Con) := []
noncomputable def A28 : List (FuncId × Nat × Ann) := [(28, 0, (.nd none .nil (.nd none .nil (.nd none .nil (.nd none .nil (.nd (some ⟨[], [34, 35, 36, 37, 38, 39, 40, 41, 42, 43, 44, 45, 46, 47, 48, 49, 50, 51, 52, 53, 54, 55, 56, 57, 58, 59, 60, 61, 62, 63], []⟩) .nil .nil))))))]
theorem S28 : Sat Tryd.prog gls 28 K28 :=
  Sat.congr (runF_ok (E := EC C28) (cd := D28) (n := 8) (an := anL A28) mo (con_ok _) (ConOk.cons S33 <| ConOk.cons S43 <| ConOk.cons S44 <| ConOk.nil _ _) (ConOk.nil _ _) (by rfl)) (fun x => by kernel_rfl)
/-- vmfleet/vmfleetref1.Encode -/
noncomputable def G12 (x : ((Int) × ((Int) × ((Int) × ((Int) × ((BitVec 32) × (Unit)))))) × (Unit)) : Option ((BitVec 32) × ((Bool) × (Unit))) :=
  (G28 (x.1, ())).bind fun r1 =>
  cond (!r1.1)
  (some ((0#32), false, ()))
  (let v2 := (orI .u32 (shl .u32 (cv .i64 .u32 x.1.1) (cnt .u64 (24#64))) (shl .u32 (cv .i64 .u32 x.1.2.1) (cnt .u64 (20#64))))
   let v3 := (orI .u32 (orI .u32 v2 (shl .u32 (cv .i64 .u32 x.1.2.2.1) (cnt .u64 (16#64)))) (andI .u32 (cv .i32 .u32 x.1.2.2.2.2.1) (65535#32)))
   some ((orI .u32 v3 (cv .i64 .u32 x.1.2.2.2.1)), true, ()))
noncomputable def K12 : Con := ⟨(.cons (.cons (.int .i64) (.cons (.int .i64) (.cons (.int .i64) (.cons (.int .i64) (.cons (.int .i32) .nil))))) .nil), (.cons (.int .u32) (.cons .bool .nil)), false, G12⟩
noncomputable def C12 : List (FuncId × Con) := [(28, K28)]
noncomputable def D12 : List (FuncId × Con) := []
noncomputable def A12 : List (FuncId × Nat × Ann) := []
theorem S12 : Sat Tryd.prog gls 12 K12 :=
  Sat.congr (runF_ok (E := EC C12) (cd := D12) (n := 8) (an := anL A12) mo (con_ok _) (ConOk.cons S28 <| ConOk.nil _ _) (ConOk.nil _ _) (by rfl)) (fun x => by kernel_rfl)
/-- vmfleet/bits.Field -/
noncomputable def G31 (x : (BitVec 32) × ((Int) × ((Int) × (Unit)))) : Option ((BitVec 32) × (Unit)) :=
  (G41 (x.2.1, x.2.2.1, ())).bind fun r1 =>
  cond r1.1
  (some ((0#32), ()))
  (if (cntOk .i64 x.2.1) = true then
   (G42 (x.2.2.1, ())).bind fun r2 =>
   some ((andI .u32 (shr .u32 x.1 (cnt .i64 x.2.1)) r2.1), ())
   else none)
noncomputable def K31 : Con := ⟨(.cons (.int .u32) (.cons (.int .i64) (.cons (.int .i64) .nil))), (.cons (.int .u32) .nil), false, G31⟩
noncomputable def C31 : List (FuncId × Con) := [(41, K41)]
noncomputable def D31 : List (FuncId × Con) := [(42, K42)]
noncomputable def A31 : List (FuncId × Nat × Ann) := []
theorem S31 : Sat Tryd.prog gls 31 K31 :=
  Sat.congr (runF_ok (E := EC C31) (cd := D31) (n := 8) (an := anL A31) mo (con_ok _) (ConOk.cons S41 <| ConOk.nil _ _) (ConOk.cons S42 <| ConOk.nil _ _) (by rfl)) (fun x => by kernel_rfl)
/-- vmfleet/bits.SignExtend -/
noncomputable def G32 (x : (BitVec 32) × ((Int) × (Unit))) : Option ((BitVec 32) × (Unit)) :=
  cond (ltI .i64 x.2.1 (1 : Int))
  (some ((0#32), ()))
  (cond (leI .i64 (32 : Int) x.2.1)
   (some (x.1, ()))
   (if (cntOk .i64 (sub .i64 (32 : Int) x.2.1)) = true then
    if (cntOk .i64 (sub .i64 (32 : Int) x.2.1)) = true then
    let v1 := (shr .i32 (cv .u32 .i32 (shl .u32 x.1 (cnt .i64 (sub .i64 (32 : Int) x.2.1)))) (cnt .i64 (sub .i64 (32 : Int) x.2.1)))
    some ((cv .i32 .u32 v1), ())
    else none
    else none))
noncomputable def K32 : Con := ⟨(.cons (.int .u32) (.cons (.int .i64) .nil)), (.cons (.int .u32) .nil), false, G32⟩
noncomputable def C32 : List (FuncId × Con) := []
noncomputable def D32 : List (FuncId × Con) := []
noncomputable def A32 : List (FuncId × Nat × Ann) := []
theorem S32 : Sat Tryd.prog gls 32 K32 :=
  Sat.congr (runF_ok (E := EC C32) (cd := D32) (n := 8) (an := anL A32) mo (con_ok _) (ConOk.nil _ _) (ConOk.nil _ _) (by rfl)) (fun x => by kernel_rfl)
/-- vmfleet/isa.Decode -/
noncomputable def G15 (x : (BitVec 32) × (Unit)) : Option (((Int) × ((Int) × ((Int) × ((Int) × ((BitVec 32) × (Unit)))))) × ((Bool) × (Unit))) :=
  (G31 (x.1, (24 : Int), (8 : Int), ())).bind fun r1 =>
  (G31 (x.1, (20 : Int), (4 : Int), ())).bind fun r2 =>
  (G31 (x.1, (16 : Int), (4 : Int), ())).bind fun r3 =>
  (G29 ((cv .u32 .i64 r1.1), ())).bind fun r4 =>
  (G31 (x.1, (0 : Int), (16 : Int), ())).bind fun r5 =>
  cond (!r4.2.1)
  (some (((0 : Int), ((0 : Int), ((0 : Int), ((0 : Int), ((0#32), ()))))), false, ()))
  (cond r4.1.2.2.1
   ((G13 (((cv .u32 .i64 r1.1), ((cv .u32 .i64 r2.1), ((cv .u32 .i64 r3.1), ((cv .u32 .i64 r5.1), ((0#32), ()))))), ())).bind fun r6 =>
    cond (!r6.1)
    (some (((0 : Int), ((0 : Int), ((0 : Int), ((0 : Int), ((0#32), ()))))), false, ()))
    (some (((cv .u32 .i64 r1.1), ((cv .u32 .i64 r2.1), ((cv .u32 .i64 r3.1), ((cv .u32 .i64 r5.1), ((0#32), ()))))), true, ())))
   (cond (ltI .i32 r4.1.2.2.2.1 (0#32))
    ((G32 (r5.1, (16 : Int), ())).bind fun r7 =>
     (G13 (((cv .u32 .i64 r1.1), ((cv .u32 .i64 r2.1), ((cv .u32 .i64 r3.1), ((0 : Int), ((cv .u32 .i32 r7.1), ()))))), ())).bind fun r8 =>
     cond (!r8.1)
     (some (((0 : Int), ((0 : Int), ((0 : Int), ((0 : Int), ((0#32), ()))))), false, ()))
     (some (((cv .u32 .i64 r1.1), ((cv .u32 .i64 r2.1), ((cv .u32 .i64 r3.1), ((0 : Int), ((cv .u32 .i32 r7.1), ()))))), true, ())))
    ((G13 (((cv .u32 .i64 r1.1), ((cv .u32 .i64 r2.1), ((cv .u32 .i64 r3.1), ((0 : Int), ((cv .u32 .i32 r5.1), ()))))), ())).bind fun r9 =>
     cond (!r9.1)
     (some (((0 : Int), ((0 : Int), ((0 : Int), ((0 : Int), ((0#32), ()))))), false, ()))
     (some (((cv .u32 .i64 r1.1), ((cv .u32 .i64 r2.1), ((cv .u32 .i64 r3.1), ((0 : Int), ((cv .u32 .i32 r5.1), ()))))), true, ())))))
noncomputable def K15 : Con := ⟨(.cons (.int .u32) .nil), (.cons (.cons (.int .i64) (.cons (.int .i64) (.cons (.int .i64) (.cons (.int .i64) (.cons (.int .i32) .nil))))) (.cons .bool .nil)), false, G15⟩
noncomputable def C15 : List (FuncId × Con) := [(13, K13), (29, K29), (31, K31), (32, K32)]
noncomputable def D15 : List (FuncId × Con) := []
noncomputable def A15 : List (FuncId × Nat × Ann) := []
theorem S15 : Sat Tryd.prog gls 15 K15 :=
  Sat.congr (runF_ok (E := EC C15) (cd := D15) (n := 8) (an := anL A15) mo (con_ok _) (ConOk.cons S13 <| ConOk.cons S29 <| ConOk.cons S31 <| ConOk.cons S32 <| ConOk.nil _ _) (ConOk.nil _ _) (by rfl)) (fun x => by kernel_rfl)
/-- strconv.Itoa, by the shelf's contract. -/
noncomputable def G34 (x : (Int) × (Unit)) : Option ((List (BitVec 8)) × (Unit)) :=
  if (decide (-9223372036854775808 ≤ x.1) && decide (x.1 ≤ 9223372036854775807)) = true then some (lstr ⟨(Lib.itoa x.1).toArray⟩, ()) else none
noncomputable def K34 : Con := ⟨(.cons (.int .i64) .nil), (.cons .str .nil), false, G34⟩
theorem S34 : Sat Tryd.prog gls 34 K34 := by
  intro w ok x vs r _ hgl hargs hF
  obtain ⟨v, rr, rfl, h1, h2⟩ := hargs
  have h2 : rr = [] := h2
  subst h2
  have h1 : VRep w ok (.int .i64) x.1 v := h1
  have h1 := VRep_int h1
  subst h1
  have hF : G34 x = some r := hF
  unfold G34 at hF
  split at hF
  · rename_i hb
    rw [Bool.and_eq_true, decide_eq_true_eq, decide_eq_true_eq] at hb
    cases hF
    have htab : Lib.TabIs Tryd.prog w "internal/strconv.uint64pow10" .u64 Lib.pow10Tab := tab_of_gl (n := 20) (l := gv1) (g := 1) hgl (by simp [gls]) (by kernel_rfl) (by kernel_rfl)
    have h := Tryd.strconv_Itoa x.1 hb.1 hb.2 w htab
    have hfc : Tryd.f34.body = some Tryd.f34.body.get! := by kernel_rfl
    refine ⟨run_enter Tryd.func34 (by kernel_rfl) hfc _ w, h.mono fun e w' he => ?_⟩
    obtain ⟨rfl, k, os, rfl⟩ := he
    refine ⟨by simp, fun b hb => ?_, rfl, rfl, rfl, ?_⟩
    · show (w.heap ++ os)[b]? = _
      rw [Array.getElem?_append_left hb]
    · exact (show [_] = [Value.string (bstr (lstr ⟨(Lib.itoa x.1).toArray⟩))] by rw [bstr_lstr])
  · cases hF

/-- vmfleet/isa.reg -/
noncomputable def G36 (x : (Int) × (Unit)) : Option ((List (BitVec 8)) × (Unit)) :=
  (G34 (x.1, ())).bind fun r1 =>
  if (room (List.length [114#8] + List.length r1.1)) = true then
  some (([114#8] ++ r1.1), ())
  else none
noncomputable def K36 : Con := ⟨(.cons (.int .i64) .nil), (.cons .str .nil), false, G36⟩
noncomputable def C36 : List (FuncId × Con) := [(34, K34)]
noncomputable def D36 : List (FuncId × Con) := []
noncomputable def A36 : List (FuncId × Nat × Ann) := []
theorem S36 : Sat Tryd.prog gls 36 K36 :=
  Sat.congr (runF_ok (E := EC C36) (cd := D36) (n := 8) (an := anL A36) mo (con_ok _) (ConOk.cons S34 <| ConOk.nil _ _) (ConOk.nil _ _) (by rfl)) (fun x => by kernel_rfl)
/-- vmfleet/isa.Format -/
noncomputable def G17 (x : ((Int) × ((Int) × ((Int) × ((Int) × ((BitVec 32) × (Unit)))))) × (Unit)) : Option ((List (BitVec 8)) × (Unit)) :=
  (G13 (x.1, ())).bind fun r1 =>
  cond (!r1.1)
  (some (([] : List (BitVec 8)), ()))
  ((G29 (x.1.1, ())).bind fun r2 =>
   (G34 ((cv .i32 .i64 x.1.2.2.2.2.1), ())).bind fun r3 =>
   (G35 (x.1.1, ())).bind fun r4 =>
   cond r2.1.2.2.1
   (if (room (List.length r4.1 + List.length [32#8])) = true then
    (G36 (x.1.2.1, ())).bind fun r5 =>
    if (room (List.length (r4.1 ++ [32#8]) + List.length r5.1)) = true then
    if (room (List.length ((r4.1 ++ [32#8]) ++ r5.1) + List.length [44#8, 32#8])) = true then
    (G36 (x.1.2.2.1, ())).bind fun r6 =>
    if (room (List.length (((r4.1 ++ [32#8]) ++ r5.1) ++ [44#8, 32#8]) + List.length r6.1)) = true then
    if (room (List.length ((((r4.1 ++ [32#8]) ++ r5.1) ++ [44#8, 32#8]) ++ r6.1) + List.length [44#8, 32#8])) = true then
    (G36 (x.1.2.2.2.1, ())).bind fun r7 =>
    if (room (List.length (((((r4.1 ++ [32#8]) ++ r5.1) ++ [44#8, 32#8]) ++ r6.1) ++ [44#8, 32#8]) + List.length r7.1)) = true then
    some (((((((r4.1 ++ [32#8]) ++ r5.1) ++ [44#8, 32#8]) ++ r6.1) ++ [44#8, 32#8]) ++ r7.1), ())
    else none
    else none
    else none
    else none
    else none
    else none)
   (jn (R := (List (BitVec 8)) × (Unit)) (Z := (Bool) × (Unit))
    (cond (leI .i64 (32 : Int) x.1.1)
     (some (Sum.inr ((leI .i64 x.1.1 (36 : Int)), ())))
     (some (Sum.inr (false, ()))))
    fun z8 =>
    cond z8.1
    (if (room (List.length r4.1 + List.length [32#8])) = true then
     (G36 (x.1.2.1, ())).bind fun r9 =>
     if (room (List.length (r4.1 ++ [32#8]) + List.length r9.1)) = true then
     if (room (List.length ((r4.1 ++ [32#8]) ++ r9.1) + List.length [44#8, 32#8])) = true then
     if (room (List.length (((r4.1 ++ [32#8]) ++ r9.1) ++ [44#8, 32#8]) + List.length r3.1)) = true then
     if (room (List.length ((((r4.1 ++ [32#8]) ++ r9.1) ++ [44#8, 32#8]) ++ r3.1) + List.length [40#8])) = true then
     (G36 (x.1.2.2.1, ())).bind fun r10 =>
     if (room (List.length (((((r4.1 ++ [32#8]) ++ r9.1) ++ [44#8, 32#8]) ++ r3.1) ++ [40#8]) + List.length r10.1)) = true then
     if (room (List.length ((((((r4.1 ++ [32#8]) ++ r9.1) ++ [44#8, 32#8]) ++ r3.1) ++ [40#8]) ++ r10.1) + List.length [41#8])) = true then
     some ((((((((r4.1 ++ [32#8]) ++ r9.1) ++ [44#8, 32#8]) ++ r3.1) ++ [40#8]) ++ r10.1) ++ [41#8]), ())
     else none
     else none
     else none
     else none
     else none
     else none
     else none)
    (cond r2.1.2.1
     (if (room (List.length r4.1 + List.length [32#8])) = true then
      (G36 (x.1.2.1, ())).bind fun r11 =>
      if (room (List.length (r4.1 ++ [32#8]) + List.length r11.1)) = true then
      if (room (List.length ((r4.1 ++ [32#8]) ++ r11.1) + List.length [44#8, 32#8])) = true then
      (G36 (x.1.2.2.1, ())).bind fun r12 =>
      if (room (List.length (((r4.1 ++ [32#8]) ++ r11.1) ++ [44#8, 32#8]) + List.length r12.1)) = true then
      if (room (List.length ((((r4.1 ++ [32#8]) ++ r11.1) ++ [44#8, 32#8]) ++ r12.1) + List.length [44#8, 32#8])) = true then
      if (room (List.length (((((r4.1 ++ [32#8]) ++ r11.1) ++ [44#8, 32#8]) ++ r12.1) ++ [44#8, 32#8]) + List.length r3.1)) = true then
      some (((((((r4.1 ++ [32#8]) ++ r11.1) ++ [44#8, 32#8]) ++ r12.1) ++ [44#8, 32#8]) ++ r3.1), ())
      else none
      else none
      else none
      else none
      else none
      else none)
     (cond r2.1.1
      (if (room (List.length r4.1 + List.length [32#8])) = true then
       (G36 (x.1.2.1, ())).bind fun r13 =>
       if (room (List.length (r4.1 ++ [32#8]) + List.length r13.1)) = true then
       if (room (List.length ((r4.1 ++ [32#8]) ++ r13.1) + List.length [44#8, 32#8])) = true then
       if (room (List.length (((r4.1 ++ [32#8]) ++ r13.1) ++ [44#8, 32#8]) + List.length r3.1)) = true then
       some (((((r4.1 ++ [32#8]) ++ r13.1) ++ [44#8, 32#8]) ++ r3.1), ())
       else none
       else none
       else none
       else none)
      (some (r4.1, ()))))))
noncomputable def K17 : Con := ⟨(.cons (.cons (.int .i64) (.cons (.int .i64) (.cons (.int .i64) (.cons (.int .i64) (.cons (.int .i32) .nil))))) .nil), (.cons .str .nil), false, G17⟩
noncomputable def C17 : List (FuncId × Con) := [(13, K13), (29, K29), (34, K34), (35, K35), (36, K36)]
noncomputable def D17 : List (FuncId × Con) := [(36, K36)]
noncomputable def A17 : List (FuncId × Nat × Ann) := [(17, 0, (.nd none .nil (.nd none .nil (.nd none .nil (.nd none .nil (.nd none .nil (.nd none (.nd none (.nd none .nil (.nd none .nil (.nd (some ⟨[(.slot 42, (.dat .bool))], [42, 43, 44, 45, 46, 47, 48, 49, 50], []⟩) .nil .nil))) .nil) .nil)))))))]
theorem S17 : Sat Tryd.prog gls 17 K17 :=
  Sat.congr (runF_ok (E := EC C17) (cd := D17) (n := 8) (an := anL A17) mo (con_ok _) (ConOk.cons S13 <| ConOk.cons S29 <| ConOk.cons S34 <| ConOk.cons S35 <| ConOk.cons S36 <| ConOk.nil _ _) (ConOk.cons S36 <| ConOk.nil _ _) (by rfl)) (fun x => by kernel_rfl)
/-- vmfleet/vmfleetlaw2.awake -/
noncomputable def G14 (x : Unit) : Option ((Bool) × (Unit)) :=
  (G11 (((16 : Int), ((1 : Int), ((2 : Int), ((0 : Int), ((BitVec.ofInt 32 (-1)), ()))))), ())).bind fun r1 =>
  (G15 ((0#32), ())).bind fun r2 =>
  cond (eqI .i64 r1.2.1 (0 : Int))
  (cond (eqI .u32 r1.1 (269680639#32))
   (cond (!r2.2.1)
    ((G17 (((32 : Int), ((3 : Int), ((4 : Int), ((0 : Int), ((BitVec.ofInt 32 (-8)), ()))))), ())).bind fun r3 =>
     some ((decide (r3.1 = [108#8, 119#8, 32#8, 114#8, 51#8, 44#8, 32#8, 45#8, 56#8, 40#8, 114#8, 52#8, 41#8])), ()))
    (some (false, ())))
   (some (false, ())))
  (some (false, ()))
noncomputable def K14 : Con := ⟨.nil, (.cons .bool .nil), false, G14⟩
noncomputable def C14 : List (FuncId × Con) := [(11, K11), (15, K15), (17, K17)]
noncomputable def D14 : List (FuncId × Con) := []
noncomputable def A14 : List (FuncId × Nat × Ann) := []
theorem S14 : Sat Tryd.prog gls 14 K14 :=
  Sat.congr (runF_ok (E := EC C14) (cd := D14) (n := 8) (an := anL A14) mo (con_ok _) (ConOk.cons S11 <| ConOk.cons S15 <| ConOk.cons S17 <| ConOk.nil _ _) (ConOk.nil _ _) (by rfl)) (fun x => by kernel_rfl)
/-- vmfleet/vmfleetlaw2.IsaEncodes -/
noncomputable def G3 (x : ((Int) × ((Int) × ((Int) × ((Int) × ((BitVec 32) × (Unit)))))) × ((Int) × ((Bool) × (Unit)))) : Option ((Bool) × (Unit)) :=
  jn (R := (Bool) × (Unit)) (Z := ((Int) × ((Int) × ((Int) × ((Int) × ((BitVec 32) × (Unit)))))) × (Unit))
  (cond x.2.2.1
   ((G10 (x.2.1, ())).bind fun r2 =>
    some (Sum.inr (r2.1, ())))
   (some (Sum.inr (x.1, ()))))
  fun z1 =>
  (G11 (z1.1, ())).bind fun r3 =>
  (G12 (z1.1, ())).bind fun r4 =>
  jn (R := (Bool) × (Unit)) (Z := Unit)
  ((G13 (z1.1, ())).bind fun r6 =>
   cond (!(r6.1 == r4.2.1))
   (some (Sum.inl (false, ())))
   (cond (!eqI .u32 r3.1 r4.1)
    (some (Sum.inl (false, ())))
    (cond (!((eqI .i64 r3.2.1 (0 : Int)) == r4.2.1))
     (some (Sum.inl (false, ())))
     (cond (!r4.2.1)
      (cond (!eqI .i64 r3.2.1 (200 : Int))
       (some (Sum.inl (false, ())))
       (some (Sum.inr ())))
      (some (Sum.inr ()))))))
  fun z5 =>
  cond (!r4.2.1)
  ((G14 ()).bind fun r7 =>
   some (r7.1, ()))
  ((G15 (r3.1, ())).bind fun r8 =>
   cond r8.2.1
   (let v9 := (eqD (.cons (.int .i64) (.cons (.int .i64) (.cons (.int .i64) (.cons (.int .i64) (.cons (.int .i32) .nil))))) r8.1 z1.1)
    cond v9
    ((G14 ()).bind fun r10 =>
     some (r10.1, ()))
    (some (false, ())))
   (some (false, ())))
noncomputable def K3 : Con := ⟨(.cons (.cons (.int .i64) (.cons (.int .i64) (.cons (.int .i64) (.cons (.int .i64) (.cons (.int .i32) .nil))))) (.cons (.int .i64) (.cons .bool .nil))), (.cons .bool .nil), false, G3⟩
noncomputable def C3 : List (FuncId × Con) := [(10, K10), (11, K11), (12, K12), (13, K13), (14, K14), (15, K15)]
noncomputable def D3 : List (FuncId × Con) := []
noncomputable def A3 : List (FuncId × Nat × Ann) := [(3, 0, (.nd none .nil (.nd (some ⟨[(.box 0, (.dat (.cons (.int .i64) (.cons (.int .i64) (.cons (.int .i64) (.cons (.int .i64) (.cons (.int .i32) .nil)))))))], [13, 14, 15], []⟩) .nil (.nd none .nil (.nd none .nil (.nd (some ⟨[], [26, 27, 28, 29, 30, 31, 32, 33, 34, 35, 36, 37, 38, 39, 40, 41, 42, 43, 44, 45, 46, 47, 48], []⟩) .nil .nil))))))]
theorem S3 : Sat Tryd.prog gls 3 K3 :=
  Sat.congr (runF_ok (E := EC C3) (cd := D3) (n := 8) (an := anL A3) mo (con_ok _) (ConOk.cons S10 <| ConOk.cons S11 <| ConOk.cons S12 <| ConOk.cons S13 <| ConOk.cons S14 <| ConOk.cons S15 <| ConOk.nil _ _) (ConOk.nil _ _) (by rfl)) (fun x => by kernel_rfl)
/-- vmfleet/vmfleetref1.Decode -/
noncomputable def G16 (x : (BitVec 32) × (Unit)) : Option (((Int) × ((Int) × ((Int) × ((Int) × ((BitVec 32) × (Unit)))))) × ((Bool) × (Unit))) :=
  (G33 ((cv .u32 .i64 (shr .u32 x.1 (cnt .u64 (24#64)))), ())).bind fun r1 =>
  cond (eqI .i64 r1.1 (0 : Int))
  (some (((0 : Int), ((0 : Int), ((0 : Int), ((0 : Int), ((0#32), ()))))), false, ()))
  (cond (eqI .i64 r1.1 (2 : Int))
   ((G28 (((cv .u32 .i64 (shr .u32 x.1 (cnt .u64 (24#64)))), ((cv .u32 .i64 (andI .u32 (shr .u32 x.1 (cnt .u64 (20#64))) (15#32))), ((cv .u32 .i64 (andI .u32 (shr .u32 x.1 (cnt .u64 (16#64))) (15#32))), ((cv .u32 .i64 (andI .u32 x.1 (65535#32))), ((0#32), ()))))), ())).bind fun r2 =>
    cond (!r2.1)
    (some (((0 : Int), ((0 : Int), ((0 : Int), ((0 : Int), ((0#32), ()))))), false, ()))
    (some (((cv .u32 .i64 (shr .u32 x.1 (cnt .u64 (24#64)))), ((cv .u32 .i64 (andI .u32 (shr .u32 x.1 (cnt .u64 (20#64))) (15#32))), ((cv .u32 .i64 (andI .u32 (shr .u32 x.1 (cnt .u64 (16#64))) (15#32))), ((cv .u32 .i64 (andI .u32 x.1 (65535#32))), ((0#32), ()))))), true, ())))
   (cond (eqI .i64 r1.1 (3 : Int))
    ((G28 (((cv .u32 .i64 (shr .u32 x.1 (cnt .u64 (24#64)))), ((cv .u32 .i64 (andI .u32 (shr .u32 x.1 (cnt .u64 (20#64))) (15#32))), ((cv .u32 .i64 (andI .u32 (shr .u32 x.1 (cnt .u64 (16#64))) (15#32))), ((0 : Int), ((cv .i16 .i32 (cv .u32 .i16 (andI .u32 x.1 (65535#32)))), ()))))), ())).bind fun r3 =>
     cond (!r3.1)
     (some (((0 : Int), ((0 : Int), ((0 : Int), ((0 : Int), ((0#32), ()))))), false, ()))
     (some (((cv .u32 .i64 (shr .u32 x.1 (cnt .u64 (24#64)))), ((cv .u32 .i64 (andI .u32 (shr .u32 x.1 (cnt .u64 (20#64))) (15#32))), ((cv .u32 .i64 (andI .u32 (shr .u32 x.1 (cnt .u64 (16#64))) (15#32))), ((0 : Int), ((cv .i16 .i32 (cv .u32 .i16 (andI .u32 x.1 (65535#32)))), ()))))), true, ())))
    (cond (eqI .i64 r1.1 (7 : Int))
     ((G28 (((cv .u32 .i64 (shr .u32 x.1 (cnt .u64 (24#64)))), ((cv .u32 .i64 (andI .u32 (shr .u32 x.1 (cnt .u64 (20#64))) (15#32))), ((cv .u32 .i64 (andI .u32 (shr .u32 x.1 (cnt .u64 (16#64))) (15#32))), ((0 : Int), ((cv .i16 .i32 (cv .u32 .i16 (andI .u32 x.1 (65535#32)))), ()))))), ())).bind fun r4 =>
      cond (!r4.1)
      (some (((0 : Int), ((0 : Int), ((0 : Int), ((0 : Int), ((0#32), ()))))), false, ()))
      (some (((cv .u32 .i64 (shr .u32 x.1 (cnt .u64 (24#64)))), ((cv .u32 .i64 (andI .u32 (shr .u32 x.1 (cnt .u64 (20#64))) (15#32))), ((cv .u32 .i64 (andI .u32 (shr .u32 x.1 (cnt .u64 (16#64))) (15#32))), ((0 : Int), ((cv .i16 .i32 (cv .u32 .i16 (andI .u32 x.1 (65535#32)))), ()))))), true, ())))
     ((G28 (((cv .u32 .i64 (shr .u32 x.1 (cnt .u64 (24#64)))), ((cv .u32 .i64 (andI .u32 (shr .u32 x.1 (cnt .u64 (20#64))) (15#32))), ((cv .u32 .i64 (andI .u32 (shr .u32 x.1 (cnt .u64 (16#64))) (15#32))), ((0 : Int), ((cv .u32 .i32 (andI .u32 x.1 (65535#32))), ()))))), ())).bind fun r5 =>
      cond (!r5.1)
      (some (((0 : Int), ((0 : Int), ((0 : Int), ((0 : Int), ((0#32), ()))))), false, ()))
      (some (((cv .u32 .i64 (shr .u32 x.1 (cnt .u64 (24#64)))), ((cv .u32 .i64 (andI .u32 (shr .u32 x.1 (cnt .u64 (20#64))) (15#32))), ((cv .u32 .i64 (andI .u32 (shr .u32 x.1 (cnt .u64 (16#64))) (15#32))), ((0 : Int), ((cv .u32 .i32 (andI .u32 x.1 (65535#32))), ()))))), true, ()))))))
noncomputable def K16 : Con := ⟨(.cons (.int .u32) .nil), (.cons (.cons (.int .i64) (.cons (.int .i64) (.cons (.int .i64) (.cons (.int .i64) (.cons (.int .i32) .nil))))) (.cons .bool .nil)), false, G16⟩
noncomputable def C16 : List (FuncId × Con) := [(28, K28), (33, K33)]
noncomputable def D16 : List (FuncId × Con) := []
noncomputable def A16 : List (FuncId × Nat × Ann) := []
theorem S16 : Sat Tryd.prog gls 16 K16 :=
  Sat.congr (runF_ok (E := EC C16) (cd := D16) (n := 8) (an := anL A16) mo (con_ok _) (ConOk.cons S28 <| ConOk.cons S33 <| ConOk.nil _ _) (ConOk.nil _ _) (by rfl)) (fun x => by kernel_rfl)
/-- vmfleet/vmfleetlaw2.IsaDecodes -/
noncomputable def G4 (x : (BitVec 32) × ((Int) × ((Bool) × (Unit)))) : Option ((Bool) × (Unit)) :=
  jn (R := (Bool) × (Unit)) (Z := (BitVec 32) × (Unit))
  (cond x.2.2.1
   ((G10 (x.2.1, ())).bind fun r2 =>
    (G12 (r2.1, ())).bind fun r3 =>
    some (Sum.inr (r3.1, ())))
   (some (Sum.inr (x.1, ()))))
  fun z1 =>
  (G15 (z1.1, ())).bind fun r4 =>
  (G16 (z1.1, ())).bind fun r5 =>
  let v6 := (!(eqD (.cons (.int .i64) (.cons (.int .i64) (.cons (.int .i64) (.cons (.int .i64) (.cons (.int .i32) .nil))))) r4.1 r5.1))
  cond v6
  (some (false, ()))
  (cond (!(r4.2.1 == r5.2.1))
   (some (false, ()))
   (cond (!r4.2.1)
    ((G14 ()).bind fun r7 =>
     some (r7.1, ()))
    ((G11 (r4.1, ())).bind fun r8 =>
     cond (eqI .i64 r8.2.1 (0 : Int))
     (cond (eqI .u32 r8.1 z1.1)
      ((G14 ()).bind fun r9 =>
       some (r9.1, ()))
      (some (false, ())))
     (some (false, ())))))
noncomputable def K4 : Con := ⟨(.cons (.int .u32) (.cons (.int .i64) (.cons .bool .nil))), (.cons .bool .nil), false, G4⟩
noncomputable def C4 : List (FuncId × Con) := [(10, K10), (11, K11), (12, K12), (14, K14), (15, K15), (16, K16)]
noncomputable def D4 : List (FuncId × Con) := []
noncomputable def A4 : List (FuncId × Nat × Ann) := [(4, 0, (.nd none .nil (.nd (some ⟨[(.slot 0, (.dat (.int .u32)))], [0, 13, 14, 15, 16, 17, 18, 19], []⟩) .nil .nil)))]
theorem S4 : Sat Tryd.prog gls 4 K4 :=
  Sat.congr (runF_ok (E := EC C4) (cd := D4) (n := 8) (an := anL A4) mo (con_ok _) (ConOk.cons S10 <| ConOk.cons S11 <| ConOk.cons S12 <| ConOk.cons S14 <| ConOk.cons S15 <| ConOk.cons S16 <| ConOk.nil _ _) (ConOk.nil _ _) (by rfl)) (fun x => by kernel_rfl)
/-- vmfleet/vmfleetref1.Mnemonic -/
noncomputable def G37 (x : (Int) × (Unit)) : Option ((List (BitVec 8)) × (Unit)) :=
  jn (R := (List (BitVec 8)) × (Unit)) (Z := (Bool) × (Unit))
  (cond (leI .i64 (1 : Int) x.1)
   (some (Sum.inr ((leI .i64 x.1 (13 : Int)), ())))
   (some (Sum.inr (false, ()))))
  fun z1 =>
  cond z1.1
  (if (inR .i64 (sub .i64 x.1 (1 : Int)) (List.length [[97#8, 100#8, 100#8], [115#8, 117#8, 98#8], [97#8, 110#8, 100#8], [111#8, 114#8], [120#8, 111#8, 114#8], [115#8, 104#8, 108#8], [115#8, 104#8, 114#8], [115#8, 97#8, 114#8], [109#8, 117#8, 108#8], [100#8, 105#8, 118#8], [114#8, 101#8, 109#8], [115#8, 108#8, 116#8], [115#8, 108#8, 116#8, 117#8]])) = true then
   let v2 := (List.getD [[97#8, 100#8, 100#8], [115#8, 117#8, 98#8], [97#8, 110#8, 100#8], [111#8, 114#8], [120#8, 111#8, 114#8], [115#8, 104#8, 108#8], [115#8, 104#8, 114#8], [115#8, 97#8, 114#8], [109#8, 117#8, 108#8], [100#8, 105#8, 118#8], [114#8, 101#8, 109#8], [115#8, 108#8, 116#8], [115#8, 108#8, 116#8, 117#8]] (cnt .i64 (sub .i64 x.1 (1 : Int))) (dflt .str))
   some (v2, ())
   else none)
  (jn (R := (List (BitVec 8)) × (Unit)) (Z := (Bool) × (Unit))
   (cond (leI .i64 (16 : Int) x.1)
    (some (Sum.inr ((leI .i64 x.1 (24 : Int)), ())))
    (some (Sum.inr (false, ()))))
   fun z3 =>
   cond z3.1
   (if (inR .i64 (sub .i64 x.1 (16 : Int)) (List.length [[97#8, 100#8, 100#8, 105#8], [97#8, 110#8, 100#8, 105#8], [111#8, 114#8, 105#8], [120#8, 111#8, 114#8, 105#8], [115#8, 104#8, 108#8, 105#8], [115#8, 104#8, 114#8, 105#8], [115#8, 97#8, 114#8, 105#8], [115#8, 108#8, 116#8, 105#8], [108#8, 117#8, 105#8]])) = true then
    let v4 := (List.getD [[97#8, 100#8, 100#8, 105#8], [97#8, 110#8, 100#8, 105#8], [111#8, 114#8, 105#8], [120#8, 111#8, 114#8, 105#8], [115#8, 104#8, 108#8, 105#8], [115#8, 104#8, 114#8, 105#8], [115#8, 97#8, 114#8, 105#8], [115#8, 108#8, 116#8, 105#8], [108#8, 117#8, 105#8]] (cnt .i64 (sub .i64 x.1 (16 : Int))) (dflt .str))
    some (v4, ())
    else none)
   (jn (R := (List (BitVec 8)) × (Unit)) (Z := (Bool) × (Unit))
    (cond (leI .i64 (32 : Int) x.1)
     (some (Sum.inr ((leI .i64 x.1 (36 : Int)), ())))
     (some (Sum.inr (false, ()))))
    fun z5 =>
    cond z5.1
    (if (inR .i64 (sub .i64 x.1 (32 : Int)) (List.length [[108#8, 119#8], [108#8, 98#8], [108#8, 98#8, 117#8], [115#8, 119#8], [115#8, 98#8]])) = true then
     let v6 := (List.getD [[108#8, 119#8], [108#8, 98#8], [108#8, 98#8, 117#8], [115#8, 119#8], [115#8, 98#8]] (cnt .i64 (sub .i64 x.1 (32 : Int))) (dflt .str))
     some (v6, ())
     else none)
    (jn (R := (List (BitVec 8)) × (Unit)) (Z := (Bool) × (Unit))
     (cond (leI .i64 (40 : Int) x.1)
      (some (Sum.inr ((leI .i64 x.1 (45 : Int)), ())))
      (some (Sum.inr (false, ()))))
     fun z7 =>
     cond z7.1
     (if (inR .i64 (sub .i64 x.1 (40 : Int)) (List.length [[98#8, 101#8, 113#8], [98#8, 110#8, 101#8], [98#8, 108#8, 116#8], [98#8, 103#8, 101#8], [98#8, 108#8, 116#8, 117#8], [98#8, 103#8, 101#8, 117#8]])) = true then
      let v8 := (List.getD [[98#8, 101#8, 113#8], [98#8, 110#8, 101#8], [98#8, 108#8, 116#8], [98#8, 103#8, 101#8], [98#8, 108#8, 116#8, 117#8], [98#8, 103#8, 101#8, 117#8]] (cnt .i64 (sub .i64 x.1 (40 : Int))) (dflt .str))
      some (v8, ())
      else none)
     (cond (eqI .i64 x.1 (48 : Int))
      (some ([106#8, 97#8, 108#8], ()))
      (cond (eqI .i64 x.1 (49 : Int))
       (some ([106#8, 97#8, 108#8, 114#8], ()))
       (cond (leI .i64 (56 : Int) x.1)
        (cond (leI .i64 x.1 (64 : Int))
         (if (inR .i64 (sub .i64 x.1 (56 : Int)) (List.length [[101#8, 99#8, 97#8, 108#8, 108#8], [101#8, 114#8, 101#8, 116#8], [99#8, 115#8, 114#8, 114#8], [99#8, 115#8, 114#8, 119#8], [105#8, 110#8], [111#8, 117#8, 116#8], [119#8, 102#8, 105#8], [102#8, 108#8, 117#8, 115#8, 104#8], [104#8, 97#8, 108#8, 116#8]])) = true then
          let v9 := (List.getD [[101#8, 99#8, 97#8, 108#8, 108#8], [101#8, 114#8, 101#8, 116#8], [99#8, 115#8, 114#8, 114#8], [99#8, 115#8, 114#8, 119#8], [105#8, 110#8], [111#8, 117#8, 116#8], [119#8, 102#8, 105#8], [102#8, 108#8, 117#8, 115#8, 104#8], [104#8, 97#8, 108#8, 116#8]] (cnt .i64 (sub .i64 x.1 (56 : Int))) (dflt .str))
          some (v9, ())
          else none)
         (some (([] : List (BitVec 8)), ())))
        (some (([] : List (BitVec 8)), ()))))))))
noncomputable def K37 : Con := ⟨(.cons (.int .i64) .nil), (.cons .str .nil), false, G37⟩
noncomputable def C37 : List (FuncId × Con) := []
noncomputable def D37 : List (FuncId × Con) := []
noncomputable def A37 : List (FuncId × Nat × Ann) := [(37, 0, (.nd none .nil (.nd none (.nd none (.nd (some ⟨[(.slot 3, (.dat .bool))], [3, 4, 5, 6, 7, 8, 9], []⟩) .nil (.nd none .nil (.nd (some ⟨[(.slot 15, (.dat .bool))], [15, 16, 17, 18, 19, 20, 21], []⟩) .nil (.nd none .nil (.nd (some ⟨[(.slot 27, (.dat .bool))], [27, 28, 29, 30, 31, 32, 33], []⟩) .nil (.nd none .nil (.nd (some ⟨[(.slot 39, (.dat .bool))], [39, 40, 41, 42, 43, 44, 45], []⟩) .nil .nil))))))) .nil) .nil)))]
theorem S37 : Sat Tryd.prog gls 37 K37 :=
  Sat.congr (runF_ok (E := EC C37) (cd := D37) (n := 8) (an := anL A37) mo (con_ok _) (ConOk.nil _ _) (ConOk.nil _ _) (by rfl)) (fun x => by kernel_rfl)
/-- vmfleet/vmfleetref1.digits: it calls itself: as often as n says. -/
noncomputable def G46n : Nat → ((BitVec 64) × (Unit)) → Option ((List (BitVec 8)) × (Unit))
  | 0, _ => none
  | n + 1, x =>
      cond (ltI .u64 x.1 (10#64))
      (some ([(cv .u64 .u8 (add .u64 (48#64) x.1))], ()))
      (if (!isZ .u64 (10#64)) = true then
       (G46n n ((quo .u64 x.1 (10#64)), ())).bind fun r1 =>
       if (!isZ .u64 (10#64)) = true then
       if (room (List.length r1.1 + List.length [(cv .u64 .u8 (add .u64 (48#64) (rem .u64 x.1 (10#64))))])) = true then
       some ((r1.1 ++ [(cv .u64 .u8 (add .u64 (48#64) (rem .u64 x.1 (10#64))))]), ())
       else none
       else none
       else none)
noncomputable def A46 : List (FuncId × Nat × Ann) := []
noncomputable def C46n (n : Nat) : List (FuncId × Con) := [(46, ⟨(.cons (.int .u64) .nil), (.cons .str .nil), false, G46n n⟩)]
theorem S46n : ∀ n, Sat Tryd.prog gls 46 ⟨(.cons (.int .u64) .nil), (.cons .str .nil), false, G46n n⟩
  | 0 => fun _ _ _ _ _ _ _ _ h => by cases h
  | n + 1 => Sat.congr (runF_ok (E := EC (C46n n)) (cd := C46n n) (n := 8) (an := anL A46) mo (con_ok _) (ConOk.cons (S46n n) <| ConOk.nil _ _) (ConOk.cons (S46n n) <| ConOk.nil _ _) (by rfl)) (fun x => by kernel_rfl)
noncomputable def G46 (x : (BitVec 64) × (Unit)) : Option ((List (BitVec 8)) × (Unit)) := G46n 20 x
noncomputable def K46 : Con := ⟨(.cons (.int .u64) .nil), (.cons .str .nil), false, G46⟩
theorem S46 : Sat Tryd.prog gls 46 K46 := S46n 20
/-- vmfleet/vmfleetref1.Decimal -/
noncomputable def G38 (x : (Int) × (Unit)) : Option ((List (BitVec 8)) × (Unit)) :=
  cond (ltI .i64 x.1 (0 : Int))
  ((G46 ((add .u64 (cv .i64 .u64 (sub .i64 (ofI .i64 0) (add .i64 x.1 (1 : Int)))) (1#64)), ())).bind fun r1 =>
   if (room (List.length [45#8] + List.length r1.1)) = true then
   some (([45#8] ++ r1.1), ())
   else none)
  ((G46 ((cv .i64 .u64 x.1), ())).bind fun r2 =>
   some (r2.1, ()))
noncomputable def K38 : Con := ⟨(.cons (.int .i64) .nil), (.cons .str .nil), false, G38⟩
noncomputable def C38 : List (FuncId × Con) := [(46, K46)]
noncomputable def D38 : List (FuncId × Con) := []
noncomputable def A38 : List (FuncId × Nat × Ann) := []
theorem S38 : Sat Tryd.prog gls 38 K38 :=
  Sat.congr (runF_ok (E := EC C38) (cd := D38) (n := 8) (an := anL A38) mo (con_ok _) (ConOk.cons S46 <| ConOk.nil _ _) (ConOk.nil _ _) (by rfl)) (fun x => by kernel_rfl)
/-- vmfleet/vmfleetref1.reg -/
noncomputable def G39 (x : (Int) × (Unit)) : Option ((List (BitVec 8)) × (Unit)) :=
  (G38 (x.1, ())).bind fun r1 =>
  if (room (List.length [114#8] + List.length r1.1)) = true then
  some (([114#8] ++ r1.1), ())
  else none
noncomputable def K39 : Con := ⟨(.cons (.int .i64) .nil), (.cons .str .nil), false, G39⟩
noncomputable def C39 : List (FuncId × Con) := [(38, K38)]
noncomputable def D39 : List (FuncId × Con) := []
noncomputable def A39 : List (FuncId × Nat × Ann) := []
theorem S39 : Sat Tryd.prog gls 39 K39 :=
  Sat.congr (runF_ok (E := EC C39) (cd := D39) (n := 8) (an := anL A39) mo (con_ok _) (ConOk.cons S38 <| ConOk.nil _ _) (ConOk.nil _ _) (by rfl)) (fun x => by kernel_rfl)
/-- vmfleet/vmfleetref1.Format -/
noncomputable def G18 (x : ((Int) × ((Int) × ((Int) × ((Int) × ((BitVec 32) × (Unit)))))) × (Unit)) : Option ((List (BitVec 8)) × (Unit)) :=
  (G28 (x.1, ())).bind fun r1 =>
  cond (!r1.1)
  (some (([] : List (BitVec 8)), ()))
  ((G37 (x.1.1, ())).bind fun r2 =>
   (G38 ((cv .i32 .i64 x.1.2.2.2.2.1), ())).bind fun r3 =>
   (G33 (x.1.1, ())).bind fun r4 =>
   cond (eqI .i64 r4.1 (1 : Int))
   (some (r2.1, ()))
   (cond (eqI .i64 r4.1 (2 : Int))
    (if (room (List.length r2.1 + List.length [32#8])) = true then
     (G39 (x.1.2.1, ())).bind fun r5 =>
     if (room (List.length (r2.1 ++ [32#8]) + List.length r5.1)) = true then
     if (room (List.length ((r2.1 ++ [32#8]) ++ r5.1) + List.length [44#8, 32#8])) = true then
     (G39 (x.1.2.2.1, ())).bind fun r6 =>
     if (room (List.length (((r2.1 ++ [32#8]) ++ r5.1) ++ [44#8, 32#8]) + List.length r6.1)) = true then
     if (room (List.length ((((r2.1 ++ [32#8]) ++ r5.1) ++ [44#8, 32#8]) ++ r6.1) + List.length [44#8, 32#8])) = true then
     (G39 (x.1.2.2.2.1, ())).bind fun r7 =>
     if (room (List.length (((((r2.1 ++ [32#8]) ++ r5.1) ++ [44#8, 32#8]) ++ r6.1) ++ [44#8, 32#8]) + List.length r7.1)) = true then
     some (((((((r2.1 ++ [32#8]) ++ r5.1) ++ [44#8, 32#8]) ++ r6.1) ++ [44#8, 32#8]) ++ r7.1), ())
     else none
     else none
     else none
     else none
     else none
     else none)
    (jn (R := (List (BitVec 8)) × (Unit)) (Z := (Bool) × (Unit))
     (cond (leI .i64 (32 : Int) x.1.1)
      (some (Sum.inr ((leI .i64 x.1.1 (36 : Int)), ())))
      (some (Sum.inr (false, ()))))
     fun z8 =>
     cond z8.1
     (if (room (List.length r2.1 + List.length [32#8])) = true then
      (G39 (x.1.2.1, ())).bind fun r9 =>
      if (room (List.length (r2.1 ++ [32#8]) + List.length r9.1)) = true then
      if (room (List.length ((r2.1 ++ [32#8]) ++ r9.1) + List.length [44#8, 32#8])) = true then
      if (room (List.length (((r2.1 ++ [32#8]) ++ r9.1) ++ [44#8, 32#8]) + List.length r3.1)) = true then
      if (room (List.length ((((r2.1 ++ [32#8]) ++ r9.1) ++ [44#8, 32#8]) ++ r3.1) + List.length [40#8])) = true then
      (G39 (x.1.2.2.1, ())).bind fun r10 =>
      if (room (List.length (((((r2.1 ++ [32#8]) ++ r9.1) ++ [44#8, 32#8]) ++ r3.1) ++ [40#8]) + List.length r10.1)) = true then
      if (room (List.length ((((((r2.1 ++ [32#8]) ++ r9.1) ++ [44#8, 32#8]) ++ r3.1) ++ [40#8]) ++ r10.1) + List.length [41#8])) = true then
      some ((((((((r2.1 ++ [32#8]) ++ r9.1) ++ [44#8, 32#8]) ++ r3.1) ++ [40#8]) ++ r10.1) ++ [41#8]), ())
      else none
      else none
      else none
      else none
      else none
      else none
      else none)
     (cond (leI .i64 (6 : Int) r4.1)
      (if (room (List.length r2.1 + List.length [32#8])) = true then
       (G39 (x.1.2.1, ())).bind fun r11 =>
       if (room (List.length (r2.1 ++ [32#8]) + List.length r11.1)) = true then
       if (room (List.length ((r2.1 ++ [32#8]) ++ r11.1) + List.length [44#8, 32#8])) = true then
       if (room (List.length (((r2.1 ++ [32#8]) ++ r11.1) ++ [44#8, 32#8]) + List.length r3.1)) = true then
       some (((((r2.1 ++ [32#8]) ++ r11.1) ++ [44#8, 32#8]) ++ r3.1), ())
       else none
       else none
       else none
       else none)
      (if (room (List.length r2.1 + List.length [32#8])) = true then
       (G39 (x.1.2.1, ())).bind fun r12 =>
       if (room (List.length (r2.1 ++ [32#8]) + List.length r12.1)) = true then
       if (room (List.length ((r2.1 ++ [32#8]) ++ r12.1) + List.length [44#8, 32#8])) = true then
       (G39 (x.1.2.2.1, ())).bind fun r13 =>
       if (room (List.length (((r2.1 ++ [32#8]) ++ r12.1) ++ [44#8, 32#8]) + List.length r13.1)) = true then
       if (room (List.length ((((r2.1 ++ [32#8]) ++ r12.1) ++ [44#8, 32#8]) ++ r13.1) + List.length [44#8, 32#8])) = true then
       if (room (List.length (((((r2.1 ++ [32#8]) ++ r12.1) ++ [44#8, 32#8]) ++ r13.1) ++ [44#8, 32#8]) + List.length r3.1)) = true then
       some (((((((r2.1 ++ [32#8]) ++ r12.1) ++ [44#8, 32#8]) ++ r13.1) ++ [44#8, 32#8]) ++ r3.1), ())
       else none
       else none
       else none
       else none
       else none
       else none)))))
noncomputable def K18 : Con := ⟨(.cons (.cons (.int .i64) (.cons (.int .i64) (.cons (.int .i64) (.cons (.int .i64) (.cons (.int .i32) .nil))))) .nil), (.cons .str .nil), false, G18⟩
noncomputable def C18 : List (FuncId × Con) := [(28, K28), (33, K33), (37, K37), (38, K38), (39, K39)]
noncomputable def D18 : List (FuncId × Con) := [(39, K39)]
noncomputable def A18 : List (FuncId × Nat × Ann) := [(18, 0, (.nd none .nil (.nd none .nil (.nd none .nil (.nd none .nil (.nd none (.nd none .nil (.nd none (.nd none .nil (.nd none .nil (.nd none .nil (.nd none .nil (.nd (some ⟨[(.slot 42, (.dat .bool))], [42, 43, 44, 45, 46, 47, 48, 49, 50], []⟩) .nil .nil))))) .nil)) .nil))))))]
theorem S18 : Sat Tryd.prog gls 18 K18 :=
  Sat.congr (runF_ok (E := EC C18) (cd := D18) (n := 8) (an := anL A18) mo (con_ok _) (ConOk.cons S28 <| ConOk.cons S33 <| ConOk.cons S37 <| ConOk.cons S38 <| ConOk.cons S39 <| ConOk.nil _ _) (ConOk.cons S39 <| ConOk.nil _ _) (by rfl)) (fun x => by kernel_rfl)
/-- vmfleet/vmfleetlaw2.IsaFormats -/
noncomputable def G5 (x : ((Int) × ((Int) × ((Int) × ((Int) × ((BitVec 32) × (Unit)))))) × (((Int) × ((Int) × ((Int) × ((Int) × ((BitVec 32) × (Unit)))))) × ((Int) × ((Int) × ((Bool) × (Unit)))))) : Option ((Bool) × (Unit)) :=
  jn (R := (Bool) × (Unit)) (Z := ((Int) × ((Int) × ((Int) × ((Int) × ((BitVec 32) × (Unit)))))) × (((Int) × ((Int) × ((Int) × ((Int) × ((BitVec 32) × (Unit)))))) × (Unit)))
  (cond x.2.2.2.2.1
   ((G10 (x.2.2.1, ())).bind fun r2 =>
    (G10 (x.2.2.2.1, ())).bind fun r3 =>
    some (Sum.inr (r2.1, r3.1, ())))
   (some (Sum.inr (x.1, x.2.1, ()))))
  fun z1 =>
  (G17 (z1.1, ())).bind fun r4 =>
  (G17 (z1.2.1, ())).bind fun r5 =>
  (G18 (z1.1, ())).bind fun r6 =>
  cond (!(decide (r4.1 = r6.1)))
  (some (false, ()))
  ((G18 (z1.2.1, ())).bind fun r7 =>
   cond (!(decide (r5.1 = r7.1)))
   (some (false, ()))
   (cond (decide (r4.1 = ([] : List (BitVec 8))))
    ((G13 (z1.1, ())).bind fun r8 =>
     cond (!((decide (r4.1 = ([] : List (BitVec 8)))) == r8.1))
     ((G14 ()).bind fun r9 =>
      some (r9.1, ()))
     (some (false, ())))
    (let v10 := (eqD (.cons (.int .i64) (.cons (.int .i64) (.cons (.int .i64) (.cons (.int .i64) (.cons (.int .i32) .nil))))) z1.1 z1.2.1)
     cond ((decide (r4.1 = r5.1)) == v10)
     ((G13 (z1.1, ())).bind fun r11 =>
      cond (!((decide (r4.1 = ([] : List (BitVec 8)))) == r11.1))
      ((G14 ()).bind fun r12 =>
       some (r12.1, ()))
      (some (false, ())))
     (some (false, ())))))
noncomputable def K5 : Con := ⟨(.cons (.cons (.int .i64) (.cons (.int .i64) (.cons (.int .i64) (.cons (.int .i64) (.cons (.int .i32) .nil))))) (.cons (.cons (.int .i64) (.cons (.int .i64) (.cons (.int .i64) (.cons (.int .i64) (.cons (.int .i32) .nil))))) (.cons (.int .i64) (.cons (.int .i64) (.cons .bool .nil))))), (.cons .bool .nil), false, G5⟩
noncomputable def C5 : List (FuncId × Con) := [(10, K10), (13, K13), (14, K14), (17, K17), (18, K18)]
noncomputable def D5 : List (FuncId × Con) := [(17, K17)]
noncomputable def A5 : List (FuncId × Nat × Ann) := [(5, 0, (.nd none .nil (.nd (some ⟨[(.box 0, (.dat (.cons (.int .i64) (.cons (.int .i64) (.cons (.int .i64) (.cons (.int .i64) (.cons (.int .i32) .nil))))))), (.box 1, (.dat (.cons (.int .i64) (.cons (.int .i64) (.cons (.int .i64) (.cons (.int .i64) (.cons (.int .i32) .nil)))))))], [13, 14, 15, 16, 17], []⟩) .nil .nil)))]
theorem S5 : Sat Tryd.prog gls 5 K5 :=
  Sat.congr (runF_ok (E := EC C5) (cd := D5) (n := 8) (an := anL A5) mo (con_ok _) (ConOk.cons S10 <| ConOk.cons S13 <| ConOk.cons S14 <| ConOk.cons S17 <| ConOk.cons S18 <| ConOk.nil _ _) (ConOk.cons S17 <| ConOk.nil _ _) (by rfl)) (fun x => by kernel_rfl)
/-- vmfleet/vmfleetlaw2.IsaBits -/
noncomputable def G6 (x : (Int) × ((Int) × (Unit))) : Option ((Bool) × (Unit)) :=
  (G10 (x.1, ())).bind fun r1 =>
  (G11 (r1.1, ())).bind fun r2 =>
  cond (!eqI .i64 r2.2.1 (0 : Int))
  (some (false, ()))
  ((G19 (x.2.1, (32 : Int), ())).bind fun r3 =>
   (G15 ((xorI .u32 r2.1 (shl .u32 (1#32) (cnt .u64 (cv .i64 .u64 r3.1)))), ())).bind fun r4 =>
   cond (!r4.2.1)
   ((G14 ()).bind fun r5 =>
    some (r5.1, ()))
   (let v6 := (!(eqD (.cons (.int .i64) (.cons (.int .i64) (.cons (.int .i64) (.cons (.int .i64) (.cons (.int .i32) .nil))))) r4.1 r1.1))
    cond v6
    ((G14 ()).bind fun r7 =>
     some (r7.1, ()))
    (some (false, ()))))
noncomputable def K6 : Con := ⟨(.cons (.int .i64) (.cons (.int .i64) .nil)), (.cons .bool .nil), false, G6⟩
noncomputable def C6 : List (FuncId × Con) := [(10, K10), (11, K11), (14, K14), (15, K15), (19, K19)]
noncomputable def D6 : List (FuncId × Con) := []
noncomputable def A6 : List (FuncId × Nat × Ann) := []
theorem S6 : Sat Tryd.prog gls 6 K6 :=
  Sat.congr (runF_ok (E := EC C6) (cd := D6) (n := 8) (an := anL A6) mo (con_ok _) (ConOk.cons S10 <| ConOk.cons S11 <| ConOk.cons S14 <| ConOk.cons S15 <| ConOk.cons S19 <| ConOk.nil _ _) (ConOk.nil _ _) (by rfl)) (fun x => by kernel_rfl)
/-- vmfleet/vmfleetlaw2.IsaUnused -/
noncomputable def G7 (x : (Int) × ((Int) × (Unit))) : Option ((Bool) × (Unit)) :=
  (G10 (x.1, ())).bind fun r1 =>
  (G11 (r1.1, ())).bind fun r2 =>
  (G19 (x.2.1, (15 : Int), ())).bind fun r3 =>
  jn (R := (Bool) × (Unit)) (Z := Unit)
  (cond (leI .i64 (1 : Int) r1.1.1)
   (cond (leI .i64 r1.1.1 (13 : Int))
    ((G15 ((orI .u32 r2.1 (shl .u32 (cv .i64 .u32 (add .i64 (1 : Int) r3.1)) (cnt .u64 (4#64)))), ())).bind fun r5 =>
     (G13 ((r1.1.1, (r1.1.2.1, (r1.1.2.2.1, (r1.1.2.2.2.1, ((cv .i64 .i32 (add .i64 (1 : Int) r3.1)), r1.1.2.2.2.2.2))))), ())).bind fun r6 =>
     cond (!r6.1)
     (cond (!r5.2.1)
      ((G14 ()).bind fun r7 =>
       some (Sum.inl (r7.1, ())))
      (some (Sum.inl (false, ()))))
     (some (Sum.inl (false, ()))))
    (some (Sum.inr ())))
   (some (Sum.inr ())))
  fun z4 =>
  (G13 ((r1.1.1, (r1.1.2.1, (r1.1.2.2.1, ((add .i64 (1 : Int) r3.1), r1.1.2.2.2.2)))), ())).bind fun r8 =>
  cond r8.1
  (some (false, ()))
  (jn (R := (Bool) × (Unit)) (Z := (Bool) × (Unit))
   (cond (eqI .i64 r1.1.1 (24 : Int))
    (some (Sum.inr (true, ())))
    (cond (eqI .i64 r1.1.1 (48 : Int))
     (some (Sum.inr (true, ())))
     (some (Sum.inr ((leI .i64 (56 : Int) r1.1.1), ())))))
   fun z9 =>
   cond z9.1
   ((G15 ((orI .u32 r2.1 (shl .u32 (cv .i64 .u32 (add .i64 (1 : Int) r3.1)) (cnt .u64 (16#64)))), ())).bind fun r10 =>
    cond (!r10.2.1)
    ((G14 ()).bind fun r11 =>
     some (r11.1, ()))
    (some (false, ())))
   ((G14 ()).bind fun r12 =>
    some (r12.1, ())))
noncomputable def K7 : Con := ⟨(.cons (.int .i64) (.cons (.int .i64) .nil)), (.cons .bool .nil), false, G7⟩
noncomputable def C7 : List (FuncId × Con) := [(10, K10), (11, K11), (13, K13), (14, K14), (15, K15), (19, K19)]
noncomputable def D7 : List (FuncId × Con) := []
noncomputable def A7 : List (FuncId × Nat × Ann) := [(7, 0, (.nd none .nil (.nd none .nil (.nd none .nil (.nd none .nil (.nd (some ⟨[], [22, 23, 24, 25, 26, 27, 28, 29], []⟩) .nil (.nd none .nil (.nd none .nil (.nd none (.nd (some ⟨[(.slot 68, (.dat .bool))], [56, 57, 58, 59, 60, 61, 62, 63, 64, 65, 66, 67, 68], []⟩) .nil .nil) .nil)))))))))]
theorem S7 : Sat Tryd.prog gls 7 K7 :=
  Sat.congr (runF_ok (E := EC C7) (cd := D7) (n := 8) (an := anL A7) mo (con_ok _) (ConOk.cons S10 <| ConOk.cons S11 <| ConOk.cons S13 <| ConOk.cons S14 <| ConOk.cons S15 <| ConOk.cons S19 <| ConOk.nil _ _) (ConOk.nil _ _) (by rfl)) (fun x => by kernel_rfl)
/-- vmfleet/isa.Privileged -/
noncomputable def G20 (x : (Int) × (Unit)) : Option ((Bool) × (Unit)) :=
  cond (eqI .i64 x.1 (57 : Int))
  (some (true, ()))
  (cond (eqI .i64 x.1 (58 : Int))
   (some (true, ()))
   (cond (eqI .i64 x.1 (59 : Int))
    (some (true, ()))
    (cond (eqI .i64 x.1 (60 : Int))
     (some (true, ()))
     (cond (eqI .i64 x.1 (61 : Int))
      (some (true, ()))
      (cond (eqI .i64 x.1 (62 : Int))
       (some (true, ()))
       (cond (eqI .i64 x.1 (63 : Int))
        (some (true, ()))
        (cond (eqI .i64 x.1 (64 : Int))
         (some (true, ()))
         (some (false, ())))))))))
noncomputable def K20 : Con := ⟨(.cons (.int .i64) .nil), (.cons .bool .nil), false, G20⟩
noncomputable def C20 : List (FuncId × Con) := []
noncomputable def D20 : List (FuncId × Con) := []
noncomputable def A20 : List (FuncId × Nat × Ann) := []
theorem S20 : Sat Tryd.prog gls 20 K20 :=
  Sat.congr (runF_ok (E := EC C20) (cd := D20) (n := 8) (an := anL A20) mo (con_ok _) (ConOk.nil _ _) (ConOk.nil _ _) (by rfl)) (fun x => by kernel_rfl)
/-- vmfleet/vmfleetref1.Privileged -/
noncomputable def G21 (x : (Int) × (Unit)) : Option ((Bool) × (Unit)) :=
  cond (leI .i64 (57 : Int) x.1)
  (some ((leI .i64 x.1 (64 : Int)), ()))
  (some (false, ()))
noncomputable def K21 : Con := ⟨(.cons (.int .i64) .nil), (.cons .bool .nil), false, G21⟩
noncomputable def C21 : List (FuncId × Con) := []
noncomputable def D21 : List (FuncId × Con) := []
noncomputable def A21 : List (FuncId × Nat × Ann) := []
theorem S21 : Sat Tryd.prog gls 21 K21 :=
  Sat.congr (runF_ok (E := EC C21) (cd := D21) (n := 8) (an := anL A21) mo (con_ok _) (ConOk.nil _ _) (ConOk.nil _ _) (by rfl)) (fun x => by kernel_rfl)
/-- vmfleet/isa.Ends -/
noncomputable def G22 (x : (Int) × (Unit)) : Option ((Bool) × (Unit)) :=
  cond (leI .i64 (40 : Int) x.1)
  ((G35 (x.1, ())).bind fun r1 =>
   some ((!(decide (r1.1 = ([] : List (BitVec 8))))), ()))
  (some (false, ()))
noncomputable def K22 : Con := ⟨(.cons (.int .i64) .nil), (.cons .bool .nil), false, G22⟩
noncomputable def C22 : List (FuncId × Con) := [(35, K35)]
noncomputable def D22 : List (FuncId × Con) := []
noncomputable def A22 : List (FuncId × Nat × Ann) := []
theorem S22 : Sat Tryd.prog gls 22 K22 :=
  Sat.congr (runF_ok (E := EC C22) (cd := D22) (n := 8) (an := anL A22) mo (con_ok _) (ConOk.cons S35 <| ConOk.nil _ _) (ConOk.nil _ _) (by rfl)) (fun x => by kernel_rfl)
/-- vmfleet/vmfleetref1.Ends -/
noncomputable def G23 (x : (Int) × (Unit)) : Option ((Bool) × (Unit)) :=
  (G33 (x.1, ())).bind fun r1 =>
  cond (ltI .i64 (0 : Int) r1.1)
  (some ((leI .i64 (40 : Int) x.1), ()))
  (some (false, ()))
noncomputable def K23 : Con := ⟨(.cons (.int .i64) .nil), (.cons .bool .nil), false, G23⟩
noncomputable def C23 : List (FuncId × Con) := [(33, K33)]
noncomputable def D23 : List (FuncId × Con) := []
noncomputable def A23 : List (FuncId × Nat × Ann) := []
theorem S23 : Sat Tryd.prog gls 23 K23 :=
  Sat.congr (runF_ok (E := EC C23) (cd := D23) (n := 8) (an := anL A23) mo (con_ok _) (ConOk.cons S33 <| ConOk.nil _ _) (ConOk.nil _ _) (by rfl)) (fun x => by kernel_rfl)
/-- vmfleet/vmfleetlaw2.count -/
noncomputable def G24 (x : Unit) : Option ((Int) × (Unit)) :=
  loopT (R := (Int) × (Unit)) (X := (Int) × ((Int) × (Unit))) (fun z1 =>
   cond (ltI .i64 z1.2.1 (300 : Int))
   ((G37 (z1.2.1, ())).bind fun r2 =>
    cond (!(decide (r2.1 = ([] : List (BitVec 8)))))
    (some (Sum.inr ((add .i64 z1.1 (1 : Int)), (add .i64 z1.2.1 (1 : Int)), ())))
    (some (Sum.inr (z1.1, (add .i64 z1.2.1 (1 : Int)), ()))))
   (some (Sum.inl (z1.1, ()))))
  ((0 : Int), (0 : Int), ())
noncomputable def K24 : Con := ⟨.nil, (.cons (.int .i64) .nil), false, G24⟩
noncomputable def C24 : List (FuncId × Con) := [(37, K37)]
noncomputable def D24 : List (FuncId × Con) := []
noncomputable def A24 : List (FuncId × Nat × Ann) := [(24, 0, (.nd none .nil (.nd none .nil (.nd none (.nd none .nil (.nd none (.nd (some ⟨[(.slot 1, (.dat (.int .i64))), (.slot 2, (.dat (.int .i64)))], [1, 2, 3, 4, 5, 6, 7, 8, 9, 10, 11], []⟩) .nil .nil) .nil)) .nil))))]
theorem S24 : Sat Tryd.prog gls 24 K24 :=
  Sat.congr (runF_ok (E := EC C24) (cd := D24) (n := 8) (an := anL A24) mo (con_ok _) (ConOk.cons S37 <| ConOk.nil _ _) (ConOk.nil _ _) (by rfl)) (fun x => by kernel_rfl)
/-- vmfleet/vmfleetlaw2.IsaOps -/
noncomputable def G8 (x : (Int) × (Unit)) : Option ((Bool) × (Unit)) :=
  (G20 (x.1, ())).bind fun r1 =>
  (G21 (x.1, ())).bind fun r2 =>
  cond (!(r1.1 == r2.1))
  (some (false, ()))
  ((G22 (x.1, ())).bind fun r3 =>
   (G23 (x.1, ())).bind fun r4 =>
   cond (!(r3.1 == r4.1))
   (some (false, ()))
   (loopT (R := (Bool) × (Unit)) (X := (Int) × ((Int) × (Unit))) (fun z5 =>
     cond (ltI .i64 z5.2.1 (300 : Int))
     ((G13 ((z5.2.1, ((0 : Int), ((0 : Int), ((0 : Int), ((0#32), ()))))), ())).bind fun r6 =>
      cond r6.1
      (some (Sum.inr ((add .i64 z5.1 (1 : Int)), (add .i64 z5.2.1 (1 : Int)), ())))
      (some (Sum.inr (z5.1, (add .i64 z5.2.1 (1 : Int)), ()))))
     (((G24 ()).bind fun r7 =>
       cond (eqI .i64 z5.1 r7.1)
       ((G14 ()).bind fun r8 =>
        some (r8.1, ()))
       (some (false, ()))).map Sum.inl))
    ((0 : Int), (-5 : Int), ())))
noncomputable def K8 : Con := ⟨(.cons (.int .i64) .nil), (.cons .bool .nil), false, G8⟩
noncomputable def C8 : List (FuncId × Con) := [(13, K13), (14, K14), (20, K20), (21, K21), (22, K22), (23, K23), (24, K24)]
noncomputable def D8 : List (FuncId × Con) := []
noncomputable def A8 : List (FuncId × Nat × Ann) := [(8, 0, (.nd none .nil (.nd none .nil (.nd none .nil (.nd none (.nd none .nil (.nd none (.nd (some ⟨[(.slot 3, (.dat (.int .i64))), (.slot 4, (.dat (.int .i64)))], [3, 4, 17, 18, 19, 20, 21, 22, 23, 24, 25], []⟩) .nil .nil) .nil)) .nil)))))]
theorem S8 : Sat Tryd.prog gls 8 K8 :=
  Sat.congr (runF_ok (E := EC C8) (cd := D8) (n := 8) (an := anL A8) mo (con_ok _) (ConOk.cons S13 <| ConOk.cons S14 <| ConOk.cons S20 <| ConOk.cons S21 <| ConOk.cons S22 <| ConOk.cons S23 <| ConOk.cons S24 <| ConOk.nil _ _) (ConOk.nil _ _) (by rfl)) (fun x => by kernel_rfl)
/-- vmfleet/vmfleetlaw2.IsaBlocks -/
noncomputable def G9 (x : (Int) × (Unit)) : Option ((Bool) × (Unit)) :=
  jn (R := (Bool) × (Unit)) (Z := (Bool) × (Unit))
  (cond (ltI .i64 x.1 (0 : Int))
   (some (Sum.inr (true, ())))
   (some (Sum.inr ((ltI .i64 (300 : Int) x.1), ()))))
  fun z1 =>
  cond z1.1
  ((G22 (x.1, ())).bind fun r2 =>
   cond (!r2.1)
   ((G20 (x.1, ())).bind fun r3 =>
    cond (!r3.1)
    ((G14 ()).bind fun r4 =>
     some (r4.1, ()))
    (some (false, ())))
   (some (false, ())))
  (jn (R := (Bool) × (Unit)) (Z := Unit)
   ((G20 (x.1, ())).bind fun r6 =>
    cond r6.1
    ((G22 (x.1, ())).bind fun r7 =>
     cond (!r7.1)
     (some (Sum.inl (false, ())))
     (some (Sum.inr ())))
    (some (Sum.inr ())))
   fun z5 =>
   (G22 (x.1, ())).bind fun r8 =>
   cond (leI .i64 (40 : Int) x.1)
   ((G13 ((x.1, ((0 : Int), ((0 : Int), ((0 : Int), ((0#32), ()))))), ())).bind fun r9 =>
    cond (r8.1 == r9.1)
    ((G14 ()).bind fun r10 =>
     some (r10.1, ()))
    (some (false, ())))
   (cond (r8.1 == false)
    ((G14 ()).bind fun r11 =>
     some (r11.1, ()))
    (some (false, ()))))
noncomputable def K9 : Con := ⟨(.cons (.int .i64) .nil), (.cons .bool .nil), false, G9⟩
noncomputable def C9 : List (FuncId × Con) := [(13, K13), (14, K14), (20, K20), (22, K22)]
noncomputable def D9 : List (FuncId × Con) := []
noncomputable def A9 : List (FuncId × Nat × Ann) := [(9, 0, (.nd none .nil (.nd none (.nd (some ⟨[(.slot 8, (.dat .bool))], [3, 4, 5, 6, 7, 8], []⟩) .nil .nil) (.nd (some ⟨[], [20, 21, 22, 23, 24, 25, 26], []⟩) .nil .nil))))]
theorem S9 : Sat Tryd.prog gls 9 K9 :=
  Sat.congr (runF_ok (E := EC C9) (cd := D9) (n := 8) (an := anL A9) mo (con_ok _) (ConOk.cons S13 <| ConOk.cons S14 <| ConOk.cons S20 <| ConOk.cons S22 <| ConOk.nil _ _) (ConOk.nil _ _) (by rfl)) (fun x => by kernel_rfl)
end Go.Proofs.YtamgehoiedfmeaaDoor
