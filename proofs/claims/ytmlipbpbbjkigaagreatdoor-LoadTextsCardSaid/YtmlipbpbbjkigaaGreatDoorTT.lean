/- The tables of a seat: written by gentab.py from the prints of the loaded program. -/
import Derived.Test.YtmlipbpbbjkigaaGreatDoorRows
import Derived.Test.YtmlipbpbbjkigaaGreatDoorEvc
set_option linter.unusedVariables false
set_option linter.unusedSimpArgs false
namespace Go.Proofs.YtmlipbpbbjkigaaGreatDoor
open Go Go.Ev Go.Proofs
noncomputable def ty1 : Ti := { desc := Tryz.t1.desc, size := 1, bytes := 8, zero := [.nilFunc], agg := false, eqs := false }
noncomputable def ty2 : Ti := { desc := Tryz.t2.desc, size := 1, bytes := 8, zero := [.int .i64 0], agg := false, eqs := false }
noncomputable def ty3 : Ti := { desc := Tryz.t3.desc, size := 1, bytes := 8, zero := [.int .i64 0], agg := false, eqs := false }
noncomputable def ty4 : Ti := { desc := Tryz.t4.desc, size := 1, bytes := 1, zero := [.bool false], agg := false, eqs := false }
noncomputable def ty5 : Ti := { desc := Tryz.t5.desc, size := 1, bytes := 1, zero := [.int .u8 0], agg := false, eqs := false }
noncomputable def ty6 : Ti := { desc := Tryz.t5.desc, size := 1, bytes := 1, zero := [.int .u8 0], agg := false, eqs := false }
noncomputable def ty7 : Ti := { desc := Tryz.t7.desc, size := 4, bytes := 24, zero := [.int .i64 0, .int .i64 0, .bool false, .int .u8 0], agg := true, eqs := true }
noncomputable def ty8 : Ti := { desc := Tryz.t7.desc, size := 4, bytes := 24, zero := [.int .i64 0, .int .i64 0, .bool false, .int .u8 0], agg := true, eqs := true }
noncomputable def ty9 : Ti := { desc := Tryz.t9.desc, size := 1, bytes := 16, zero := [.str []], agg := false, eqs := false }
noncomputable def ty10 : Ti := { desc := Tryz.t9.desc, size := 1, bytes := 16, zero := [.str []], agg := false, eqs := false }
noncomputable def ty11 : Ti := { desc := Tryz.t9.desc, size := 1, bytes := 16, zero := [.str []], agg := false, eqs := false }
noncomputable def ty12 : Ti := { desc := Tryz.t12.desc, size := 1, bytes := 8, zero := [.int .u64 0], agg := false, eqs := false }
noncomputable def ty13 : Ti := { desc := Tryz.t13.desc, size := 2, bytes := 24, zero := [.str [], .int .u64 0], agg := true, eqs := false }
noncomputable def ty14 : Ti := { desc := Tryz.t13.desc, size := 2, bytes := 24, zero := [.str [], .int .u64 0], agg := true, eqs := false }
noncomputable def ty15 : Ti := { desc := Tryz.t15.desc, size := 1, bytes := 8, zero := [.nilptr], agg := false, eqs := false }
noncomputable def ty16 : Ti := { desc := Tryz.t16.desc, size := 1, bytes := 8, zero := [.nilptr], agg := false, eqs := false }
noncomputable def ty17 : Ti := { desc := Tryz.t17.desc, size := 1, bytes := 8, zero := [.nilptr], agg := false, eqs := false }
noncomputable def ty18 : Ti := { desc := Tryz.t18.desc, size := 1, bytes := 8, zero := [.nilptr], agg := true, eqs := false }
noncomputable def ty19 : Ti := { desc := Tryz.t18.desc, size := 1, bytes := 8, zero := [.nilptr], agg := true, eqs := false }
noncomputable def ty20 : Ti := { desc := Tryz.t20.desc, size := 1, bytes := 16, zero := [.nilIface], agg := false, eqs := false }
noncomputable def ty21 : Ti := { desc := Tryz.t21.desc, size := 1, bytes := 4, zero := [.int .i32 0], agg := false, eqs := false }
noncomputable def ty22 : Ti := { desc := Tryz.t22.desc, size := 2, bytes := 24, zero := [.str [], .int .i64 0], agg := true, eqs := true }
noncomputable def ty23 : Ti := { desc := Tryz.t22.desc, size := 2, bytes := 24, zero := [.str [], .int .i64 0], agg := true, eqs := true }
noncomputable def ty24 : Ti := { desc := Tryz.t24.desc, size := 1, bytes := 24, zero := [.nilslice], agg := false, eqs := false }
noncomputable def ty25 : Ti := { desc := Tryz.t25.desc, size := 1, bytes := 24, zero := [.nilslice], agg := false, eqs := false }
noncomputable def ty26 : Ti := { desc := Tryz.t26.desc, size := 7, bytes := 120, zero := [.str [], .int .i64 0, .str [], .nilslice, .nilslice, .nilslice, .int .i64 0], agg := true, eqs := false }
noncomputable def ty27 : Ti := { desc := Tryz.t26.desc, size := 7, bytes := 120, zero := [.str [], .int .i64 0, .str [], .nilslice, .nilslice, .nilslice, .int .i64 0], agg := true, eqs := false }
noncomputable def ty28 : Ti := { desc := Tryz.t28.desc, size := 1, bytes := 8, zero := [.nilFunc], agg := false, eqs := false }
noncomputable def ty29 : Ti := { desc := Tryz.t29.desc, size := 14, bytes := 240, zero := [.str [], .int .i64 0, .str [], .nilslice, .nilslice, .nilslice, .int .i64 0, .str [], .int .i64 0, .str [], .nilslice, .nilslice, .nilslice, .int .i64 0], agg := true, eqs := false }
noncomputable def ty30 : Ti := { desc := Tryz.t30.desc, size := 32, bytes := 32, zero := repE [.int .u8 0] 32, agg := true, eqs := true }
noncomputable def ty31 : Ti := { desc := Tryz.t30.desc, size := 32, bytes := 32, zero := repE [.int .u8 0] 32, agg := true, eqs := true }
noncomputable def ty32 : Ti := { desc := Tryz.t32.desc, size := 33, bytes := 48, zero := [.str [], .int .u8 0, .int .u8 0, .int .u8 0, .int .u8 0, .int .u8 0, .int .u8 0, .int .u8 0, .int .u8 0, .int .u8 0, .int .u8 0, .int .u8 0, .int .u8 0, .int .u8 0, .int .u8 0, .int .u8 0, .int .u8 0, .int .u8 0, .int .u8 0, .int .u8 0, .int .u8 0, .int .u8 0, .int .u8 0, .int .u8 0, .int .u8 0, .int .u8 0, .int .u8 0, .int .u8 0, .int .u8 0, .int .u8 0, .int .u8 0, .int .u8 0, .int .u8 0], agg := true, eqs := true }
noncomputable def ty33 : Ti := { desc := Tryz.t32.desc, size := 33, bytes := 48, zero := [.str [], .int .u8 0, .int .u8 0, .int .u8 0, .int .u8 0, .int .u8 0, .int .u8 0, .int .u8 0, .int .u8 0, .int .u8 0, .int .u8 0, .int .u8 0, .int .u8 0, .int .u8 0, .int .u8 0, .int .u8 0, .int .u8 0, .int .u8 0, .int .u8 0, .int .u8 0, .int .u8 0, .int .u8 0, .int .u8 0, .int .u8 0, .int .u8 0, .int .u8 0, .int .u8 0, .int .u8 0, .int .u8 0, .int .u8 0, .int .u8 0, .int .u8 0, .int .u8 0], agg := true, eqs := true }
noncomputable def ty34 : Ti := { desc := Tryz.t34.desc, size := 2, bytes := 24, zero := [.int .i64 0, .str []], agg := true, eqs := true }
noncomputable def ty35 : Ti := { desc := Tryz.t34.desc, size := 2, bytes := 24, zero := [.int .i64 0, .str []], agg := true, eqs := true }
noncomputable def ty36 : Ti := { desc := Tryz.t36.desc, size := 3, bytes := 40, zero := [.str [], .int .i64 0, .str []], agg := true, eqs := true }
noncomputable def ty37 : Ti := { desc := Tryz.t36.desc, size := 3, bytes := 40, zero := [.str [], .int .i64 0, .str []], agg := true, eqs := true }
noncomputable def ty38 : Ti := { desc := Tryz.t38.desc, size := 1, bytes := 8, zero := [.nilFunc], agg := false, eqs := false }
noncomputable def ty39 : Ti := { desc := Tryz.t39.desc, size := 1, bytes := 8, zero := [.nilFunc], agg := false, eqs := false }
noncomputable def ty40 : Ti := { desc := Tryz.t3.desc, size := 1, bytes := 8, zero := [.int .i64 0], agg := false, eqs := false }
noncomputable def ty42 : Ti := { desc := Tryz.t42.desc, size := 1, bytes := 8, zero := [.nilFunc], agg := false, eqs := false }
noncomputable def ty44 : Ti := { desc := Tryz.t44.desc, size := 1, bytes := 8, zero := [.nilFunc], agg := false, eqs := false }
noncomputable def ty45 : Ti := { desc := Tryz.t45.desc, size := 1, bytes := 8, zero := [.nilFunc], agg := false, eqs := false }
noncomputable def ty46 : Ti := { desc := Tryz.t46.desc, size := 1, bytes := 8, zero := [.nilptr], agg := false, eqs := false }
noncomputable def ty47 : Ti := { desc := Tryz.t47.desc, size := 1, bytes := 8, zero := [.nilptr], agg := false, eqs := false }
noncomputable def ty49 : Ti := { desc := Tryz.t49.desc, size := 1, bytes := 8, zero := [.nilFunc], agg := false, eqs := false }
noncomputable def ty50 : Ti := { desc := Tryz.t50.desc, size := 2, bytes := 32, zero := [.str [], .str []], agg := true, eqs := true }
noncomputable def ty51 : Ti := { desc := Tryz.t50.desc, size := 2, bytes := 32, zero := [.str [], .str []], agg := true, eqs := true }
noncomputable def ty52 : Ti := { desc := Tryz.t52.desc, size := 1, bytes := 24, zero := [.nilslice], agg := false, eqs := false }
noncomputable def ty53 : Ti := { desc := Tryz.t53.desc, size := 1, bytes := 24, zero := [.nilslice], agg := false, eqs := false }
noncomputable def ty55 : Ti := { desc := Tryz.t55.desc, size := 1, bytes := 8, zero := [.nilFunc], agg := false, eqs := false }
noncomputable def ty56 : Ti := { desc := Tryz.t56.desc, size := 1, bytes := 24, zero := [.nilslice], agg := false, eqs := false }
noncomputable def ty57 : Ti := { desc := Tryz.t57.desc, size := 5, bytes := 72, zero := [.str [], .str [], .bool false, .int .i64 0, .nilslice], agg := true, eqs := false }
noncomputable def ty58 : Ti := { desc := Tryz.t57.desc, size := 5, bytes := 72, zero := [.str [], .str [], .bool false, .int .i64 0, .nilslice], agg := true, eqs := false }
noncomputable def ty59 : Ti := { desc := Tryz.t59.desc, size := 1, bytes := 8, zero := [.nilFunc], agg := false, eqs := false }
noncomputable def ty60 : Ti := { desc := Tryz.t60.desc, size := 1, bytes := 24, zero := [.nilslice], agg := false, eqs := false }
noncomputable def ty61 : Ti := { desc := Tryz.t61.desc, size := 1, bytes := 24, zero := [.nilslice], agg := false, eqs := false }
noncomputable def ty62 : Ti := { desc := Tryz.t62.desc, size := 1, bytes := 8, zero := [.nilFunc], agg := false, eqs := false }
noncomputable def ty63 : Ti := { desc := Tryz.t63.desc, size := 1, bytes := 8, zero := [.nilFunc], agg := false, eqs := false }
noncomputable def ty64 : Ti := { desc := Tryz.t64.desc, size := 1, bytes := 8, zero := [.nilFunc], agg := false, eqs := false }
noncomputable def ty65 : Ti := { desc := Tryz.t65.desc, size := 1, bytes := 8, zero := [.nilFunc], agg := false, eqs := false }
noncomputable def ty67 : Ti := { desc := Tryz.t67.desc, size := 1, bytes := 8, zero := [.nilFunc], agg := false, eqs := false }
noncomputable def ty69 : Ti := { desc := Tryz.t69.desc, size := 1, bytes := 8, zero := [.nilFunc], agg := false, eqs := false }
noncomputable def ty71 : Ti := { desc := Tryz.t71.desc, size := 1, bytes := 8, zero := [.nilFunc], agg := false, eqs := false }
noncomputable def ty72 : Ti := { desc := Tryz.t72.desc, size := 1, bytes := 24, zero := [.nilslice], agg := false, eqs := false }
noncomputable def ty74 : Ti := { desc := Tryz.t74.desc, size := 1, bytes := 8, zero := [.nilFunc], agg := false, eqs := false }
noncomputable def ty76 : Ti := { desc := Tryz.t76.desc, size := 1, bytes := 8, zero := [.nilFunc], agg := false, eqs := false }
noncomputable def ty78 : Ti := { desc := Tryz.t78.desc, size := 1, bytes := 8, zero := [.nilFunc], agg := false, eqs := false }
noncomputable def ty79 : Ti := { desc := Tryz.t79.desc, size := 1, bytes := 8, zero := [.nilFunc], agg := false, eqs := false }
noncomputable def ty80 : Ti := { desc := Tryz.t80.desc, size := 1, bytes := 8, zero := [.nilptr], agg := false, eqs := false }
noncomputable def ty81 : Ti := { desc := Tryz.t81.desc, size := 1, bytes := 8, zero := [.nilFunc], agg := false, eqs := false }
noncomputable def ty83 : Ti := { desc := Tryz.t83.desc, size := 1, bytes := 8, zero := [.nilFunc], agg := false, eqs := false }
noncomputable def ty85 : Ti := { desc := Tryz.t85.desc, size := 1, bytes := 8, zero := [.nilFunc], agg := false, eqs := false }
noncomputable def ty86 : Ti := { desc := Tryz.t86.desc, size := 1, bytes := 8, zero := [.nilFunc], agg := false, eqs := false }
noncomputable def ty87 : Ti := { desc := Tryz.t87.desc, size := 1, bytes := 24, zero := [.nilslice], agg := false, eqs := false }
noncomputable def ty88 : Ti := { desc := Tryz.t88.desc, size := 1, bytes := 8, zero := [.nilFunc], agg := false, eqs := false }
noncomputable def ty89 : Ti := { desc := Tryz.t89.desc, size := 1, bytes := 8, zero := [.nilFunc], agg := false, eqs := false }
noncomputable def ty90 : Ti := { desc := Tryz.t90.desc, size := 4, bytes := 40, zero := [.bool false, .bool false, .str [], .str []], agg := true, eqs := true }
noncomputable def ty91 : Ti := { desc := Tryz.t90.desc, size := 4, bytes := 40, zero := [.bool false, .bool false, .str [], .str []], agg := true, eqs := true }
noncomputable def ty92 : Ti := { desc := Tryz.t92.desc, size := 1, bytes := 8, zero := [.nilFunc], agg := false, eqs := false }
noncomputable def ty93 : Ti := { desc := Tryz.t93.desc, size := 1, bytes := 24, zero := [.nilslice], agg := false, eqs := false }
noncomputable def ty94 : Ti := { desc := Tryz.t94.desc, size := 6, bytes := 96, zero := [.str [], .nilslice, .str [], .nilslice, .int .i64 0, .int .i64 0], agg := true, eqs := false }
noncomputable def ty95 : Ti := { desc := Tryz.t94.desc, size := 6, bytes := 96, zero := [.str [], .nilslice, .str [], .nilslice, .int .i64 0, .int .i64 0], agg := true, eqs := false }
noncomputable def ty97 : Ti := { desc := Tryz.t97.desc, size := 1, bytes := 8, zero := [.nilFunc], agg := false, eqs := false }
noncomputable def ty99 : Ti := { desc := Tryz.t99.desc, size := 1, bytes := 8, zero := [.nilFunc], agg := false, eqs := false }
noncomputable def ty100 : Ti := { desc := Tryz.t100.desc, size := 41, bytes := 160, zero := [.str [], .int .u8 0, .int .u8 0, .int .u8 0, .int .u8 0, .int .u8 0, .int .u8 0, .int .u8 0, .int .u8 0, .int .u8 0, .int .u8 0, .int .u8 0, .int .u8 0, .int .u8 0, .int .u8 0, .int .u8 0, .int .u8 0, .int .u8 0, .int .u8 0, .int .u8 0, .int .u8 0, .int .u8 0, .int .u8 0, .int .u8 0, .int .u8 0, .int .u8 0, .int .u8 0, .int .u8 0, .int .u8 0, .int .u8 0, .int .u8 0, .int .u8 0, .int .u8 0, .str [], .nilslice, .str [], .nilslice, .int .i64 0, .int .i64 0, .int .i64 0, .int .i64 0], agg := true, eqs := false }
noncomputable def ty101 : Ti := { desc := Tryz.t100.desc, size := 41, bytes := 160, zero := [.str [], .int .u8 0, .int .u8 0, .int .u8 0, .int .u8 0, .int .u8 0, .int .u8 0, .int .u8 0, .int .u8 0, .int .u8 0, .int .u8 0, .int .u8 0, .int .u8 0, .int .u8 0, .int .u8 0, .int .u8 0, .int .u8 0, .int .u8 0, .int .u8 0, .int .u8 0, .int .u8 0, .int .u8 0, .int .u8 0, .int .u8 0, .int .u8 0, .int .u8 0, .int .u8 0, .int .u8 0, .int .u8 0, .int .u8 0, .int .u8 0, .int .u8 0, .int .u8 0, .str [], .nilslice, .str [], .nilslice, .int .i64 0, .int .i64 0, .int .i64 0, .int .i64 0], agg := true, eqs := false }
noncomputable def ty102 : Ti := { desc := Tryz.t102.desc, size := 1, bytes := 24, zero := [.nilslice], agg := false, eqs := false }
noncomputable def ty103 : Ti := { desc := Tryz.t103.desc, size := 1, bytes := 8, zero := [.nilFunc], agg := false, eqs := false }
noncomputable def ty104 : Ti := { desc := Tryz.t104.desc, size := 8, bytes := 8, zero := repE [.int .u8 0] 8, agg := true, eqs := true }
noncomputable def ty105 : Ti := { desc := Tryz.t105.desc, size := 1, bytes := 8, zero := [.int .u64 0], agg := false, eqs := false }
noncomputable def ty106 : Ti := { desc := Tryz.t106.desc, size := 1, bytes := 8, zero := [.nilFunc], agg := false, eqs := false }
noncomputable def ty107 : Ti := { desc := Tryz.t106.desc, size := 1, bytes := 8, zero := [.nilFunc], agg := false, eqs := false }
noncomputable def ty108 : Ti := { desc := Tryz.t108.desc, size := 1, bytes := 8, zero := [.nilFunc], agg := false, eqs := false }
noncomputable def ty109 : Ti := { desc := Tryz.t109.desc, size := 1, bytes := 8, zero := [.nilmap], agg := false, eqs := false }
noncomputable def ty110 : Ti := { desc := Tryz.t110.desc, size := 3, bytes := 24, zero := [.nilmap, .nilmap, .nilmap], agg := true, eqs := false }
noncomputable def ty111 : Ti := { desc := Tryz.t110.desc, size := 3, bytes := 24, zero := [.nilmap, .nilmap, .nilmap], agg := true, eqs := false }
noncomputable def ty112 : Ti := { desc := Tryz.t112.desc, size := 1, bytes := 8, zero := [.nilFunc], agg := false, eqs := false }
noncomputable def ty113 : Ti := { desc := Tryz.t113.desc, size := 1, bytes := 8, zero := [.nilFunc], agg := false, eqs := false }
noncomputable def ty114 : Ti := { desc := Tryz.t114.desc, size := 1, bytes := 8, zero := [.nilFunc], agg := false, eqs := false }
noncomputable def ty115 : Ti := { desc := Tryz.t115.desc, size := 1, bytes := 8, zero := [.nilFunc], agg := false, eqs := false }
noncomputable def ty116 : Ti := { desc := Tryz.t116.desc, size := 1, bytes := 8, zero := [.nilFunc], agg := false, eqs := false }
noncomputable def ty118 : Ti := { desc := Tryz.t118.desc, size := 1, bytes := 8, zero := [.nilFunc], agg := false, eqs := false }
noncomputable def ty119 : Ti := { desc := Tryz.t119.desc, size := 1, bytes := 8, zero := [.nilFunc], agg := false, eqs := false }
noncomputable def ty120 : Ti := { desc := Tryz.t120.desc, size := 1, bytes := 8, zero := [.nilFunc], agg := false, eqs := false }
noncomputable def ty121 : Ti := { desc := Tryz.t121.desc, size := 1, bytes := 8, zero := [.nilmap], agg := false, eqs := false }
noncomputable def ty122 : Ti := { desc := Tryz.t122.desc, size := 1, bytes := 8, zero := [.nilmap], agg := false, eqs := false }
noncomputable def ty123 : Ti := { desc := Tryz.t123.desc, size := 3, bytes := 40, zero := [.nilslice, .nilmap, .nilmap], agg := true, eqs := false }
noncomputable def ty124 : Ti := { desc := Tryz.t123.desc, size := 3, bytes := 40, zero := [.nilslice, .nilmap, .nilmap], agg := true, eqs := false }
noncomputable def ty126 : Ti := { desc := Tryz.t126.desc, size := 1, bytes := 8, zero := [.nilFunc], agg := false, eqs := false }
noncomputable def ty127 : Ti := { desc := Tryz.t127.desc, size := 1, bytes := 24, zero := [.nilslice], agg := false, eqs := false }
noncomputable def ty128 : Ti := { desc := Tryz.t128.desc, size := 4, bytes := 56, zero := [.str [], .int .i64 0, .nilslice, .int .i64 0], agg := true, eqs := false }
noncomputable def ty129 : Ti := { desc := Tryz.t128.desc, size := 4, bytes := 56, zero := [.str [], .int .i64 0, .nilslice, .int .i64 0], agg := true, eqs := false }
noncomputable def ty130 : Ti := { desc := Tryz.t130.desc, size := 1, bytes := 8, zero := [.nilFunc], agg := false, eqs := false }
noncomputable def ty131 : Ti := { desc := Tryz.t131.desc, size := 1, bytes := 8, zero := [.nilmap], agg := false, eqs := false }
noncomputable def ty132 : Ti := { desc := Tryz.t132.desc, size := 1, bytes := 24, zero := [.nilslice], agg := false, eqs := false }
noncomputable def ty133 : Ti := { desc := Tryz.t133.desc, size := 3, bytes := 40, zero := [.nilptr, .nilmap, .nilslice], agg := true, eqs := false }
noncomputable def ty134 : Ti := { desc := Tryz.t133.desc, size := 3, bytes := 40, zero := [.nilptr, .nilmap, .nilslice], agg := true, eqs := false }
noncomputable def ty135 : Ti := { desc := Tryz.t135.desc, size := 1, bytes := 8, zero := [.nilFunc], agg := false, eqs := false }
noncomputable def ty136 : Ti := { desc := Tryz.t136.desc, size := 1, bytes := 8, zero := [.nilFunc], agg := false, eqs := false }
noncomputable def ty137 : Ti := { desc := Tryz.t137.desc, size := 1, bytes := 8, zero := [.nilFunc], agg := false, eqs := false }
noncomputable def ty139 : Ti := { desc := Tryz.t139.desc, size := 1, bytes := 8, zero := [.nilFunc], agg := false, eqs := false }
noncomputable def ty140 : Ti := { desc := Tryz.t140.desc, size := 1, bytes := 8, zero := [.nilFunc], agg := false, eqs := false }
noncomputable def ty141 : Ti := { desc := Tryz.t141.desc, size := 3, bytes := 40, zero := [.str [], .str [], .int .i64 0], agg := true, eqs := true }
noncomputable def ty142 : Ti := { desc := Tryz.t141.desc, size := 3, bytes := 40, zero := [.str [], .str [], .int .i64 0], agg := true, eqs := true }
noncomputable def ty143 : Ti := { desc := Tryz.t143.desc, size := 1, bytes := 8, zero := [.nilFunc], agg := false, eqs := false }
noncomputable def ty144 : Ti := { desc := Tryz.t144.desc, size := 1, bytes := 8, zero := [.nilFunc], agg := false, eqs := false }
noncomputable def ty146 : Ti := { desc := Tryz.t146.desc, size := 1, bytes := 8, zero := [.nilFunc], agg := false, eqs := false }
noncomputable def ty147 : Ti := { desc := Tryz.t147.desc, size := 1, bytes := 8, zero := [.nilFunc], agg := false, eqs := false }
noncomputable def ty148 : Ti := { desc := Tryz.t148.desc, size := 1, bytes := 8, zero := [.nilFunc], agg := false, eqs := false }
noncomputable def ty149 : Ti := { desc := Tryz.t149.desc, size := 1, bytes := 8, zero := [.nilFunc], agg := false, eqs := false }
noncomputable def ty151 : Ti := { desc := Tryz.t151.desc, size := 1, bytes := 8, zero := [.nilFunc], agg := false, eqs := false }
noncomputable def ty152 : Ti := { desc := Tryz.t152.desc, size := 1, bytes := 8, zero := [.nilFunc], agg := false, eqs := false }
noncomputable def ty153 : Ti := { desc := Tryz.t153.desc, size := 1, bytes := 8, zero := [.nilFunc], agg := false, eqs := false }
noncomputable def ty154 : Ti := { desc := Tryz.t154.desc, size := 1, bytes := 8, zero := [.nilFunc], agg := false, eqs := false }
noncomputable def ty155 : Ti := { desc := Tryz.t155.desc, size := 1, bytes := 8, zero := [.nilFunc], agg := false, eqs := false }
noncomputable def ty156 : Ti := { desc := Tryz.t156.desc, size := 1, bytes := 8, zero := [.int .u64 0], agg := false, eqs := false }
noncomputable def ty157 : Ti := { desc := Tryz.t157.desc, size := 1, bytes := 8, zero := [.nilFunc], agg := false, eqs := false }
noncomputable def ty158 : Ti := { desc := Tryz.t158.desc, size := 1, bytes := 8, zero := [.nilFunc], agg := false, eqs := false }
noncomputable def ty159 : Ti := { desc := Tryz.t159.desc, size := 1, bytes := 8, zero := [.nilFunc], agg := false, eqs := false }
noncomputable def ty160 : Ti := { desc := Tryz.t160.desc, size := 1, bytes := 8, zero := [.nilFunc], agg := false, eqs := false }
noncomputable def ty161 : Ti := { desc := Tryz.t161.desc, size := 1, bytes := 8, zero := [.nilFunc], agg := false, eqs := false }
noncomputable def ty162 : Ti := { desc := Tryz.t162.desc, size := 1, bytes := 24, zero := [.nilslice], agg := false, eqs := false }
noncomputable def ty163 : Ti := { desc := Tryz.t163.desc, size := 1, bytes := 8, zero := [.nilFunc], agg := false, eqs := false }
noncomputable def ty164 : Ti := { desc := Tryz.t164.desc, size := 34, bytes := 56, zero := [.str [], .bool false, .int .u8 0, .int .u8 0, .int .u8 0, .int .u8 0, .int .u8 0, .int .u8 0, .int .u8 0, .int .u8 0, .int .u8 0, .int .u8 0, .int .u8 0, .int .u8 0, .int .u8 0, .int .u8 0, .int .u8 0, .int .u8 0, .int .u8 0, .int .u8 0, .int .u8 0, .int .u8 0, .int .u8 0, .int .u8 0, .int .u8 0, .int .u8 0, .int .u8 0, .int .u8 0, .int .u8 0, .int .u8 0, .int .u8 0, .int .u8 0, .int .u8 0, .int .u8 0], agg := true, eqs := true }
noncomputable def ty165 : Ti := { desc := Tryz.t164.desc, size := 34, bytes := 56, zero := [.str [], .bool false, .int .u8 0, .int .u8 0, .int .u8 0, .int .u8 0, .int .u8 0, .int .u8 0, .int .u8 0, .int .u8 0, .int .u8 0, .int .u8 0, .int .u8 0, .int .u8 0, .int .u8 0, .int .u8 0, .int .u8 0, .int .u8 0, .int .u8 0, .int .u8 0, .int .u8 0, .int .u8 0, .int .u8 0, .int .u8 0, .int .u8 0, .int .u8 0, .int .u8 0, .int .u8 0, .int .u8 0, .int .u8 0, .int .u8 0, .int .u8 0, .int .u8 0, .int .u8 0], agg := true, eqs := true }
noncomputable def ty166 : Ti := { desc := Tryz.t166.desc, size := 1, bytes := 8, zero := [.nilFunc], agg := false, eqs := false }
noncomputable def ty167 : Ti := { desc := Tryz.t167.desc, size := 1, bytes := 8, zero := [.nilptr], agg := false, eqs := false }
noncomputable def ty168 : Ti := { desc := Tryz.t168.desc, size := 3, bytes := 40, zero := [.nilptr, .nilslice, .int .i64 0], agg := true, eqs := false }
noncomputable def ty169 : Ti := { desc := Tryz.t168.desc, size := 3, bytes := 40, zero := [.nilptr, .nilslice, .int .i64 0], agg := true, eqs := false }
noncomputable def ty170 : Ti := { desc := Tryz.t170.desc, size := 1, bytes := 8, zero := [.nilFunc], agg := false, eqs := false }
noncomputable def ty171 : Ti := { desc := Tryz.t171.desc, size := 1, bytes := 8, zero := [.nilptr], agg := false, eqs := false }
noncomputable def ty172 : Ti := { desc := Tryz.t172.desc, size := 6, bytes := 80, zero := [.str [], .int .i64 0, .nilslice, .int .i64 0, .str [], .bool false], agg := true, eqs := false }
noncomputable def ty173 : Ti := { desc := Tryz.t172.desc, size := 6, bytes := 80, zero := [.str [], .int .i64 0, .nilslice, .int .i64 0, .str [], .bool false], agg := true, eqs := false }
noncomputable def ty174 : Ti := { desc := Tryz.t174.desc, size := 1, bytes := 8, zero := [.nilFunc], agg := false, eqs := false }
noncomputable def ty175 : Ti := { desc := Tryz.t175.desc, size := 1, bytes := 8, zero := [.nilFunc], agg := false, eqs := false }
noncomputable def ty176 : Ti := { desc := Tryz.t176.desc, size := 1, bytes := 8, zero := [.nilptr], agg := false, eqs := false }
noncomputable def ty177 : Ti := { desc := Tryz.t177.desc, size := 1, bytes := 24, zero := [.nilslice], agg := false, eqs := false }
noncomputable def ty178 : Ti := { desc := Tryz.t178.desc, size := 1, bytes := 8, zero := [.nilFunc], agg := false, eqs := false }
noncomputable def ty179 : Ti := { desc := Tryz.t179.desc, size := 8, bytes := 128, zero := [.nilslice, .int .i64 0, .str [], .nilslice, .str [], .nilslice, .int .i64 0, .int .i64 0], agg := true, eqs := false }
noncomputable def ty180 : Ti := { desc := Tryz.t179.desc, size := 8, bytes := 128, zero := [.nilslice, .int .i64 0, .str [], .nilslice, .str [], .nilslice, .int .i64 0, .int .i64 0], agg := true, eqs := false }
noncomputable def ty181 : Ti := { desc := Tryz.t181.desc, size := 3, bytes := 32, zero := [.int .i64 0, .str [], .int .i64 0], agg := true, eqs := true }
noncomputable def ty182 : Ti := { desc := Tryz.t181.desc, size := 3, bytes := 32, zero := [.int .i64 0, .str [], .int .i64 0], agg := true, eqs := true }
noncomputable def ty183 : Ti := { desc := Tryz.t183.desc, size := 1, bytes := 8, zero := [.nilFunc], agg := false, eqs := false }
noncomputable def ty184 : Ti := { desc := Tryz.t184.desc, size := 1, bytes := 8, zero := [.nilFunc], agg := false, eqs := false }
noncomputable def ty185 : Ti := { desc := Tryz.t185.desc, size := 1, bytes := 8, zero := [.nilFunc], agg := false, eqs := false }
noncomputable def ty186 : Ti := { desc := Tryz.t186.desc, size := 1, bytes := 8, zero := [.nilFunc], agg := false, eqs := false }
noncomputable def ty187 : Ti := { desc := Tryz.t187.desc, size := 1, bytes := 8, zero := [.nilFunc], agg := false, eqs := false }
noncomputable def ty188 : Ti := { desc := Tryz.t188.desc, size := 1, bytes := 8, zero := [.nilFunc], agg := false, eqs := false }
noncomputable def ty189 : Ti := { desc := Tryz.t189.desc, size := 1, bytes := 8, zero := [.nilFunc], agg := false, eqs := false }
noncomputable def ty190 : Ti := { desc := Tryz.t190.desc, size := 1, bytes := 8, zero := [.nilFunc], agg := false, eqs := false }
noncomputable def ty192 : Ti := { desc := Tryz.t192.desc, size := 1, bytes := 8, zero := [.nilFunc], agg := false, eqs := false }
noncomputable def ty193 : Ti := { desc := Tryz.t193.desc, size := 1, bytes := 24, zero := [.nilslice], agg := false, eqs := false }
noncomputable def ty194 : Ti := { desc := Tryz.t194.desc, size := 1, bytes := 8, zero := [.nilFunc], agg := false, eqs := false }
noncomputable def ty196 : Ti := { desc := Tryz.t196.desc, size := 1, bytes := 8, zero := [.nilFunc], agg := false, eqs := false }
noncomputable def ty198 : Ti := { desc := Tryz.t198.desc, size := 1, bytes := 8, zero := [.nilFunc], agg := false, eqs := false }
noncomputable def ty200 : Ti := { desc := Tryz.t200.desc, size := 1, bytes := 8, zero := [.nilFunc], agg := false, eqs := false }
noncomputable def ty201 : Ti := { desc := Tryz.t201.desc, size := 1, bytes := 8, zero := [.nilFunc], agg := false, eqs := false }
noncomputable def ty202 : Ti := { desc := Tryz.t202.desc, size := 1, bytes := 8, zero := [.nilFunc], agg := false, eqs := false }
noncomputable def ty203 : Ti := { desc := Tryz.t203.desc, size := 1, bytes := 8, zero := [.nilFunc], agg := false, eqs := false }
noncomputable def ty204 : Ti := { desc := Tryz.t204.desc, size := 1, bytes := 8, zero := [.nilFunc], agg := false, eqs := false }
noncomputable def ty205 : Ti := { desc := Tryz.t205.desc, size := 1, bytes := 8, zero := [.nilFunc], agg := false, eqs := false }
noncomputable def ty206 : Ti := { desc := Tryz.t206.desc, size := 1, bytes := 8, zero := [.nilFunc], agg := false, eqs := false }
noncomputable def ty207 : Ti := { desc := Tryz.t207.desc, size := 1, bytes := 8, zero := [.nilFunc], agg := false, eqs := false }
noncomputable def ty208 : Ti := { desc := Tryz.t208.desc, size := 1, bytes := 8, zero := [.nilFunc], agg := false, eqs := false }
noncomputable def ty209 : Ti := { desc := Tryz.t209.desc, size := 1, bytes := 8, zero := [.nilFunc], agg := false, eqs := false }
noncomputable def ty210 : Ti := { desc := Tryz.t210.desc, size := 1, bytes := 8, zero := [.nilFunc], agg := false, eqs := false }
noncomputable def ty212 : Ti := { desc := Tryz.t212.desc, size := 1, bytes := 8, zero := [.nilFunc], agg := false, eqs := false }
noncomputable def ty213 : Ti := { desc := Tryz.t213.desc, size := 1, bytes := 8, zero := [.nilFunc], agg := false, eqs := false }
noncomputable def ty214 : Ti := { desc := Tryz.t214.desc, size := 1, bytes := 8, zero := [.nilFunc], agg := false, eqs := false }
noncomputable def ty215 : Ti := { desc := Tryz.t215.desc, size := 1, bytes := 8, zero := [.nilFunc], agg := false, eqs := false }
noncomputable def ty216 : Ti := { desc := Tryz.t216.desc, size := 1, bytes := 8, zero := [.nilFunc], agg := false, eqs := false }
noncomputable def ty217 : Ti := { desc := Tryz.t217.desc, size := 1, bytes := 8, zero := [.nilFunc], agg := false, eqs := false }
noncomputable def ty218 : Ti := { desc := Tryz.t218.desc, size := 4, bytes := 72, zero := [.str [], .int .i64 0, .nilslice, .nilslice], agg := true, eqs := false }
noncomputable def ty219 : Ti := { desc := Tryz.t218.desc, size := 4, bytes := 72, zero := [.str [], .int .i64 0, .nilslice, .nilslice], agg := true, eqs := false }
noncomputable def ty220 : Ti := { desc := Tryz.t220.desc, size := 1, bytes := 8, zero := [.nilptr], agg := false, eqs := false }
noncomputable def ty221 : Ti := { desc := Tryz.t221.desc, size := 1, bytes := 8, zero := [.nilFunc], agg := false, eqs := false }
noncomputable def ty222 : Ti := { desc := Tryz.t222.desc, size := 1, bytes := 8, zero := [.nilFunc], agg := false, eqs := false }
noncomputable def ty223 : Ti := { desc := Tryz.t223.desc, size := 1, bytes := 8, zero := [.nilFunc], agg := false, eqs := false }
noncomputable def ty224 : Ti := { desc := Tryz.t224.desc, size := 1, bytes := 8, zero := [.nilFunc], agg := false, eqs := false }
noncomputable def ty225 : Ti := { desc := Tryz.t225.desc, size := 1, bytes := 8, zero := [.nilFunc], agg := false, eqs := false }
noncomputable def ty226 : Ti := { desc := Tryz.t226.desc, size := 1, bytes := 16, zero := [.nilIface], agg := false, eqs := false }
noncomputable def ty227 : Ti := { desc := Tryz.t226.desc, size := 1, bytes := 16, zero := [.nilIface], agg := false, eqs := false }
noncomputable def ty229 : Ti := { desc := Tryz.t229.desc, size := 1, bytes := 8, zero := [.nilFunc], agg := false, eqs := false }
noncomputable def ty230 : Ti := { desc := Tryz.t230.desc, size := 1, bytes := 8, zero := [.nilFunc], agg := false, eqs := false }
noncomputable def ty231 : Ti := { desc := Tryz.t231.desc, size := 1, bytes := 8, zero := [.nilFunc], agg := false, eqs := false }
noncomputable def ty233 : Ti := { desc := Tryz.t233.desc, size := 2, bytes := 32, zero := [.str [], .str []], agg := true, eqs := true }
noncomputable def ty234 : Ti := { desc := Tryz.t233.desc, size := 2, bytes := 32, zero := [.str [], .str []], agg := true, eqs := true }
noncomputable def ty235 : Ti := { desc := Tryz.t235.desc, size := 1, bytes := 8, zero := [.nilFunc], agg := false, eqs := false }
noncomputable def ty236 : Ti := { desc := Tryz.t236.desc, size := 1, bytes := 8, zero := [.nilFunc], agg := false, eqs := false }
noncomputable def ty237 : Ti := { desc := Tryz.t3.desc, size := 1, bytes := 8, zero := [.int .i64 0], agg := false, eqs := false }
noncomputable def ty239 : Ti := { desc := Tryz.t239.desc, size := 1, bytes := 8, zero := [.nilFunc], agg := false, eqs := false }
noncomputable def ty240 : Ti := { desc := Tryz.t240.desc, size := 1, bytes := 8, zero := [.nilFunc], agg := false, eqs := false }
noncomputable def ty241 : Ti := { desc := Tryz.t241.desc, size := 1, bytes := 8, zero := [.nilFunc], agg := false, eqs := false }
noncomputable def ty242 : Ti := { desc := Tryz.t242.desc, size := 1, bytes := 8, zero := [.nilFunc], agg := false, eqs := false }
noncomputable def ty243 : Ti := { desc := Tryz.t243.desc, size := 1, bytes := 8, zero := [.nilFunc], agg := false, eqs := false }
noncomputable def ty244 : Ti := { desc := Tryz.t244.desc, size := 1, bytes := 4, zero := [.int .u32 0], agg := false, eqs := false }
noncomputable def ty245 : Ti := { desc := Tryz.t245.desc, size := 1, bytes := 8, zero := [.nilFunc], agg := false, eqs := false }
noncomputable def ty246 : Ti := { desc := Tryz.t246.desc, size := 1, bytes := 8, zero := [.nilFunc], agg := false, eqs := false }
noncomputable def ty247 : Ti := { desc := Tryz.t247.desc, size := 1, bytes := 8, zero := [.nilptr], agg := false, eqs := false }
noncomputable def ty248 : Ti := { desc := Tryz.t248.desc, size := 2, bytes := 32, zero := [.nilptr, .nilslice], agg := true, eqs := false }
noncomputable def ty249 : Ti := { desc := Tryz.t248.desc, size := 2, bytes := 32, zero := [.nilptr, .nilslice], agg := true, eqs := false }
noncomputable def ty250 : Ti := { desc := Tryz.t250.desc, size := 1, bytes := 8, zero := [.nilFunc], agg := false, eqs := false }
noncomputable def ty251 : Ti := { desc := Tryz.t251.desc, size := 1, bytes := 8, zero := [.nilFunc], agg := false, eqs := false }
noncomputable def ty252 : Ti := { desc := Tryz.t252.desc, size := 1, bytes := 8, zero := [.nilFunc], agg := false, eqs := false }
noncomputable def ty253 : Ti := { desc := Tryz.t253.desc, size := 1, bytes := 24, zero := [.nilslice], agg := false, eqs := false }
noncomputable def ty254 : Ti := { desc := Tryz.t254.desc, size := 2, bytes := 16, zero := [.int .i64 0, .int .i64 0], agg := true, eqs := true }
noncomputable def ty255 : Ti := { desc := Tryz.t254.desc, size := 2, bytes := 16, zero := [.int .i64 0, .int .i64 0], agg := true, eqs := true }
noncomputable def ty256 : Ti := { desc := Tryz.t256.desc, size := 1, bytes := 8, zero := [.nilFunc], agg := false, eqs := false }
noncomputable def ty258 : Ti := { desc := Tryz.t258.desc, size := 1, bytes := 8, zero := [.nilFunc], agg := false, eqs := false }
noncomputable def ty259 : Ti := { desc := Tryz.t259.desc, size := 1, bytes := 8, zero := [.nilFunc], agg := false, eqs := false }
noncomputable def ty260 : Ti := { desc := Tryz.t260.desc, size := 256, bytes := 256, zero := repE [.bool false] 256, agg := true, eqs := true }
noncomputable def ty261 : Ti := { desc := Tryz.t260.desc, size := 256, bytes := 256, zero := repE [.bool false] 256, agg := true, eqs := true }
noncomputable def ty263 : Ti := { desc := Tryz.t263.desc, size := 1, bytes := 8, zero := [.nilFunc], agg := false, eqs := false }
noncomputable def ty264 : Ti := { desc := Tryz.t264.desc, size := 1, bytes := 8, zero := [.nilFunc], agg := false, eqs := false }
noncomputable def ty265 : Ti := { desc := Tryz.t265.desc, size := 1, bytes := 8, zero := [.nilptr], agg := false, eqs := false }
noncomputable def ty266 : Ti := { desc := Tryz.t266.desc, size := 1, bytes := 8, zero := [.nilFunc], agg := false, eqs := false }
noncomputable def ty267 : Ti := { desc := Tryz.t267.desc, size := 1, bytes := 8, zero := [.nilptr], agg := false, eqs := false }
noncomputable def ty268 : Ti := { desc := Tryz.t268.desc, size := 4, bytes := 56, zero := [.str [], .int .i64 0, .nilslice, .int .i64 0], agg := true, eqs := false }
noncomputable def ty269 : Ti := { desc := Tryz.t268.desc, size := 4, bytes := 56, zero := [.str [], .int .i64 0, .nilslice, .int .i64 0], agg := true, eqs := false }
noncomputable def ty270 : Ti := { desc := Tryz.t270.desc, size := 1, bytes := 8, zero := [.nilFunc], agg := false, eqs := false }
noncomputable def ty271 : Ti := { desc := Tryz.t271.desc, size := 1, bytes := 8, zero := [.nilFunc], agg := false, eqs := false }
noncomputable def ty272 : Ti := { desc := Tryz.t272.desc, size := 1, bytes := 8, zero := [.nilFunc], agg := false, eqs := false }
noncomputable def ty273 : Ti := { desc := Tryz.t273.desc, size := 1, bytes := 8, zero := [.nilFunc], agg := false, eqs := false }
noncomputable def ty274 : Ti := { desc := Tryz.t274.desc, size := 1, bytes := 8, zero := [.nilFunc], agg := false, eqs := false }
noncomputable def ty275 : Ti := { desc := Tryz.t275.desc, size := 1, bytes := 24, zero := [.nilslice], agg := false, eqs := false }
noncomputable def ty277 : Ti := { desc := Tryz.t277.desc, size := 1, bytes := 8, zero := [.nilFunc], agg := false, eqs := false }
noncomputable def ty278 : Ti := { desc := Tryz.t278.desc, size := 1, bytes := 8, zero := [.nilFunc], agg := false, eqs := false }
noncomputable def ty279 : Ti := { desc := Tryz.t279.desc, size := 1, bytes := 8, zero := [.nilFunc], agg := false, eqs := false }
noncomputable def ty280 : Ti := { desc := Tryz.t280.desc, size := 1, bytes := 8, zero := [.nilFunc], agg := false, eqs := false }
noncomputable def ty281 : Ti := { desc := Tryz.t281.desc, size := 1, bytes := 8, zero := [.nilFunc], agg := false, eqs := false }
noncomputable def ty282 : Ti := { desc := Tryz.t282.desc, size := 1, bytes := 8, zero := [.nilFunc], agg := false, eqs := false }
noncomputable def ty283 : Ti := { desc := Tryz.t283.desc, size := 1, bytes := 8, zero := [.nilFunc], agg := false, eqs := false }
noncomputable def ty284 : Ti := { desc := Tryz.t105.desc, size := 1, bytes := 8, zero := [.int .u64 0], agg := false, eqs := false }
noncomputable def ty285 : Ti := { desc := Tryz.t285.desc, size := 1, bytes := 8, zero := [.nilFunc], agg := false, eqs := false }
noncomputable def ty286 : Ti := { desc := Tryz.t286.desc, size := 1, bytes := 8, zero := [.nilFunc], agg := false, eqs := false }
noncomputable def ty287 : Ti := { desc := Tryz.t287.desc, size := 1, bytes := 8, zero := [.nilFunc], agg := false, eqs := false }
noncomputable def ty288 : Ti := { desc := Tryz.t288.desc, size := 1, bytes := 8, zero := [.nilptr], agg := false, eqs := false }
noncomputable def ty289 : Ti := { desc := Tryz.t289.desc, size := 1, bytes := 8, zero := [.nilFunc], agg := false, eqs := false }
noncomputable def ty290 : Ti := { desc := Tryz.t290.desc, size := 1, bytes := 8, zero := [.nilptr], agg := false, eqs := false }
noncomputable def ty292 : Ti := { desc := Tryz.t292.desc, size := 1, bytes := 8, zero := [.nilFunc], agg := false, eqs := false }
noncomputable def ty293 : Ti := { desc := Tryz.t293.desc, size := 1, bytes := 8, zero := [.nilFunc], agg := false, eqs := false }
noncomputable def ty294 : Ti := { desc := Tryz.t294.desc, size := 1, bytes := 8, zero := [.nilFunc], agg := false, eqs := false }
noncomputable def ty295 : Ti := { desc := Tryz.t295.desc, size := 1, bytes := 8, zero := [.nilFunc], agg := false, eqs := false }
noncomputable def ty296 : Ti := { desc := Tryz.t296.desc, size := 1, bytes := 8, zero := [.nilFunc], agg := false, eqs := false }
noncomputable def ty297 : Ti := { desc := Tryz.t297.desc, size := 1, bytes := 8, zero := [.nilFunc], agg := false, eqs := false }
noncomputable def ty298 : Ti := { desc := Tryz.t298.desc, size := 1, bytes := 8, zero := [.nilFunc], agg := false, eqs := false }
noncomputable def ty299 : Ti := { desc := Tryz.t299.desc, size := 1, bytes := 8, zero := [.nilFunc], agg := false, eqs := false }
noncomputable def ty300 : Ti := { desc := Tryz.t3.desc, size := 1, bytes := 8, zero := [.int .i64 0], agg := false, eqs := false }
noncomputable def ty302 : Ti := { desc := Tryz.t302.desc, size := 1, bytes := 8, zero := [.nilFunc], agg := false, eqs := false }
noncomputable def ty303 : Ti := { desc := Tryz.t303.desc, size := 1, bytes := 8, zero := [.nilptr], agg := false, eqs := false }
noncomputable def ty304 : Ti := { desc := Tryz.t304.desc, size := 1, bytes := 8, zero := [.nilFunc], agg := false, eqs := false }
noncomputable def ty305 : Ti := { desc := Tryz.t305.desc, size := 1, bytes := 8, zero := [.nilFunc], agg := false, eqs := false }
noncomputable def ty306 : Ti := { desc := Tryz.t306.desc, size := 1, bytes := 8, zero := [.nilFunc], agg := false, eqs := false }
noncomputable def ty307 : Ti := { desc := Tryz.t307.desc, size := 1, bytes := 8, zero := [.nilFunc], agg := false, eqs := false }
noncomputable def ty308 : Ti := { desc := Tryz.t308.desc, size := 1, bytes := 8, zero := [.nilFunc], agg := false, eqs := false }
noncomputable def ty309 : Ti := { desc := Tryz.t309.desc, size := 1, bytes := 24, zero := [.nilslice], agg := false, eqs := false }
noncomputable def ty310 : Ti := { desc := Tryz.t310.desc, size := 3, bytes := 32, zero := [.bool false, .bool false, .nilslice], agg := true, eqs := false }
noncomputable def ty311 : Ti := { desc := Tryz.t310.desc, size := 3, bytes := 32, zero := [.bool false, .bool false, .nilslice], agg := true, eqs := false }
noncomputable def ty313 : Ti := { desc := Tryz.t313.desc, size := 1, bytes := 8, zero := [.nilFunc], agg := false, eqs := false }
noncomputable def ty315 : Ti := { desc := Tryz.t315.desc, size := 1, bytes := 8, zero := [.nilFunc], agg := false, eqs := false }
noncomputable def ty316 : Ti := { desc := Tryz.t316.desc, size := 2, bytes := 2, zero := [.int .u8 0, .int .u8 0], agg := true, eqs := true }
noncomputable def ty317 : Ti := { desc := Tryz.t317.desc, size := 1, bytes := 8, zero := [.nilFunc], agg := false, eqs := false }
noncomputable def ty318 : Ti := { desc := Tryz.t318.desc, size := 1, bytes := 8, zero := [.nilFunc], agg := false, eqs := false }
noncomputable def ty319 : Ti := { desc := Tryz.t319.desc, size := 1, bytes := 8, zero := [.nilptr], agg := false, eqs := false }
noncomputable def ty320 : Ti := { desc := Tryz.t320.desc, size := 1, bytes := 8, zero := [.nilFunc], agg := false, eqs := false }
noncomputable def ty321 : Ti := { desc := Tryz.t321.desc, size := 8, bytes := 32, zero := repE [.int .u32 0] 8, agg := true, eqs := true }
noncomputable def ty322 : Ti := { desc := Tryz.t321.desc, size := 8, bytes := 32, zero := repE [.int .u32 0] 8, agg := true, eqs := true }
noncomputable def ty323 : Ti := { desc := Tryz.t323.desc, size := 64, bytes := 64, zero := repE [.int .u8 0] 64, agg := true, eqs := true }
noncomputable def ty324 : Ti := { desc := Tryz.t324.desc, size := 1, bytes := 8, zero := [.nilFunc], agg := false, eqs := false }
noncomputable def ty325 : Ti := { desc := Tryz.t325.desc, size := 1, bytes := 8, zero := [.nilptr], agg := false, eqs := false }
noncomputable def ty326 : Ti := { desc := Tryz.t326.desc, size := 1, bytes := 8, zero := [.nilFunc], agg := false, eqs := false }
noncomputable def ty327 : Ti := { desc := Tryz.t327.desc, size := 1, bytes := 8, zero := [.nilFunc], agg := false, eqs := false }
noncomputable def ty329 : Ti := { desc := Tryz.t329.desc, size := 1, bytes := 8, zero := [.nilFunc], agg := false, eqs := false }
noncomputable def ty330 : Ti := { desc := Tryz.t330.desc, size := 1, bytes := 8, zero := [.nilFunc], agg := false, eqs := false }
noncomputable def ty331 : Ti := { desc := Tryz.t331.desc, size := 256, bytes := 256, zero := repE [.int .u8 0] 256, agg := true, eqs := true }
noncomputable def ty332 : Ti := { desc := Tryz.t332.desc, size := 2, bytes := 2, zero := [.int .u8 0, .int .u8 0], agg := true, eqs := true }
noncomputable def ty333 : Ti := { desc := Tryz.t332.desc, size := 2, bytes := 2, zero := [.int .u8 0, .int .u8 0], agg := true, eqs := true }
noncomputable def ty334 : Ti := { desc := Tryz.t334.desc, size := 32, bytes := 32, zero := repE [.int .u8 0] 32, agg := true, eqs := true }
noncomputable def ty335 : Ti := { desc := Tryz.t335.desc, size := 1, bytes := 8, zero := [.nilFunc], agg := false, eqs := false }
noncomputable def ty337 : Ti := { desc := Tryz.t337.desc, size := 1, bytes := 8, zero := [.nilFunc], agg := false, eqs := false }
noncomputable def ty338 : Ti := { desc := Tryz.t338.desc, size := 3, bytes := 48, zero := [.str [], .str [], .nilIface], agg := true, eqs := false }
noncomputable def ty339 : Ti := { desc := Tryz.t338.desc, size := 3, bytes := 48, zero := [.str [], .str [], .nilIface], agg := true, eqs := false }
noncomputable def ty340 : Ti := { desc := Tryz.t340.desc, size := 1, bytes := 8, zero := [.nilFunc], agg := false, eqs := false }
noncomputable def ty341 : Ti := { desc := Tryz.t341.desc, size := 24, bytes := 24, zero := repE [.int .u8 0] 24, agg := true, eqs := true }
noncomputable def ty342 : Ti := { desc := Tryz.t342.desc, size := 1, bytes := 8, zero := [.nilFunc], agg := false, eqs := false }
noncomputable def ty344 : Ti := { desc := Tryz.t344.desc, size := 1, bytes := 8, zero := [.nilFunc], agg := false, eqs := false }
noncomputable def ty345 : Ti := { desc := Tryz.t345.desc, size := 1, bytes := 8, zero := [.nilFunc], agg := false, eqs := false }
noncomputable def ty346 : Ti := { desc := Tryz.t346.desc, size := 1, bytes := 8, zero := [.nilptr], agg := false, eqs := false }
noncomputable def ty347 : Ti := { desc := Tryz.t347.desc, size := 64, bytes := 256, zero := repE [.int .u32 0] 64, agg := true, eqs := true }
noncomputable def ty348 : Ti := { desc := Tryz.t348.desc, size := 1, bytes := 8, zero := [.nilFunc], agg := false, eqs := false }
noncomputable def ty349 : Ti := { desc := Tryz.t349.desc, size := 1, bytes := 8, zero := [.nilFunc], agg := false, eqs := false }
noncomputable def ty350 : Ti := { desc := Tryz.t350.desc, size := 1, bytes := 8, zero := [.nilFunc], agg := false, eqs := false }
noncomputable def ty351 : Ti := { desc := Tryz.t351.desc, size := 1, bytes := 8, zero := [.nilptr], agg := false, eqs := false }
noncomputable def ty352 : Ti := { desc := Tryz.t352.desc, size := 1, bytes := 16, zero := [.str []], agg := true, eqs := true }
noncomputable def ty353 : Ti := { desc := Tryz.t352.desc, size := 1, bytes := 16, zero := [.str []], agg := true, eqs := true }
noncomputable def ty354 : Ti := { desc := Tryz.t354.desc, size := 1, bytes := 8, zero := [.nilFunc], agg := false, eqs := false }
noncomputable def ty355 : Ti := { desc := Tryz.t355.desc, size := 20, bytes := 160, zero := repE [.int .u64 0] 20, agg := true, eqs := true }
noncomputable def ty356 : Ti := { desc := Tryz.t356.desc, size := 65, bytes := 65, zero := repE [.int .u8 0] 65, agg := true, eqs := true }
noncomputable def ty357 : Ti := { desc := Tryz.t357.desc, size := 4, bytes := 40, zero := [.nilptr, .nilptr, .nilptr, .str []], agg := true, eqs := false }
noncomputable def ty358 : Ti := { desc := Tryz.t357.desc, size := 4, bytes := 40, zero := [.nilptr, .nilptr, .nilptr, .str []], agg := true, eqs := false }
noncomputable def ty359 : Ti := { desc := Tryz.t359.desc, size := 0, bytes := 0, zero := [], agg := true, eqs := true }
noncomputable def ty360 : Ti := { desc := Tryz.t360.desc, size := 0, bytes := 0, zero := [], agg := true, eqs := false }
noncomputable def ty361 : Ti := { desc := Tryz.t360.desc, size := 0, bytes := 0, zero := [], agg := true, eqs := false }
noncomputable def ty362 : Ti := { desc := Tryz.t362.desc, size := 1, bytes := 8, zero := [.nilFunc], agg := false, eqs := false }
noncomputable def ty363 : Ti := { desc := Tryz.t5.desc, size := 1, bytes := 1, zero := [.int .u8 0], agg := false, eqs := false }
noncomputable def ty364 : Ti := { desc := Tryz.t5.desc, size := 1, bytes := 1, zero := [.int .u8 0], agg := false, eqs := false }
noncomputable def ty365 : Ti := { desc := Tryz.t365.desc, size := 1, bytes := 8, zero := [.nilFunc], agg := false, eqs := false }
noncomputable def ty366 : Ti := { desc := Tryz.t21.desc, size := 1, bytes := 4, zero := [.int .i32 0], agg := false, eqs := false }
noncomputable def ty367 : Ti := { desc := Tryz.t21.desc, size := 1, bytes := 4, zero := [.int .i32 0], agg := false, eqs := false }
noncomputable def ty368 : Ti := { desc := Tryz.t368.desc, size := 11, bytes := 48, zero := [.int .u64 0, .int .u64 0, .int .u32 0, .int .u8 0, .int .u8 0, .int .u8 0, .int .u8 0, .nilFunc, .nilptr, .int .i32 0, .int .i32 0], agg := true, eqs := false }
noncomputable def ty369 : Ti := { desc := Tryz.t368.desc, size := 11, bytes := 48, zero := [.int .u64 0, .int .u64 0, .int .u32 0, .int .u8 0, .int .u8 0, .int .u8 0, .int .u8 0, .nilFunc, .nilptr, .int .i32 0, .int .i32 0], agg := true, eqs := false }
noncomputable def tyT : PT Ti := (.node none (.node (some ty1) (.node (some ty3) (.node (some ty7) (.node (some ty15) (.node (some ty31) (.node (some ty63) (.node (some ty127) (.node (some ty255) .nil .nil) .nil) (.node none (.node (some ty319) .nil .nil) .nil)) (.node (some ty95) (.node (some ty159) (.node (some ty287) .nil .nil) .nil) (.node (some ty223) (.node (some ty351) .nil .nil) .nil))) (.node (some ty47) (.node (some ty79) (.node (some ty143) (.node (some ty271) .nil .nil) .nil) (.node (some ty207) (.node (some ty335) .nil .nil) .nil)) (.node (some ty111) (.node (some ty175) (.node (some ty303) .nil .nil) .nil) (.node (some ty239) (.node (some ty367) .nil .nil) .nil)))) (.node (some ty23) (.node (some ty39) (.node (some ty71) (.node (some ty135) (.node (some ty263) .nil .nil) .nil) (.node none (.node (some ty327) .nil .nil) .nil)) (.node (some ty103) (.node (some ty167) (.node (some ty295) .nil .nil) .nil) (.node (some ty231) (.node (some ty359) .nil .nil) .nil))) (.node (some ty55) (.node (some ty87) (.node (some ty151) (.node (some ty279) .nil .nil) .nil) (.node (some ty215) .nil .nil)) (.node (some ty119) (.node (some ty183) (.node (some ty311) .nil .nil) .nil) (.node (some ty247) .nil .nil))))) (.node (some ty11) (.node (some ty19) (.node (some ty35) (.node (some ty67) (.node (some ty131) (.node (some ty259) .nil .nil) .nil) (.node none (.node (some ty323) .nil .nil) .nil)) (.node (some ty99) (.node (some ty163) .nil .nil) (.node (some ty227) (.node (some ty355) .nil .nil) .nil))) (.node (some ty51) (.node (some ty83) (.node (some ty147) (.node (some ty275) .nil .nil) .nil) (.node none (.node (some ty339) .nil .nil) .nil)) (.node (some ty115) (.node (some ty179) (.node (some ty307) .nil .nil) .nil) (.node (some ty243) .nil .nil)))) (.node (some ty27) (.node none (.node none (.node (some ty139) (.node (some ty267) .nil .nil) .nil) (.node (some ty203) (.node (some ty331) .nil .nil) .nil)) (.node (some ty107) (.node (some ty171) (.node (some ty299) .nil .nil) .nil) (.node (some ty235) (.node (some ty363) .nil .nil) .nil))) (.node (some ty59) (.node (some ty91) (.node (some ty155) (.node (some ty283) .nil .nil) .nil) (.node (some ty219) (.node (some ty347) .nil .nil) .nil)) (.node (some ty123) (.node (some ty187) (.node (some ty315) .nil .nil) .nil) (.node (some ty251) .nil .nil)))))) (.node (some ty5) (.node (some ty9) (.node (some ty17) (.node (some ty33) (.node (some ty65) (.node (some ty129) .nil .nil) (.node (some ty193) (.node (some ty321) .nil .nil) .nil)) (.node (some ty97) (.node (some ty161) (.node (some ty289) .nil .nil) .nil) (.node (some ty225) (.node (some ty353) .nil .nil) .nil))) (.node (some ty49) (.node (some ty81) (.node none (.node (some ty273) .nil .nil) .nil) (.node (some ty209) (.node (some ty337) .nil .nil) .nil)) (.node (some ty113) (.node (some ty177) (.node (some ty305) .nil .nil) .nil) (.node (some ty241) (.node (some ty369) .nil .nil) .nil)))) (.node (some ty25) (.node none (.node none (.node (some ty137) (.node (some ty265) .nil .nil) .nil) (.node (some ty201) (.node (some ty329) .nil .nil) .nil)) (.node (some ty105) (.node (some ty169) (.node (some ty297) .nil .nil) .nil) (.node (some ty233) (.node (some ty361) .nil .nil) .nil))) (.node (some ty57) (.node (some ty89) (.node (some ty153) (.node (some ty281) .nil .nil) .nil) (.node (some ty217) (.node (some ty345) .nil .nil) .nil)) (.node (some ty121) (.node (some ty185) (.node (some ty313) .nil .nil) .nil) (.node (some ty249) .nil .nil))))) (.node (some ty13) (.node (some ty21) (.node (some ty37) (.node (some ty69) (.node (some ty133) (.node (some ty261) .nil .nil) .nil) (.node none (.node (some ty325) .nil .nil) .nil)) (.node (some ty101) (.node (some ty165) (.node (some ty293) .nil .nil) .nil) (.node (some ty229) (.node (some ty357) .nil .nil) .nil))) (.node (some ty53) (.node (some ty85) (.node (some ty149) (.node (some ty277) .nil .nil) .nil) (.node (some ty213) (.node (some ty341) .nil .nil) .nil)) (.node none (.node (some ty181) (.node (some ty309) .nil .nil) .nil) (.node (some ty245) .nil .nil)))) (.node (some ty29) (.node (some ty45) (.node none (.node (some ty141) (.node (some ty269) .nil .nil) .nil) (.node (some ty205) (.node (some ty333) .nil .nil) .nil)) (.node (some ty109) (.node (some ty173) .nil .nil) (.node (some ty237) (.node (some ty365) .nil .nil) .nil))) (.node (some ty61) (.node (some ty93) (.node (some ty157) (.node (some ty285) .nil .nil) .nil) (.node (some ty221) (.node (some ty349) .nil .nil) .nil)) (.node none (.node (some ty189) (.node (some ty317) .nil .nil) .nil) (.node (some ty253) .nil .nil))))))) (.node (some ty2) (.node (some ty4) (.node (some ty8) (.node (some ty16) (.node (some ty32) (.node (some ty64) (.node (some ty128) (.node (some ty256) .nil .nil) .nil) (.node (some ty192) (.node (some ty320) .nil .nil) .nil)) (.node none (.node (some ty160) (.node (some ty288) .nil .nil) .nil) (.node (some ty224) (.node (some ty352) .nil .nil) .nil))) (.node none (.node (some ty80) (.node (some ty144) (.node (some ty272) .nil .nil) .nil) (.node (some ty208) .nil .nil)) (.node (some ty112) (.node (some ty176) (.node (some ty304) .nil .nil) .nil) (.node (some ty240) (.node (some ty368) .nil .nil) .nil)))) (.node (some ty24) (.node (some ty40) (.node (some ty72) (.node (some ty136) (.node (some ty264) .nil .nil) .nil) (.node (some ty200) .nil .nil)) (.node (some ty104) (.node (some ty168) (.node (some ty296) .nil .nil) .nil) (.node none (.node (some ty360) .nil .nil) .nil))) (.node (some ty56) (.node (some ty88) (.node (some ty152) (.node (some ty280) .nil .nil) .nil) (.node (some ty216) (.node (some ty344) .nil .nil) .nil)) (.node (some ty120) (.node (some ty184) .nil .nil) (.node (some ty248) .nil .nil))))) (.node (some ty12) (.node (some ty20) (.node (some ty36) (.node none (.node (some ty132) (.node (some ty260) .nil .nil) .nil) (.node (some ty196) (.node (some ty324) .nil .nil) .nil)) (.node (some ty100) (.node (some ty164) (.node (some ty292) .nil .nil) .nil) (.node none (.node (some ty356) .nil .nil) .nil))) (.node (some ty52) (.node none (.node (some ty148) .nil .nil) (.node (some ty212) (.node (some ty340) .nil .nil) .nil)) (.node (some ty116) (.node (some ty180) (.node (some ty308) .nil .nil) .nil) (.node (some ty244) .nil .nil)))) (.node (some ty28) (.node (some ty44) (.node (some ty76) (.node (some ty140) (.node (some ty268) .nil .nil) .nil) (.node (some ty204) (.node (some ty332) .nil .nil) .nil)) (.node (some ty108) (.node (some ty172) (.node (some ty300) .nil .nil) .nil) (.node (some ty236) (.node (some ty364) .nil .nil) .nil))) (.node (some ty60) (.node (some ty92) (.node (some ty156) (.node (some ty284) .nil .nil) .nil) (.node (some ty220) (.node (some ty348) .nil .nil) .nil)) (.node (some ty124) (.node (some ty188) (.node (some ty316) .nil .nil) .nil) (.node (some ty252) .nil .nil)))))) (.node (some ty6) (.node (some ty10) (.node (some ty18) (.node (some ty34) (.node none (.node (some ty130) (.node (some ty258) .nil .nil) .nil) (.node (some ty194) (.node (some ty322) .nil .nil) .nil)) (.node none (.node (some ty162) (.node (some ty290) .nil .nil) .nil) (.node (some ty226) (.node (some ty354) .nil .nil) .nil))) (.node (some ty50) (.node none (.node (some ty146) (.node (some ty274) .nil .nil) .nil) (.node (some ty210) (.node (some ty338) .nil .nil) .nil)) (.node (some ty114) (.node (some ty178) (.node (some ty306) .nil .nil) .nil) (.node (some ty242) .nil .nil)))) (.node (some ty26) (.node (some ty42) (.node (some ty74) (.node none (.node (some ty266) .nil .nil) .nil) (.node (some ty202) (.node (some ty330) .nil .nil) .nil)) (.node (some ty106) (.node (some ty170) (.node (some ty298) .nil .nil) .nil) (.node (some ty234) (.node (some ty362) .nil .nil) .nil))) (.node (some ty58) (.node (some ty90) (.node (some ty154) (.node (some ty282) .nil .nil) .nil) (.node (some ty218) (.node (some ty346) .nil .nil) .nil)) (.node (some ty122) (.node (some ty186) .nil .nil) (.node (some ty250) .nil .nil))))) (.node (some ty14) (.node (some ty22) (.node (some ty38) (.node none (.node (some ty134) .nil .nil) (.node (some ty198) (.node (some ty326) .nil .nil) .nil)) (.node (some ty102) (.node (some ty166) (.node (some ty294) .nil .nil) .nil) (.node (some ty230) (.node (some ty358) .nil .nil) .nil))) (.node none (.node (some ty86) (.node none (.node (some ty278) .nil .nil) .nil) (.node (some ty214) (.node (some ty342) .nil .nil) .nil)) (.node (some ty118) (.node (some ty182) (.node (some ty310) .nil .nil) .nil) (.node (some ty246) .nil .nil)))) (.node (some ty30) (.node (some ty46) (.node (some ty78) (.node (some ty142) (.node (some ty270) .nil .nil) .nil) (.node (some ty206) (.node (some ty334) .nil .nil) .nil)) (.node (some ty110) (.node (some ty174) (.node (some ty302) .nil .nil) .nil) (.node none (.node (some ty366) .nil .nil) .nil))) (.node (some ty62) (.node (some ty94) (.node (some ty158) (.node (some ty286) .nil .nil) .nil) (.node (some ty222) (.node (some ty350) .nil .nil) .nil)) (.node (some ty126) (.node (some ty190) (.node (some ty318) .nil .nil) .nil) (.node (some ty254) .nil .nil))))))))
noncomputable def fnT : PT Func := (.node none (.node none (.node (some Tryz.f3) (.node (some Tryz.f7) (.node (some Tryz.f15) (.node (some Tryz.f31) (.node none (.node (some Tryz.f127) .nil .nil) .nil) .nil) (.node (some Tryz.f47) (.node (some Tryz.f79) .nil .nil) (.node none (.node (some Tryz.f175) .nil .nil) (.node (some Tryz.f239) .nil .nil)))) (.node (some Tryz.f23) (.node (some Tryz.f39) .nil (.node (some Tryz.f103) (.node none (.node (some Tryz.f295) .nil .nil) .nil) .nil)) (.node none (.node (some Tryz.f87) .nil .nil) (.node (some Tryz.f119) .nil .nil)))) (.node (some Tryz.f11) (.node (some Tryz.f19) (.node (some Tryz.f35) (.node none (.node (some Tryz.f131) .nil .nil) .nil) .nil) (.node (some Tryz.f51) (.node (some Tryz.f83) .nil (.node (some Tryz.f211) .nil .nil)) (.node (some Tryz.f115) (.node (some Tryz.f179) .nil .nil) .nil))) (.node (some Tryz.f27) (.node (some Tryz.f43) (.node (some Tryz.f75) (.node (some Tryz.f139) .nil .nil) .nil) (.node (some Tryz.f107) (.node (some Tryz.f171) .nil .nil) .nil)) (.node (some Tryz.f59) (.node (some Tryz.f91) .nil .nil) (.node (some Tryz.f123) .nil .nil))))) (.node (some Tryz.f5) (.node (some Tryz.f9) (.node (some Tryz.f17) (.node (some Tryz.f33) (.node (some Tryz.f65) (.node (some Tryz.f129) .nil .nil) .nil) (.node (some Tryz.f97) (.node (some Tryz.f161) .nil .nil) (.node (some Tryz.f225) .nil .nil))) (.node (some Tryz.f49) (.node (some Tryz.f81) .nil .nil) .nil)) (.node (some Tryz.f25) (.node (some Tryz.f41) (.node (some Tryz.f73) (.node (some Tryz.f137) .nil .nil) .nil) (.node (some Tryz.f105) .nil .nil)) (.node (some Tryz.f57) (.node (some Tryz.f89) .nil .nil) (.node (some Tryz.f121) .nil .nil)))) (.node (some Tryz.f13) (.node (some Tryz.f21) (.node (some Tryz.f37) (.node (some Tryz.f69) .nil .nil) (.node none .nil (.node (some Tryz.f229) .nil .nil))) (.node (some Tryz.f53) (.node (some Tryz.f85) .nil .nil) (.node (some Tryz.f117) (.node (some Tryz.f181) .nil .nil) (.node (some Tryz.f245) .nil .nil)))) (.node (some Tryz.f29) (.node (some Tryz.f45) (.node (some Tryz.f77) (.node (some Tryz.f141) .nil .nil) .nil) .nil) (.node (some Tryz.f61) (.node (some Tryz.f93) .nil .nil) (.node (some Tryz.f125) (.node (some Tryz.f189) .nil .nil) .nil)))))) (.node none (.node (some Tryz.f4) (.node (some Tryz.f8) (.node (some Tryz.f16) (.node (some Tryz.f32) (.node (some Tryz.f64) (.node (some Tryz.f128) .nil .nil) .nil) (.node (some Tryz.f96) .nil .nil)) (.node (some Tryz.f48) (.node (some Tryz.f80) .nil .nil) (.node none .nil (.node (some Tryz.f240) .nil .nil)))) (.node (some Tryz.f24) (.node (some Tryz.f40) (.node (some Tryz.f72) .nil .nil) (.node none (.node none (.node (some Tryz.f296) .nil .nil) .nil) .nil)) (.node none (.node (some Tryz.f88) (.node none (.node (some Tryz.f280) .nil .nil) .nil) .nil) .nil))) (.node (some Tryz.f12) (.node (some Tryz.f20) (.node (some Tryz.f36) (.node (some Tryz.f68) (.node (some Tryz.f132) .nil .nil) .nil) (.node none .nil (.node (some Tryz.f228) .nil .nil))) (.node (some Tryz.f52) .nil (.node none (.node (some Tryz.f180) .nil .nil) (.node (some Tryz.f244) .nil .nil)))) (.node (some Tryz.f28) (.node (some Tryz.f44) (.node (some Tryz.f76) (.node (some Tryz.f140) .nil .nil) .nil) .nil) (.node none (.node (some Tryz.f92) .nil .nil) (.node (some Tryz.f124) (.node (some Tryz.f188) .nil .nil) .nil))))) (.node (some Tryz.f6) (.node (some Tryz.f10) (.node (some Tryz.f18) (.node (some Tryz.f34) (.node (some Tryz.f66) (.node (some Tryz.f130) .nil .nil) .nil) (.node (some Tryz.f98) (.node (some Tryz.f162) .nil .nil) .nil)) (.node none (.node (some Tryz.f82) (.node none (.node (some Tryz.f274) .nil .nil) .nil) .nil) (.node (some Tryz.f114) .nil (.node (some Tryz.f242) .nil .nil)))) (.node (some Tryz.f26) (.node (some Tryz.f42) (.node (some Tryz.f74) (.node (some Tryz.f138) .nil .nil) .nil) (.node (some Tryz.f106) .nil .nil)) (.node (some Tryz.f58) (.node (some Tryz.f90) .nil .nil) (.node none (.node (some Tryz.f186) .nil .nil) .nil)))) (.node (some Tryz.f14) (.node (some Tryz.f22) (.node (some Tryz.f38) .nil .nil) (.node (some Tryz.f54) (.node (some Tryz.f86) .nil .nil) (.node (some Tryz.f118) .nil (.node (some Tryz.f246) .nil .nil)))) (.node (some Tryz.f30) (.node (some Tryz.f46) (.node (some Tryz.f78) .nil .nil) (.node (some Tryz.f110) (.node (some Tryz.f174) .nil .nil) (.node (some Tryz.f238) .nil .nil))) (.node (some Tryz.f62) .nil (.node (some Tryz.f126) .nil .nil)))))))
noncomputable def extT : PT Nf := (.node none (.node none (.node none .nil (.node none .nil (.node none .nil (.node none .nil (.node none (.node (some cntNat) .nil .nil) .nil))))) (.node none .nil (.node none (.node none .nil (.node none (.node none (.node none (.node (some idxNat) .nil .nil) .nil) .nil) .nil)) .nil))) .nil)
noncomputable def row4 : AObj := .row [.slice 15 0 21 (.ex 21)] false 0 false
noncomputable def row5 : AObj := .row [.slice 16 0 4 (.ex 4)] false 0 false
noncomputable def row11 : AObj := .row [.int .u32 1116352408, .int .u32 1899447441, .int .u32 3049323471, .int .u32 3921009573, .int .u32 961987163, .int .u32 1508970993, .int .u32 2453635748, .int .u32 2870763221, .int .u32 3624381080, .int .u32 310598401, .int .u32 607225278, .int .u32 1426881987, .int .u32 1925078388, .int .u32 2162078206, .int .u32 2614888103, .int .u32 3248222580, .int .u32 3835390401, .int .u32 4022224774, .int .u32 264347078, .int .u32 604807628, .int .u32 770255983, .int .u32 1249150122, .int .u32 1555081692, .int .u32 1996064986, .int .u32 2554220882, .int .u32 2821834349, .int .u32 2952996808, .int .u32 3210313671, .int .u32 3336571891, .int .u32 3584528711, .int .u32 113926993, .int .u32 338241895, .int .u32 666307205, .int .u32 773529912, .int .u32 1294757372, .int .u32 1396182291, .int .u32 1695183700, .int .u32 1986661051, .int .u32 2177026350, .int .u32 2456956037, .int .u32 2730485921, .int .u32 2820302411, .int .u32 3259730800, .int .u32 3345764771, .int .u32 3516065817, .int .u32 3600352804, .int .u32 4094571909, .int .u32 275423344, .int .u32 430227734, .int .u32 506948616, .int .u32 659060556, .int .u32 883997877, .int .u32 958139571, .int .u32 1322822218, .int .u32 1537002063, .int .u32 1747873779, .int .u32 1955562222, .int .u32 2024104815, .int .u32 2227730452, .int .u32 2361852424, .int .u32 2428436474, .int .u32 2756734187, .int .u32 3204031479, .int .u32 3329325298] false 0 false
noncomputable def row15 : AObj := .row [.str [99, 97, 115, 101], .str [99, 104, 97, 110], .str [99, 111, 110, 115, 116], .str [100, 101, 102, 97, 117, 108, 116], .str [100, 101, 102, 101, 114], .str [101, 108, 115, 101], .str [102, 111, 114], .str [102, 117, 110, 99], .str [103, 111], .str [103, 111, 116, 111], .str [105, 102], .str [105, 109, 112, 111, 114, 116], .str [105, 110, 116, 101, 114, 102, 97, 99, 101], .str [109, 97, 112], .str [112, 97, 99, 107, 97, 103, 101], .str [114, 97, 110, 103, 101], .str [115, 101, 108, 101, 99, 116], .str [115, 116, 114, 117, 99, 116], .str [115, 119, 105, 116, 99, 104], .str [116, 121, 112, 101], .str [118, 97, 114]] false 0 false
noncomputable def row16 : AObj := .row [.str [98, 114, 101, 97, 107], .str [99, 111, 110, 116, 105, 110, 117, 101], .str [102, 97, 108, 108, 116, 104, 114, 111, 117, 103, 104], .str [114, 101, 116, 117, 114, 110]] false 0 false
noncomputable def heap0 : AHeap := { objs := (.node (some .dead) (.node (some .dead) (.node (some .dead) (.node (some .dead) (.node (some row15) .nil .nil) .nil) (.node (some row11) .nil .nil)) (.node (some row5) (.node (some .dead) .nil .nil) (.node (some .dead) .nil .nil))) (.node (some .dead) (.node (some row4) (.node (some .dead) (.node (some row16) .nil .nil) .nil) (.node (some .dead) .nil .nil)) (.node (some .dead) (.node (some .dead) .nil .nil) (.node (some .dead) .nil .nil)))), next := 17 }
noncomputable def tab : Tab := { glob := 15, ty := tyT, fn := fnT, nat := .nil, ext := extT, pur := .nil }
end Go.Proofs.YtmlipbpbbjkigaaGreatDoor
