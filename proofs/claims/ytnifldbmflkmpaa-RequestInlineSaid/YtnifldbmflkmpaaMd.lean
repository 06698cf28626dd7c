/-
  Parts, one behind the other: Ty, Sg, Cf, Ga, Gb, Gf, Gg, Gh, Gd, Ge, Ha, Ra, Gi, Hb.
-/
import Derived.Test.YtnifldbmflkmpaaProg
import Derived.Lib.Bytealg
import Derived.Lib.SlicesCompact
import Derived.Test.YtnifldbmflkmpaaMc
/-
  The types of the seat's program, as the evaluator asks for them. Written by program.
-/
namespace Go.Proofs.Ytnifldbmflkmpaa.Ty
open Go Ev
attribute [simp] Try.underlying0 Try.underlying1 Try.underlying2 Try.underlying3 Try.underlying4 Try.underlying5 Try.underlying6 Try.underlying7 Try.underlying8 Try.underlying9 Try.underlying10 Try.underlying11 Try.underlying12 Try.underlying13 Try.underlying14 Try.underlying15 Try.underlying16 Try.underlying17 Try.underlying18 Try.underlying19 Try.underlying20 Try.underlying21 Try.underlying22 Try.underlying23 Try.underlying24 Try.underlying25 Try.underlying26 Try.underlying27 Try.underlying28 Try.underlying29 Try.underlying30 Try.underlying31 Try.underlying32 Try.underlying33 Try.underlying34 Try.underlying35 Try.underlying36 Try.underlying37 Try.underlying38 Try.underlying39 Try.underlying40 Try.underlying41 Try.underlying42 Try.underlying43 Try.underlying44 Try.underlying45 Try.underlying46 Try.underlying47 Try.underlying48 Try.underlying49 Try.underlying50 Try.underlying51 Try.underlying52 Try.underlying53 Try.underlying54 Try.underlying55 Try.underlying56 Try.underlying57 Try.underlying58 Try.underlying59 Try.underlying60 Try.underlying61 Try.underlying62 Try.underlying63 Try.underlying64 Try.underlying65 Try.underlying66 Try.underlying67 Try.underlying68 Try.underlying69 Try.underlying70 Try.underlying71 Try.underlying72 Try.underlying73 Try.underlying74 Try.underlying75 Try.underlying76 Try.underlying77 Try.underlying78 Try.underlying79 Try.underlying80 Try.underlying81 Try.underlying82 Try.underlying83 Try.underlying84 Try.underlying85 Try.underlying86 Try.underlying87 Try.underlying88 Try.underlying89 Try.underlying90 Try.underlying91 Try.underlying92 Try.underlying93 Try.underlying94 Try.underlying95 Try.underlying96 Try.underlying97 Try.underlying98 Try.underlying99 Try.underlying100 Try.underlying101 Try.underlying102 Try.underlying103 Try.underlying104 Try.underlying105 Try.underlying106 Try.underlying107 Try.underlying108 Try.underlying109 Try.underlying110 Try.underlying111 Try.underlying112 Try.underlying113 Try.underlying114 Try.underlying115 Try.underlying116 Try.underlying117 Try.underlying118 Try.underlying119 Try.underlying120 Try.underlying121 Try.underlying122 Try.underlying123 Try.underlying124 Try.underlying125 Try.underlying126 Try.underlying127 Try.underlying128 Try.underlying129 Try.underlying130 Try.underlying131 Try.underlying132 Try.underlying133 Try.underlying134 Try.underlying135 Try.underlying136 Try.underlying137 Try.underlying138 Try.underlying139 Try.underlying140 Try.underlying141 Try.underlying142 Try.underlying143 Try.underlying144 Try.underlying145 Try.underlying146 Try.underlying147 Try.underlying148 Try.underlying149 Try.underlying150 Try.underlying151 Try.underlying152 Try.underlying153 Try.underlying154 Try.underlying155 Try.underlying156 Try.underlying157 Try.underlying158 Try.underlying159 Try.underlying160 Try.underlying161 Try.underlying162 Try.underlying163 Try.underlying164 Try.underlying165 Try.underlying166 Try.underlying167 Try.underlying168 Try.underlying169 Try.underlying170 Try.underlying171 Try.underlying172 Try.underlying173 Try.underlying174 Try.underlying175 Try.underlying176 Try.underlying177 Try.underlying178 Try.underlying179 Try.underlying180
@[simp] theorem s1 : tySize Try.prog 1 = some 1 := by kernel_rfl
@[simp] theorem b1 : tyBytes Try.prog 1 = some 8 := by kernel_rfl
@[simp] theorem a1 : tyAgg Try.prog 1 = false := by kernel_rfl
@[simp] theorem c1 : tyScalar Try.prog 1 = true := by kernel_rfl
@[simp] theorem z1 : tyZero Try.prog 1 = some (.nilFunc) := by kernel_rfl
@[simp] theorem s2 : tySize Try.prog 2 = some 1 := by kernel_rfl
@[simp] theorem b2 : tyBytes Try.prog 2 = some 8 := by kernel_rfl
@[simp] theorem a2 : tyAgg Try.prog 2 = false := by kernel_rfl
@[simp] theorem c2 : tyScalar Try.prog 2 = true := by kernel_rfl
@[simp] theorem z2 : tyZero Try.prog 2 = some (.int .i64 0) := by kernel_rfl
@[simp] theorem s3 : tySize Try.prog 3 = some 1 := by kernel_rfl
@[simp] theorem b3 : tyBytes Try.prog 3 = some 8 := by kernel_rfl
@[simp] theorem a3 : tyAgg Try.prog 3 = false := by kernel_rfl
@[simp] theorem c3 : tyScalar Try.prog 3 = true := by kernel_rfl
@[simp] theorem z3 : tyZero Try.prog 3 = some (.int .i64 0) := by kernel_rfl
@[simp] theorem s4 : tySize Try.prog 4 = some 1 := by kernel_rfl
@[simp] theorem b4 : tyBytes Try.prog 4 = some 1 := by kernel_rfl
@[simp] theorem a4 : tyAgg Try.prog 4 = false := by kernel_rfl
@[simp] theorem c4 : tyScalar Try.prog 4 = true := by kernel_rfl
@[simp] theorem z4 : tyZero Try.prog 4 = some (.bool false) := by kernel_rfl
@[simp] theorem s5 : tySize Try.prog 5 = some 1 := by kernel_rfl
@[simp] theorem b5 : tyBytes Try.prog 5 = some 1 := by kernel_rfl
@[simp] theorem a5 : tyAgg Try.prog 5 = false := by kernel_rfl
@[simp] theorem c5 : tyScalar Try.prog 5 = true := by kernel_rfl
@[simp] theorem z5 : tyZero Try.prog 5 = some (.int .u8 0) := by kernel_rfl
@[simp] theorem s6 : tySize Try.prog 6 = some 1 := by kernel_rfl
@[simp] theorem b6 : tyBytes Try.prog 6 = some 1 := by kernel_rfl
@[simp] theorem a6 : tyAgg Try.prog 6 = false := by kernel_rfl
@[simp] theorem c6 : tyScalar Try.prog 6 = true := by kernel_rfl
@[simp] theorem z6 : tyZero Try.prog 6 = some (.int .u8 0) := by kernel_rfl
@[simp] theorem s7 : tySize Try.prog 7 = some 4 := by kernel_rfl
@[simp] theorem b7 : tyBytes Try.prog 7 = some 24 := by kernel_rfl
@[simp] theorem a7 : tyAgg Try.prog 7 = true := by kernel_rfl
@[simp] theorem c7 : tyScalar Try.prog 7 = false := by kernel_rfl
@[simp] theorem z7 : tyZero Try.prog 7 = some (.agg [.int .i64 0, .int .i64 0, .bool false, .int .u8 0]) := by kernel_rfl
@[simp] theorem s8 : tySize Try.prog 8 = some 4 := by kernel_rfl
@[simp] theorem b8 : tyBytes Try.prog 8 = some 24 := by kernel_rfl
@[simp] theorem a8 : tyAgg Try.prog 8 = true := by kernel_rfl
@[simp] theorem c8 : tyScalar Try.prog 8 = false := by kernel_rfl
@[simp] theorem z8 : tyZero Try.prog 8 = some (.agg [.int .i64 0, .int .i64 0, .bool false, .int .u8 0]) := by kernel_rfl
@[simp] theorem s9 : tySize Try.prog 9 = some 1 := by kernel_rfl
@[simp] theorem b9 : tyBytes Try.prog 9 = some 16 := by kernel_rfl
@[simp] theorem a9 : tyAgg Try.prog 9 = false := by kernel_rfl
@[simp] theorem c9 : tyScalar Try.prog 9 = true := by kernel_rfl
@[simp] theorem z9 : tyZero Try.prog 9 = some (.str []) := by kernel_rfl
@[simp] theorem s10 : tySize Try.prog 10 = some 1 := by kernel_rfl
@[simp] theorem b10 : tyBytes Try.prog 10 = some 16 := by kernel_rfl
@[simp] theorem a10 : tyAgg Try.prog 10 = false := by kernel_rfl
@[simp] theorem c10 : tyScalar Try.prog 10 = true := by kernel_rfl
@[simp] theorem z10 : tyZero Try.prog 10 = some (.str []) := by kernel_rfl
@[simp] theorem s11 : tySize Try.prog 11 = some 1 := by kernel_rfl
@[simp] theorem b11 : tyBytes Try.prog 11 = some 16 := by kernel_rfl
@[simp] theorem a11 : tyAgg Try.prog 11 = false := by kernel_rfl
@[simp] theorem c11 : tyScalar Try.prog 11 = true := by kernel_rfl
@[simp] theorem z11 : tyZero Try.prog 11 = some (.str []) := by kernel_rfl
@[simp] theorem s12 : tySize Try.prog 12 = some 1 := by kernel_rfl
@[simp] theorem b12 : tyBytes Try.prog 12 = some 8 := by kernel_rfl
@[simp] theorem a12 : tyAgg Try.prog 12 = false := by kernel_rfl
@[simp] theorem c12 : tyScalar Try.prog 12 = true := by kernel_rfl
@[simp] theorem z12 : tyZero Try.prog 12 = some (.int .u64 0) := by kernel_rfl
@[simp] theorem s13 : tySize Try.prog 13 = some 2 := by kernel_rfl
@[simp] theorem b13 : tyBytes Try.prog 13 = some 24 := by kernel_rfl
@[simp] theorem a13 : tyAgg Try.prog 13 = true := by kernel_rfl
@[simp] theorem c13 : tyScalar Try.prog 13 = false := by kernel_rfl
@[simp] theorem z13 : tyZero Try.prog 13 = some (.agg [.str [], .int .u64 0]) := by kernel_rfl
@[simp] theorem s14 : tySize Try.prog 14 = some 2 := by kernel_rfl
@[simp] theorem b14 : tyBytes Try.prog 14 = some 24 := by kernel_rfl
@[simp] theorem a14 : tyAgg Try.prog 14 = true := by kernel_rfl
@[simp] theorem c14 : tyScalar Try.prog 14 = false := by kernel_rfl
@[simp] theorem z14 : tyZero Try.prog 14 = some (.agg [.str [], .int .u64 0]) := by kernel_rfl
@[simp] theorem s15 : tySize Try.prog 15 = some 1 := by kernel_rfl
@[simp] theorem b15 : tyBytes Try.prog 15 = some 8 := by kernel_rfl
@[simp] theorem a15 : tyAgg Try.prog 15 = false := by kernel_rfl
@[simp] theorem c15 : tyScalar Try.prog 15 = true := by kernel_rfl
@[simp] theorem z15 : tyZero Try.prog 15 = some (.nilp) := by kernel_rfl
@[simp] theorem s16 : tySize Try.prog 16 = some 1 := by kernel_rfl
@[simp] theorem b16 : tyBytes Try.prog 16 = some 8 := by kernel_rfl
@[simp] theorem a16 : tyAgg Try.prog 16 = false := by kernel_rfl
@[simp] theorem c16 : tyScalar Try.prog 16 = true := by kernel_rfl
@[simp] theorem z16 : tyZero Try.prog 16 = some (.nilp) := by kernel_rfl
@[simp] theorem s17 : tySize Try.prog 17 = some 1 := by kernel_rfl
@[simp] theorem b17 : tyBytes Try.prog 17 = some 8 := by kernel_rfl
@[simp] theorem a17 : tyAgg Try.prog 17 = false := by kernel_rfl
@[simp] theorem c17 : tyScalar Try.prog 17 = true := by kernel_rfl
@[simp] theorem z17 : tyZero Try.prog 17 = some (.nilp) := by kernel_rfl
@[simp] theorem s18 : tySize Try.prog 18 = some 1 := by kernel_rfl
@[simp] theorem b18 : tyBytes Try.prog 18 = some 8 := by kernel_rfl
@[simp] theorem a18 : tyAgg Try.prog 18 = true := by kernel_rfl
@[simp] theorem c18 : tyScalar Try.prog 18 = false := by kernel_rfl
@[simp] theorem z18 : tyZero Try.prog 18 = some (.agg [.nilp]) := by kernel_rfl
@[simp] theorem s19 : tySize Try.prog 19 = some 1 := by kernel_rfl
@[simp] theorem b19 : tyBytes Try.prog 19 = some 8 := by kernel_rfl
@[simp] theorem a19 : tyAgg Try.prog 19 = true := by kernel_rfl
@[simp] theorem c19 : tyScalar Try.prog 19 = false := by kernel_rfl
@[simp] theorem z19 : tyZero Try.prog 19 = some (.agg [.nilp]) := by kernel_rfl
@[simp] theorem s20 : tySize Try.prog 20 = some 1 := by kernel_rfl
@[simp] theorem b20 : tyBytes Try.prog 20 = some 16 := by kernel_rfl
@[simp] theorem a20 : tyAgg Try.prog 20 = false := by kernel_rfl
@[simp] theorem c20 : tyScalar Try.prog 20 = true := by kernel_rfl
@[simp] theorem z20 : tyZero Try.prog 20 = some (.nilIface) := by kernel_rfl
@[simp] theorem s21 : tySize Try.prog 21 = some 1 := by kernel_rfl
@[simp] theorem b21 : tyBytes Try.prog 21 = some 4 := by kernel_rfl
@[simp] theorem a21 : tyAgg Try.prog 21 = false := by kernel_rfl
@[simp] theorem c21 : tyScalar Try.prog 21 = true := by kernel_rfl
@[simp] theorem z21 : tyZero Try.prog 21 = some (.int .i32 0) := by kernel_rfl
@[simp] theorem s22 : tySize Try.prog 22 = some 1 := by kernel_rfl
@[simp] theorem b22 : tyBytes Try.prog 22 = some 24 := by kernel_rfl
@[simp] theorem a22 : tyAgg Try.prog 22 = false := by kernel_rfl
@[simp] theorem c22 : tyScalar Try.prog 22 = true := by kernel_rfl
@[simp] theorem z22 : tyZero Try.prog 22 = some (.nils) := by kernel_rfl
@[simp] theorem s23 : tySize Try.prog 23 = some 1 := by kernel_rfl
@[simp] theorem b23 : tyBytes Try.prog 23 = some 8 := by kernel_rfl
@[simp] theorem a23 : tyAgg Try.prog 23 = false := by kernel_rfl
@[simp] theorem c23 : tyScalar Try.prog 23 = true := by kernel_rfl
@[simp] theorem z23 : tyZero Try.prog 23 = some (.nilFunc) := by kernel_rfl
@[simp] theorem s24 : tySize Try.prog 24 = some 1 := by kernel_rfl
@[simp] theorem b24 : tyBytes Try.prog 24 = some 24 := by kernel_rfl
@[simp] theorem a24 : tyAgg Try.prog 24 = false := by kernel_rfl
@[simp] theorem c24 : tyScalar Try.prog 24 = true := by kernel_rfl
@[simp] theorem z24 : tyZero Try.prog 24 = some (.nils) := by kernel_rfl
@[simp] theorem s25 : tySize Try.prog 25 = some 1 := by kernel_rfl
@[simp] theorem b25 : tyBytes Try.prog 25 = some 8 := by kernel_rfl
@[simp] theorem a25 : tyAgg Try.prog 25 = false := by kernel_rfl
@[simp] theorem c25 : tyScalar Try.prog 25 = true := by kernel_rfl
@[simp] theorem z25 : tyZero Try.prog 25 = some (.nilFunc) := by kernel_rfl
@[simp] theorem s26 : tySize Try.prog 26 = some 1 := by kernel_rfl
@[simp] theorem b26 : tyBytes Try.prog 26 = some 8 := by kernel_rfl
@[simp] theorem a26 : tyAgg Try.prog 26 = false := by kernel_rfl
@[simp] theorem c26 : tyScalar Try.prog 26 = true := by kernel_rfl
@[simp] theorem z26 : tyZero Try.prog 26 = some (.int .i64 0) := by kernel_rfl
@[simp] theorem s28 : tySize Try.prog 28 = some 1 := by kernel_rfl
@[simp] theorem b28 : tyBytes Try.prog 28 = some 8 := by kernel_rfl
@[simp] theorem a28 : tyAgg Try.prog 28 = false := by kernel_rfl
@[simp] theorem c28 : tyScalar Try.prog 28 = true := by kernel_rfl
@[simp] theorem z28 : tyZero Try.prog 28 = some (.nilFunc) := by kernel_rfl
@[simp] theorem s30 : tySize Try.prog 30 = some 1 := by kernel_rfl
@[simp] theorem b30 : tyBytes Try.prog 30 = some 8 := by kernel_rfl
@[simp] theorem a30 : tyAgg Try.prog 30 = false := by kernel_rfl
@[simp] theorem c30 : tyScalar Try.prog 30 = true := by kernel_rfl
@[simp] theorem z30 : tyZero Try.prog 30 = some (.nilFunc) := by kernel_rfl
@[simp] theorem s31 : tySize Try.prog 31 = some 1 := by kernel_rfl
@[simp] theorem b31 : tyBytes Try.prog 31 = some 8 := by kernel_rfl
@[simp] theorem a31 : tyAgg Try.prog 31 = false := by kernel_rfl
@[simp] theorem c31 : tyScalar Try.prog 31 = true := by kernel_rfl
@[simp] theorem z31 : tyZero Try.prog 31 = some (.nilFunc) := by kernel_rfl
@[simp] theorem s32 : tySize Try.prog 32 = some 1 := by kernel_rfl
@[simp] theorem b32 : tyBytes Try.prog 32 = some 8 := by kernel_rfl
@[simp] theorem a32 : tyAgg Try.prog 32 = false := by kernel_rfl
@[simp] theorem c32 : tyScalar Try.prog 32 = true := by kernel_rfl
@[simp] theorem z32 : tyZero Try.prog 32 = some (.nilFunc) := by kernel_rfl
@[simp] theorem s33 : tySize Try.prog 33 = some 1 := by kernel_rfl
@[simp] theorem b33 : tyBytes Try.prog 33 = some 8 := by kernel_rfl
@[simp] theorem a33 : tyAgg Try.prog 33 = false := by kernel_rfl
@[simp] theorem c33 : tyScalar Try.prog 33 = true := by kernel_rfl
@[simp] theorem z33 : tyZero Try.prog 33 = some (.nilFunc) := by kernel_rfl
@[simp] theorem s34 : tySize Try.prog 34 = some 1 := by kernel_rfl
@[simp] theorem b34 : tyBytes Try.prog 34 = some 8 := by kernel_rfl
@[simp] theorem a34 : tyAgg Try.prog 34 = false := by kernel_rfl
@[simp] theorem c34 : tyScalar Try.prog 34 = true := by kernel_rfl
@[simp] theorem z34 : tyZero Try.prog 34 = some (.nilFunc) := by kernel_rfl
@[simp] theorem s35 : tySize Try.prog 35 = some 1 := by kernel_rfl
@[simp] theorem b35 : tyBytes Try.prog 35 = some 8 := by kernel_rfl
@[simp] theorem a35 : tyAgg Try.prog 35 = false := by kernel_rfl
@[simp] theorem c35 : tyScalar Try.prog 35 = true := by kernel_rfl
@[simp] theorem z35 : tyZero Try.prog 35 = some (.nilFunc) := by kernel_rfl
@[simp] theorem s36 : tySize Try.prog 36 = some 1 := by kernel_rfl
@[simp] theorem b36 : tyBytes Try.prog 36 = some 8 := by kernel_rfl
@[simp] theorem a36 : tyAgg Try.prog 36 = false := by kernel_rfl
@[simp] theorem c36 : tyScalar Try.prog 36 = true := by kernel_rfl
@[simp] theorem z36 : tyZero Try.prog 36 = some (.nilFunc) := by kernel_rfl
@[simp] theorem s37 : tySize Try.prog 37 = some 1 := by kernel_rfl
@[simp] theorem b37 : tyBytes Try.prog 37 = some 8 := by kernel_rfl
@[simp] theorem a37 : tyAgg Try.prog 37 = false := by kernel_rfl
@[simp] theorem c37 : tyScalar Try.prog 37 = true := by kernel_rfl
@[simp] theorem z37 : tyZero Try.prog 37 = some (.nilFunc) := by kernel_rfl
@[simp] theorem s38 : tySize Try.prog 38 = some 1 := by kernel_rfl
@[simp] theorem b38 : tyBytes Try.prog 38 = some 24 := by kernel_rfl
@[simp] theorem a38 : tyAgg Try.prog 38 = false := by kernel_rfl
@[simp] theorem c38 : tyScalar Try.prog 38 = true := by kernel_rfl
@[simp] theorem z38 : tyZero Try.prog 38 = some (.nils) := by kernel_rfl
@[simp] theorem s39 : tySize Try.prog 39 = some 4 := by kernel_rfl
@[simp] theorem b39 : tyBytes Try.prog 39 = some 56 := by kernel_rfl
@[simp] theorem a39 : tyAgg Try.prog 39 = true := by kernel_rfl
@[simp] theorem c39 : tyScalar Try.prog 39 = false := by kernel_rfl
@[simp] theorem z39 : tyZero Try.prog 39 = some (.agg [.int .i64 0, .str [], .int .i64 0, .nils]) := by kernel_rfl
@[simp] theorem s40 : tySize Try.prog 40 = some 4 := by kernel_rfl
@[simp] theorem b40 : tyBytes Try.prog 40 = some 56 := by kernel_rfl
@[simp] theorem a40 : tyAgg Try.prog 40 = true := by kernel_rfl
@[simp] theorem c40 : tyScalar Try.prog 40 = false := by kernel_rfl
@[simp] theorem z40 : tyZero Try.prog 40 = some (.agg [.int .i64 0, .str [], .int .i64 0, .nils]) := by kernel_rfl
@[simp] theorem s41 : tySize Try.prog 41 = some 1 := by kernel_rfl
@[simp] theorem b41 : tyBytes Try.prog 41 = some 8 := by kernel_rfl
@[simp] theorem a41 : tyAgg Try.prog 41 = false := by kernel_rfl
@[simp] theorem c41 : tyScalar Try.prog 41 = true := by kernel_rfl
@[simp] theorem z41 : tyZero Try.prog 41 = some (.nilFunc) := by kernel_rfl
@[simp] theorem s42 : tySize Try.prog 42 = some 1 := by kernel_rfl
@[simp] theorem b42 : tyBytes Try.prog 42 = some 8 := by kernel_rfl
@[simp] theorem a42 : tyAgg Try.prog 42 = false := by kernel_rfl
@[simp] theorem c42 : tyScalar Try.prog 42 = true := by kernel_rfl
@[simp] theorem z42 : tyZero Try.prog 42 = some (.nilFunc) := by kernel_rfl
@[simp] theorem s43 : tySize Try.prog 43 = some 1 := by kernel_rfl
@[simp] theorem b43 : tyBytes Try.prog 43 = some 24 := by kernel_rfl
@[simp] theorem a43 : tyAgg Try.prog 43 = false := by kernel_rfl
@[simp] theorem c43 : tyScalar Try.prog 43 = true := by kernel_rfl
@[simp] theorem z43 : tyZero Try.prog 43 = some (.nils) := by kernel_rfl
@[simp] theorem s44 : tySize Try.prog 44 = some 1 := by kernel_rfl
@[simp] theorem b44 : tyBytes Try.prog 44 = some 8 := by kernel_rfl
@[simp] theorem a44 : tyAgg Try.prog 44 = false := by kernel_rfl
@[simp] theorem c44 : tyScalar Try.prog 44 = true := by kernel_rfl
@[simp] theorem z44 : tyZero Try.prog 44 = some (.nilFunc) := by kernel_rfl
@[simp] theorem s45 : tySize Try.prog 45 = some 1 := by kernel_rfl
@[simp] theorem b45 : tyBytes Try.prog 45 = some 8 := by kernel_rfl
@[simp] theorem a45 : tyAgg Try.prog 45 = false := by kernel_rfl
@[simp] theorem c45 : tyScalar Try.prog 45 = true := by kernel_rfl
@[simp] theorem z45 : tyZero Try.prog 45 = some (.nilFunc) := by kernel_rfl
@[simp] theorem s46 : tySize Try.prog 46 = some 1 := by kernel_rfl
@[simp] theorem b46 : tyBytes Try.prog 46 = some 8 := by kernel_rfl
@[simp] theorem a46 : tyAgg Try.prog 46 = false := by kernel_rfl
@[simp] theorem c46 : tyScalar Try.prog 46 = true := by kernel_rfl
@[simp] theorem z46 : tyZero Try.prog 46 = some (.nilFunc) := by kernel_rfl
@[simp] theorem s47 : tySize Try.prog 47 = some 1 := by kernel_rfl
@[simp] theorem b47 : tyBytes Try.prog 47 = some 8 := by kernel_rfl
@[simp] theorem a47 : tyAgg Try.prog 47 = false := by kernel_rfl
@[simp] theorem c47 : tyScalar Try.prog 47 = true := by kernel_rfl
@[simp] theorem z47 : tyZero Try.prog 47 = some (.nilFunc) := by kernel_rfl
@[simp] theorem s48 : tySize Try.prog 48 = some 1 := by kernel_rfl
@[simp] theorem b48 : tyBytes Try.prog 48 = some 8 := by kernel_rfl
@[simp] theorem a48 : tyAgg Try.prog 48 = false := by kernel_rfl
@[simp] theorem c48 : tyScalar Try.prog 48 = true := by kernel_rfl
@[simp] theorem z48 : tyZero Try.prog 48 = some (.nilFunc) := by kernel_rfl
@[simp] theorem s49 : tySize Try.prog 49 = some 1 := by kernel_rfl
@[simp] theorem b49 : tyBytes Try.prog 49 = some 8 := by kernel_rfl
@[simp] theorem a49 : tyAgg Try.prog 49 = false := by kernel_rfl
@[simp] theorem c49 : tyScalar Try.prog 49 = true := by kernel_rfl
@[simp] theorem z49 : tyZero Try.prog 49 = some (.nilFunc) := by kernel_rfl
@[simp] theorem s50 : tySize Try.prog 50 = some 1 := by kernel_rfl
@[simp] theorem b50 : tyBytes Try.prog 50 = some 8 := by kernel_rfl
@[simp] theorem a50 : tyAgg Try.prog 50 = false := by kernel_rfl
@[simp] theorem c50 : tyScalar Try.prog 50 = true := by kernel_rfl
@[simp] theorem z50 : tyZero Try.prog 50 = some (.nilFunc) := by kernel_rfl
@[simp] theorem s51 : tySize Try.prog 51 = some 1 := by kernel_rfl
@[simp] theorem b51 : tyBytes Try.prog 51 = some 8 := by kernel_rfl
@[simp] theorem a51 : tyAgg Try.prog 51 = false := by kernel_rfl
@[simp] theorem c51 : tyScalar Try.prog 51 = true := by kernel_rfl
@[simp] theorem z51 : tyZero Try.prog 51 = some (.nilFunc) := by kernel_rfl
@[simp] theorem s52 : tySize Try.prog 52 = some 1 := by kernel_rfl
@[simp] theorem b52 : tyBytes Try.prog 52 = some 8 := by kernel_rfl
@[simp] theorem a52 : tyAgg Try.prog 52 = false := by kernel_rfl
@[simp] theorem c52 : tyScalar Try.prog 52 = true := by kernel_rfl
@[simp] theorem z52 : tyZero Try.prog 52 = some (.nilFunc) := by kernel_rfl
@[simp] theorem s53 : tySize Try.prog 53 = some 1 := by kernel_rfl
@[simp] theorem b53 : tyBytes Try.prog 53 = some 8 := by kernel_rfl
@[simp] theorem a53 : tyAgg Try.prog 53 = false := by kernel_rfl
@[simp] theorem c53 : tyScalar Try.prog 53 = true := by kernel_rfl
@[simp] theorem z53 : tyZero Try.prog 53 = some (.nilFunc) := by kernel_rfl
@[simp] theorem s54 : tySize Try.prog 54 = some 1 := by kernel_rfl
@[simp] theorem b54 : tyBytes Try.prog 54 = some 8 := by kernel_rfl
@[simp] theorem a54 : tyAgg Try.prog 54 = false := by kernel_rfl
@[simp] theorem c54 : tyScalar Try.prog 54 = true := by kernel_rfl
@[simp] theorem z54 : tyZero Try.prog 54 = some (.nilFunc) := by kernel_rfl
@[simp] theorem s55 : tySize Try.prog 55 = some 1 := by kernel_rfl
@[simp] theorem b55 : tyBytes Try.prog 55 = some 8 := by kernel_rfl
@[simp] theorem a55 : tyAgg Try.prog 55 = false := by kernel_rfl
@[simp] theorem c55 : tyScalar Try.prog 55 = true := by kernel_rfl
@[simp] theorem z55 : tyZero Try.prog 55 = some (.nilFunc) := by kernel_rfl
@[simp] theorem s56 : tySize Try.prog 56 = some 1 := by kernel_rfl
@[simp] theorem b56 : tyBytes Try.prog 56 = some 8 := by kernel_rfl
@[simp] theorem a56 : tyAgg Try.prog 56 = false := by kernel_rfl
@[simp] theorem c56 : tyScalar Try.prog 56 = true := by kernel_rfl
@[simp] theorem z56 : tyZero Try.prog 56 = some (.nilp) := by kernel_rfl
@[simp] theorem s57 : tySize Try.prog 57 = some 1 := by kernel_rfl
@[simp] theorem b57 : tyBytes Try.prog 57 = some 8 := by kernel_rfl
@[simp] theorem a57 : tyAgg Try.prog 57 = false := by kernel_rfl
@[simp] theorem c57 : tyScalar Try.prog 57 = true := by kernel_rfl
@[simp] theorem z57 : tyZero Try.prog 57 = some (.nilFunc) := by kernel_rfl
@[simp] theorem s58 : tySize Try.prog 58 = some 1 := by kernel_rfl
@[simp] theorem b58 : tyBytes Try.prog 58 = some 8 := by kernel_rfl
@[simp] theorem a58 : tyAgg Try.prog 58 = false := by kernel_rfl
@[simp] theorem c58 : tyScalar Try.prog 58 = true := by kernel_rfl
@[simp] theorem z58 : tyZero Try.prog 58 = some (.nilFunc) := by kernel_rfl
@[simp] theorem s59 : tySize Try.prog 59 = some 1 := by kernel_rfl
@[simp] theorem b59 : tyBytes Try.prog 59 = some 8 := by kernel_rfl
@[simp] theorem a59 : tyAgg Try.prog 59 = false := by kernel_rfl
@[simp] theorem c59 : tyScalar Try.prog 59 = true := by kernel_rfl
@[simp] theorem z59 : tyZero Try.prog 59 = some (.nilFunc) := by kernel_rfl
@[simp] theorem s61 : tySize Try.prog 61 = some 1 := by kernel_rfl
@[simp] theorem b61 : tyBytes Try.prog 61 = some 8 := by kernel_rfl
@[simp] theorem a61 : tyAgg Try.prog 61 = false := by kernel_rfl
@[simp] theorem c61 : tyScalar Try.prog 61 = true := by kernel_rfl
@[simp] theorem z61 : tyZero Try.prog 61 = some (.nilFunc) := by kernel_rfl
@[simp] theorem s62 : tySize Try.prog 62 = some 1 := by kernel_rfl
@[simp] theorem b62 : tyBytes Try.prog 62 = some 8 := by kernel_rfl
@[simp] theorem a62 : tyAgg Try.prog 62 = false := by kernel_rfl
@[simp] theorem c62 : tyScalar Try.prog 62 = true := by kernel_rfl
@[simp] theorem z62 : tyZero Try.prog 62 = some (.nilFunc) := by kernel_rfl
@[simp] theorem s63 : tySize Try.prog 63 = some 1 := by kernel_rfl
@[simp] theorem b63 : tyBytes Try.prog 63 = some 8 := by kernel_rfl
@[simp] theorem a63 : tyAgg Try.prog 63 = false := by kernel_rfl
@[simp] theorem c63 : tyScalar Try.prog 63 = true := by kernel_rfl
@[simp] theorem z63 : tyZero Try.prog 63 = some (.nilFunc) := by kernel_rfl
@[simp] theorem s64 : tySize Try.prog 64 = some 1 := by kernel_rfl
@[simp] theorem b64 : tyBytes Try.prog 64 = some 8 := by kernel_rfl
@[simp] theorem a64 : tyAgg Try.prog 64 = false := by kernel_rfl
@[simp] theorem c64 : tyScalar Try.prog 64 = true := by kernel_rfl
@[simp] theorem z64 : tyZero Try.prog 64 = some (.nilFunc) := by kernel_rfl
@[simp] theorem s66 : tySize Try.prog 66 = some 1 := by kernel_rfl
@[simp] theorem b66 : tyBytes Try.prog 66 = some 8 := by kernel_rfl
@[simp] theorem a66 : tyAgg Try.prog 66 = false := by kernel_rfl
@[simp] theorem c66 : tyScalar Try.prog 66 = true := by kernel_rfl
@[simp] theorem z66 : tyZero Try.prog 66 = some (.nilFunc) := by kernel_rfl
@[simp] theorem s67 : tySize Try.prog 67 = some 1 := by kernel_rfl
@[simp] theorem b67 : tyBytes Try.prog 67 = some 8 := by kernel_rfl
@[simp] theorem a67 : tyAgg Try.prog 67 = false := by kernel_rfl
@[simp] theorem c67 : tyScalar Try.prog 67 = true := by kernel_rfl
@[simp] theorem z67 : tyZero Try.prog 67 = some (.nilFunc) := by kernel_rfl
@[simp] theorem s69 : tySize Try.prog 69 = some 1 := by kernel_rfl
@[simp] theorem b69 : tyBytes Try.prog 69 = some 8 := by kernel_rfl
@[simp] theorem a69 : tyAgg Try.prog 69 = false := by kernel_rfl
@[simp] theorem c69 : tyScalar Try.prog 69 = true := by kernel_rfl
@[simp] theorem z69 : tyZero Try.prog 69 = some (.nilFunc) := by kernel_rfl
@[simp] theorem s71 : tySize Try.prog 71 = some 1 := by kernel_rfl
@[simp] theorem b71 : tyBytes Try.prog 71 = some 8 := by kernel_rfl
@[simp] theorem a71 : tyAgg Try.prog 71 = false := by kernel_rfl
@[simp] theorem c71 : tyScalar Try.prog 71 = true := by kernel_rfl
@[simp] theorem z71 : tyZero Try.prog 71 = some (.nilFunc) := by kernel_rfl
@[simp] theorem s72 : tySize Try.prog 72 = some 1 := by kernel_rfl
@[simp] theorem b72 : tyBytes Try.prog 72 = some 8 := by kernel_rfl
@[simp] theorem a72 : tyAgg Try.prog 72 = false := by kernel_rfl
@[simp] theorem c72 : tyScalar Try.prog 72 = true := by kernel_rfl
@[simp] theorem z72 : tyZero Try.prog 72 = some (.nilFunc) := by kernel_rfl
@[simp] theorem s73 : tySize Try.prog 73 = some 1 := by kernel_rfl
@[simp] theorem b73 : tyBytes Try.prog 73 = some 8 := by kernel_rfl
@[simp] theorem a73 : tyAgg Try.prog 73 = false := by kernel_rfl
@[simp] theorem c73 : tyScalar Try.prog 73 = true := by kernel_rfl
@[simp] theorem z73 : tyZero Try.prog 73 = some (.nilFunc) := by kernel_rfl
@[simp] theorem s74 : tySize Try.prog 74 = some 1 := by kernel_rfl
@[simp] theorem b74 : tyBytes Try.prog 74 = some 8 := by kernel_rfl
@[simp] theorem a74 : tyAgg Try.prog 74 = false := by kernel_rfl
@[simp] theorem c74 : tyScalar Try.prog 74 = true := by kernel_rfl
@[simp] theorem z74 : tyZero Try.prog 74 = some (.nilFunc) := by kernel_rfl
@[simp] theorem s75 : tySize Try.prog 75 = some 1 := by kernel_rfl
@[simp] theorem b75 : tyBytes Try.prog 75 = some 8 := by kernel_rfl
@[simp] theorem a75 : tyAgg Try.prog 75 = false := by kernel_rfl
@[simp] theorem c75 : tyScalar Try.prog 75 = true := by kernel_rfl
@[simp] theorem z75 : tyZero Try.prog 75 = some (.nilFunc) := by kernel_rfl
@[simp] theorem s76 : tySize Try.prog 76 = some 1 := by kernel_rfl
@[simp] theorem b76 : tyBytes Try.prog 76 = some 8 := by kernel_rfl
@[simp] theorem a76 : tyAgg Try.prog 76 = false := by kernel_rfl
@[simp] theorem c76 : tyScalar Try.prog 76 = true := by kernel_rfl
@[simp] theorem z76 : tyZero Try.prog 76 = some (.nilFunc) := by kernel_rfl
@[simp] theorem s77 : tySize Try.prog 77 = some 1 := by kernel_rfl
@[simp] theorem b77 : tyBytes Try.prog 77 = some 8 := by kernel_rfl
@[simp] theorem a77 : tyAgg Try.prog 77 = false := by kernel_rfl
@[simp] theorem c77 : tyScalar Try.prog 77 = true := by kernel_rfl
@[simp] theorem z77 : tyZero Try.prog 77 = some (.nilFunc) := by kernel_rfl
@[simp] theorem s78 : tySize Try.prog 78 = some 1 := by kernel_rfl
@[simp] theorem b78 : tyBytes Try.prog 78 = some 8 := by kernel_rfl
@[simp] theorem a78 : tyAgg Try.prog 78 = false := by kernel_rfl
@[simp] theorem c78 : tyScalar Try.prog 78 = true := by kernel_rfl
@[simp] theorem z78 : tyZero Try.prog 78 = some (.nilFunc) := by kernel_rfl
@[simp] theorem s79 : tySize Try.prog 79 = some 1 := by kernel_rfl
@[simp] theorem b79 : tyBytes Try.prog 79 = some 8 := by kernel_rfl
@[simp] theorem a79 : tyAgg Try.prog 79 = false := by kernel_rfl
@[simp] theorem c79 : tyScalar Try.prog 79 = true := by kernel_rfl
@[simp] theorem z79 : tyZero Try.prog 79 = some (.nilFunc) := by kernel_rfl
@[simp] theorem s80 : tySize Try.prog 80 = some 1 := by kernel_rfl
@[simp] theorem b80 : tyBytes Try.prog 80 = some 8 := by kernel_rfl
@[simp] theorem a80 : tyAgg Try.prog 80 = false := by kernel_rfl
@[simp] theorem c80 : tyScalar Try.prog 80 = true := by kernel_rfl
@[simp] theorem z80 : tyZero Try.prog 80 = some (.nilFunc) := by kernel_rfl
@[simp] theorem s81 : tySize Try.prog 81 = some 1 := by kernel_rfl
@[simp] theorem b81 : tyBytes Try.prog 81 = some 8 := by kernel_rfl
@[simp] theorem a81 : tyAgg Try.prog 81 = false := by kernel_rfl
@[simp] theorem c81 : tyScalar Try.prog 81 = true := by kernel_rfl
@[simp] theorem z81 : tyZero Try.prog 81 = some (.nilFunc) := by kernel_rfl
@[simp] theorem s82 : tySize Try.prog 82 = some 1 := by kernel_rfl
@[simp] theorem b82 : tyBytes Try.prog 82 = some 8 := by kernel_rfl
@[simp] theorem a82 : tyAgg Try.prog 82 = false := by kernel_rfl
@[simp] theorem c82 : tyScalar Try.prog 82 = true := by kernel_rfl
@[simp] theorem z82 : tyZero Try.prog 82 = some (.nilFunc) := by kernel_rfl
@[simp] theorem s83 : tySize Try.prog 83 = some 1 := by kernel_rfl
@[simp] theorem b83 : tyBytes Try.prog 83 = some 24 := by kernel_rfl
@[simp] theorem a83 : tyAgg Try.prog 83 = false := by kernel_rfl
@[simp] theorem c83 : tyScalar Try.prog 83 = true := by kernel_rfl
@[simp] theorem z83 : tyZero Try.prog 83 = some (.nils) := by kernel_rfl
@[simp] theorem s84 : tySize Try.prog 84 = some 1 := by kernel_rfl
@[simp] theorem b84 : tyBytes Try.prog 84 = some 8 := by kernel_rfl
@[simp] theorem a84 : tyAgg Try.prog 84 = false := by kernel_rfl
@[simp] theorem c84 : tyScalar Try.prog 84 = true := by kernel_rfl
@[simp] theorem z84 : tyZero Try.prog 84 = some (.nilFunc) := by kernel_rfl
@[simp] theorem s85 : tySize Try.prog 85 = some 1 := by kernel_rfl
@[simp] theorem b85 : tyBytes Try.prog 85 = some 24 := by kernel_rfl
@[simp] theorem a85 : tyAgg Try.prog 85 = false := by kernel_rfl
@[simp] theorem c85 : tyScalar Try.prog 85 = true := by kernel_rfl
@[simp] theorem z85 : tyZero Try.prog 85 = some (.nils) := by kernel_rfl
@[simp] theorem s86 : tySize Try.prog 86 = some 4 := by kernel_rfl
@[simp] theorem b86 : tyBytes Try.prog 86 = some 48 := by kernel_rfl
@[simp] theorem a86 : tyAgg Try.prog 86 = true := by kernel_rfl
@[simp] theorem c86 : tyScalar Try.prog 86 = false := by kernel_rfl
@[simp] theorem z86 : tyZero Try.prog 86 = some (.agg [.bool false, .nils, .bool false, .int .i64 0]) := by kernel_rfl
@[simp] theorem s87 : tySize Try.prog 87 = some 4 := by kernel_rfl
@[simp] theorem b87 : tyBytes Try.prog 87 = some 48 := by kernel_rfl
@[simp] theorem a87 : tyAgg Try.prog 87 = true := by kernel_rfl
@[simp] theorem c87 : tyScalar Try.prog 87 = false := by kernel_rfl
@[simp] theorem z87 : tyZero Try.prog 87 = some (.agg [.bool false, .nils, .bool false, .int .i64 0]) := by kernel_rfl
@[simp] theorem s88 : tySize Try.prog 88 = some 1 := by kernel_rfl
@[simp] theorem b88 : tyBytes Try.prog 88 = some 8 := by kernel_rfl
@[simp] theorem a88 : tyAgg Try.prog 88 = false := by kernel_rfl
@[simp] theorem c88 : tyScalar Try.prog 88 = true := by kernel_rfl
@[simp] theorem z88 : tyZero Try.prog 88 = some (.nilFunc) := by kernel_rfl
@[simp] theorem s89 : tySize Try.prog 89 = some 1 := by kernel_rfl
@[simp] theorem b89 : tyBytes Try.prog 89 = some 8 := by kernel_rfl
@[simp] theorem a89 : tyAgg Try.prog 89 = false := by kernel_rfl
@[simp] theorem c89 : tyScalar Try.prog 89 = true := by kernel_rfl
@[simp] theorem z89 : tyZero Try.prog 89 = some (.nilp) := by kernel_rfl
@[simp] theorem s90 : tySize Try.prog 90 = some 2 := by kernel_rfl
@[simp] theorem b90 : tyBytes Try.prog 90 = some 32 := by kernel_rfl
@[simp] theorem a90 : tyAgg Try.prog 90 = true := by kernel_rfl
@[simp] theorem c90 : tyScalar Try.prog 90 = false := by kernel_rfl
@[simp] theorem z90 : tyZero Try.prog 90 = some (.agg [.nilp, .nils]) := by kernel_rfl
@[simp] theorem s91 : tySize Try.prog 91 = some 2 := by kernel_rfl
@[simp] theorem b91 : tyBytes Try.prog 91 = some 32 := by kernel_rfl
@[simp] theorem a91 : tyAgg Try.prog 91 = true := by kernel_rfl
@[simp] theorem c91 : tyScalar Try.prog 91 = false := by kernel_rfl
@[simp] theorem z91 : tyZero Try.prog 91 = some (.agg [.nilp, .nils]) := by kernel_rfl
@[simp] theorem s92 : tySize Try.prog 92 = some 1 := by kernel_rfl
@[simp] theorem b92 : tyBytes Try.prog 92 = some 8 := by kernel_rfl
@[simp] theorem a92 : tyAgg Try.prog 92 = false := by kernel_rfl
@[simp] theorem c92 : tyScalar Try.prog 92 = true := by kernel_rfl
@[simp] theorem z92 : tyZero Try.prog 92 = some (.nilFunc) := by kernel_rfl
@[simp] theorem s93 : tySize Try.prog 93 = some 1 := by kernel_rfl
@[simp] theorem b93 : tyBytes Try.prog 93 = some 16 := by kernel_rfl
@[simp] theorem a93 : tyAgg Try.prog 93 = false := by kernel_rfl
@[simp] theorem c93 : tyScalar Try.prog 93 = true := by kernel_rfl
@[simp] theorem z93 : tyZero Try.prog 93 = some (.nilIface) := by kernel_rfl
@[simp] theorem s94 : tySize Try.prog 94 = some 1 := by kernel_rfl
@[simp] theorem b94 : tyBytes Try.prog 94 = some 16 := by kernel_rfl
@[simp] theorem a94 : tyAgg Try.prog 94 = false := by kernel_rfl
@[simp] theorem c94 : tyScalar Try.prog 94 = true := by kernel_rfl
@[simp] theorem z94 : tyZero Try.prog 94 = some (.nilIface) := by kernel_rfl
@[simp] theorem s95 : tySize Try.prog 95 = some 1 := by kernel_rfl
@[simp] theorem b95 : tyBytes Try.prog 95 = some 8 := by kernel_rfl
@[simp] theorem a95 : tyAgg Try.prog 95 = false := by kernel_rfl
@[simp] theorem c95 : tyScalar Try.prog 95 = true := by kernel_rfl
@[simp] theorem z95 : tyZero Try.prog 95 = some (.nilFunc) := by kernel_rfl
@[simp] theorem s96 : tySize Try.prog 96 = some 1 := by kernel_rfl
@[simp] theorem b96 : tyBytes Try.prog 96 = some 8 := by kernel_rfl
@[simp] theorem a96 : tyAgg Try.prog 96 = false := by kernel_rfl
@[simp] theorem c96 : tyScalar Try.prog 96 = true := by kernel_rfl
@[simp] theorem z96 : tyZero Try.prog 96 = some (.nilFunc) := by kernel_rfl
@[simp] theorem s97 : tySize Try.prog 97 = some 2 := by kernel_rfl
@[simp] theorem b97 : tyBytes Try.prog 97 = some 24 := by kernel_rfl
@[simp] theorem a97 : tyAgg Try.prog 97 = true := by kernel_rfl
@[simp] theorem c97 : tyScalar Try.prog 97 = false := by kernel_rfl
@[simp] theorem z97 : tyZero Try.prog 97 = some (.agg [.str [], .int .i64 0]) := by kernel_rfl
@[simp] theorem s98 : tySize Try.prog 98 = some 2 := by kernel_rfl
@[simp] theorem b98 : tyBytes Try.prog 98 = some 24 := by kernel_rfl
@[simp] theorem a98 : tyAgg Try.prog 98 = true := by kernel_rfl
@[simp] theorem c98 : tyScalar Try.prog 98 = false := by kernel_rfl
@[simp] theorem z98 : tyZero Try.prog 98 = some (.agg [.str [], .int .i64 0]) := by kernel_rfl
@[simp] theorem s99 : tySize Try.prog 99 = some 1 := by kernel_rfl
@[simp] theorem b99 : tyBytes Try.prog 99 = some 8 := by kernel_rfl
@[simp] theorem a99 : tyAgg Try.prog 99 = false := by kernel_rfl
@[simp] theorem c99 : tyScalar Try.prog 99 = true := by kernel_rfl
@[simp] theorem z99 : tyZero Try.prog 99 = some (.nilFunc) := by kernel_rfl
@[simp] theorem s100 : tySize Try.prog 100 = some 1 := by kernel_rfl
@[simp] theorem b100 : tyBytes Try.prog 100 = some 8 := by kernel_rfl
@[simp] theorem a100 : tyAgg Try.prog 100 = false := by kernel_rfl
@[simp] theorem c100 : tyScalar Try.prog 100 = true := by kernel_rfl
@[simp] theorem z100 : tyZero Try.prog 100 = some (.nilFunc) := by kernel_rfl
@[simp] theorem s101 : tySize Try.prog 101 = some 1 := by kernel_rfl
@[simp] theorem b101 : tyBytes Try.prog 101 = some 24 := by kernel_rfl
@[simp] theorem a101 : tyAgg Try.prog 101 = false := by kernel_rfl
@[simp] theorem c101 : tyScalar Try.prog 101 = true := by kernel_rfl
@[simp] theorem z101 : tyZero Try.prog 101 = some (.nils) := by kernel_rfl
@[simp] theorem s102 : tySize Try.prog 102 = some 1 := by kernel_rfl
@[simp] theorem b102 : tyBytes Try.prog 102 = some 8 := by kernel_rfl
@[simp] theorem a102 : tyAgg Try.prog 102 = false := by kernel_rfl
@[simp] theorem c102 : tyScalar Try.prog 102 = true := by kernel_rfl
@[simp] theorem z102 : tyZero Try.prog 102 = some (.nilFunc) := by kernel_rfl
@[simp] theorem s103 : tySize Try.prog 103 = some 1 := by kernel_rfl
@[simp] theorem b103 : tyBytes Try.prog 103 = some 8 := by kernel_rfl
@[simp] theorem a103 : tyAgg Try.prog 103 = false := by kernel_rfl
@[simp] theorem c103 : tyScalar Try.prog 103 = true := by kernel_rfl
@[simp] theorem z103 : tyZero Try.prog 103 = some (.nilFunc) := by kernel_rfl
@[simp] theorem s104 : tySize Try.prog 104 = some 1 := by kernel_rfl
@[simp] theorem b104 : tyBytes Try.prog 104 = some 8 := by kernel_rfl
@[simp] theorem a104 : tyAgg Try.prog 104 = false := by kernel_rfl
@[simp] theorem c104 : tyScalar Try.prog 104 = true := by kernel_rfl
@[simp] theorem z104 : tyZero Try.prog 104 = some (.nilp) := by kernel_rfl
@[simp] theorem s105 : tySize Try.prog 105 = some 2 := by kernel_rfl
@[simp] theorem b105 : tyBytes Try.prog 105 = some 24 := by kernel_rfl
@[simp] theorem a105 : tyAgg Try.prog 105 = true := by kernel_rfl
@[simp] theorem c105 : tyScalar Try.prog 105 = false := by kernel_rfl
@[simp] theorem z105 : tyZero Try.prog 105 = some (.agg [.str [], .int .i64 0]) := by kernel_rfl
@[simp] theorem s106 : tySize Try.prog 106 = some 2 := by kernel_rfl
@[simp] theorem b106 : tyBytes Try.prog 106 = some 24 := by kernel_rfl
@[simp] theorem a106 : tyAgg Try.prog 106 = true := by kernel_rfl
@[simp] theorem c106 : tyScalar Try.prog 106 = false := by kernel_rfl
@[simp] theorem z106 : tyZero Try.prog 106 = some (.agg [.str [], .int .i64 0]) := by kernel_rfl
@[simp] theorem s108 : tySize Try.prog 108 = some 1 := by kernel_rfl
@[simp] theorem b108 : tyBytes Try.prog 108 = some 8 := by kernel_rfl
@[simp] theorem a108 : tyAgg Try.prog 108 = false := by kernel_rfl
@[simp] theorem c108 : tyScalar Try.prog 108 = true := by kernel_rfl
@[simp] theorem z108 : tyZero Try.prog 108 = some (.nilFunc) := by kernel_rfl
@[simp] theorem s110 : tySize Try.prog 110 = some 1 := by kernel_rfl
@[simp] theorem b110 : tyBytes Try.prog 110 = some 8 := by kernel_rfl
@[simp] theorem a110 : tyAgg Try.prog 110 = false := by kernel_rfl
@[simp] theorem c110 : tyScalar Try.prog 110 = true := by kernel_rfl
@[simp] theorem z110 : tyZero Try.prog 110 = some (.nilFunc) := by kernel_rfl
@[simp] theorem s111 : tySize Try.prog 111 = some 1 := by kernel_rfl
@[simp] theorem b111 : tyBytes Try.prog 111 = some 8 := by kernel_rfl
@[simp] theorem a111 : tyAgg Try.prog 111 = false := by kernel_rfl
@[simp] theorem c111 : tyScalar Try.prog 111 = true := by kernel_rfl
@[simp] theorem z111 : tyZero Try.prog 111 = some (.nilFunc) := by kernel_rfl
@[simp] theorem s112 : tySize Try.prog 112 = some 2 := by kernel_rfl
@[simp] theorem b112 : tyBytes Try.prog 112 = some 2 := by kernel_rfl
@[simp] theorem a112 : tyAgg Try.prog 112 = true := by kernel_rfl
@[simp] theorem c112 : tyScalar Try.prog 112 = false := by kernel_rfl
@[simp] theorem z112 : tyZero Try.prog 112 = some (.agg [.int .u8 0, .int .u8 0]) := by kernel_rfl
@[simp] theorem s113 : tySize Try.prog 113 = some 2 := by kernel_rfl
@[simp] theorem b113 : tyBytes Try.prog 113 = some 2 := by kernel_rfl
@[simp] theorem a113 : tyAgg Try.prog 113 = true := by kernel_rfl
@[simp] theorem c113 : tyScalar Try.prog 113 = false := by kernel_rfl
@[simp] theorem z113 : tyZero Try.prog 113 = some (.agg [.int .u8 0, .int .u8 0]) := by kernel_rfl
@[simp] theorem s114 : tySize Try.prog 114 = some 1 := by kernel_rfl
@[simp] theorem b114 : tyBytes Try.prog 114 = some 8 := by kernel_rfl
@[simp] theorem a114 : tyAgg Try.prog 114 = false := by kernel_rfl
@[simp] theorem c114 : tyScalar Try.prog 114 = true := by kernel_rfl
@[simp] theorem z114 : tyZero Try.prog 114 = some (.nilp) := by kernel_rfl
@[simp] theorem s115 : tySize Try.prog 115 = some 1 := by kernel_rfl
@[simp] theorem b115 : tyBytes Try.prog 115 = some 8 := by kernel_rfl
@[simp] theorem a115 : tyAgg Try.prog 115 = false := by kernel_rfl
@[simp] theorem c115 : tyScalar Try.prog 115 = true := by kernel_rfl
@[simp] theorem z115 : tyZero Try.prog 115 = some (.nilFunc) := by kernel_rfl
@[simp] theorem s116 : tySize Try.prog 116 = some 20 := by kernel_rfl
@[simp] theorem b116 : tyBytes Try.prog 116 = some 20 := by kernel_rfl
@[simp] theorem a116 : tyAgg Try.prog 116 = true := by kernel_rfl
@[simp] theorem c116 : tyScalar Try.prog 116 = false := by kernel_rfl
@[simp] theorem z116 : tyZero Try.prog 116 = some (.agg [.int .u8 0, .int .u8 0, .int .u8 0, .int .u8 0, .int .u8 0, .int .u8 0, .int .u8 0, .int .u8 0, .int .u8 0, .int .u8 0, .int .u8 0, .int .u8 0, .int .u8 0, .int .u8 0, .int .u8 0, .int .u8 0, .int .u8 0, .int .u8 0, .int .u8 0, .int .u8 0]) := by kernel_rfl
@[simp] theorem s117 : tySize Try.prog 117 = some 1 := by kernel_rfl
@[simp] theorem b117 : tyBytes Try.prog 117 = some 8 := by kernel_rfl
@[simp] theorem a117 : tyAgg Try.prog 117 = false := by kernel_rfl
@[simp] theorem c117 : tyScalar Try.prog 117 = true := by kernel_rfl
@[simp] theorem z117 : tyZero Try.prog 117 = some (.int .u64 0) := by kernel_rfl
@[simp] theorem s118 : tySize Try.prog 118 = some 1 := by kernel_rfl
@[simp] theorem b118 : tyBytes Try.prog 118 = some 8 := by kernel_rfl
@[simp] theorem a118 : tyAgg Try.prog 118 = false := by kernel_rfl
@[simp] theorem c118 : tyScalar Try.prog 118 = true := by kernel_rfl
@[simp] theorem z118 : tyZero Try.prog 118 = some (.nilFunc) := by kernel_rfl
@[simp] theorem s120 : tySize Try.prog 120 = some 1 := by kernel_rfl
@[simp] theorem b120 : tyBytes Try.prog 120 = some 8 := by kernel_rfl
@[simp] theorem a120 : tyAgg Try.prog 120 = false := by kernel_rfl
@[simp] theorem c120 : tyScalar Try.prog 120 = true := by kernel_rfl
@[simp] theorem z120 : tyZero Try.prog 120 = some (.nilFunc) := by kernel_rfl
@[simp] theorem s121 : tySize Try.prog 121 = some 1 := by kernel_rfl
@[simp] theorem b121 : tyBytes Try.prog 121 = some 8 := by kernel_rfl
@[simp] theorem a121 : tyAgg Try.prog 121 = false := by kernel_rfl
@[simp] theorem c121 : tyScalar Try.prog 121 = true := by kernel_rfl
@[simp] theorem z121 : tyZero Try.prog 121 = some (.nilFunc) := by kernel_rfl
@[simp] theorem s123 : tySize Try.prog 123 = some 1 := by kernel_rfl
@[simp] theorem b123 : tyBytes Try.prog 123 = some 8 := by kernel_rfl
@[simp] theorem a123 : tyAgg Try.prog 123 = false := by kernel_rfl
@[simp] theorem c123 : tyScalar Try.prog 123 = true := by kernel_rfl
@[simp] theorem z123 : tyZero Try.prog 123 = some (.nilFunc) := by kernel_rfl
@[simp] theorem s125 : tySize Try.prog 125 = some 1 := by kernel_rfl
@[simp] theorem b125 : tyBytes Try.prog 125 = some 8 := by kernel_rfl
@[simp] theorem a125 : tyAgg Try.prog 125 = false := by kernel_rfl
@[simp] theorem c125 : tyScalar Try.prog 125 = true := by kernel_rfl
@[simp] theorem z125 : tyZero Try.prog 125 = some (.nilFunc) := by kernel_rfl
@[simp] theorem s126 : tySize Try.prog 126 = some 1 := by kernel_rfl
@[simp] theorem b126 : tyBytes Try.prog 126 = some 8 := by kernel_rfl
@[simp] theorem a126 : tyAgg Try.prog 126 = false := by kernel_rfl
@[simp] theorem c126 : tyScalar Try.prog 126 = true := by kernel_rfl
@[simp] theorem z126 : tyZero Try.prog 126 = some (.nilFunc) := by kernel_rfl
@[simp] theorem s127 : tySize Try.prog 127 = some 1 := by kernel_rfl
@[simp] theorem b127 : tyBytes Try.prog 127 = some 8 := by kernel_rfl
@[simp] theorem a127 : tyAgg Try.prog 127 = false := by kernel_rfl
@[simp] theorem c127 : tyScalar Try.prog 127 = true := by kernel_rfl
@[simp] theorem z127 : tyZero Try.prog 127 = some (.nilFunc) := by kernel_rfl
@[simp] theorem s128 : tySize Try.prog 128 = some 1 := by kernel_rfl
@[simp] theorem b128 : tyBytes Try.prog 128 = some 8 := by kernel_rfl
@[simp] theorem a128 : tyAgg Try.prog 128 = false := by kernel_rfl
@[simp] theorem c128 : tyScalar Try.prog 128 = true := by kernel_rfl
@[simp] theorem z128 : tyZero Try.prog 128 = some (.nilFunc) := by kernel_rfl
@[simp] theorem s129 : tySize Try.prog 129 = some 1 := by kernel_rfl
@[simp] theorem b129 : tyBytes Try.prog 129 = some 8 := by kernel_rfl
@[simp] theorem a129 : tyAgg Try.prog 129 = false := by kernel_rfl
@[simp] theorem c129 : tyScalar Try.prog 129 = true := by kernel_rfl
@[simp] theorem z129 : tyZero Try.prog 129 = some (.nilFunc) := by kernel_rfl
@[simp] theorem s130 : tySize Try.prog 130 = some 1 := by kernel_rfl
@[simp] theorem b130 : tyBytes Try.prog 130 = some 8 := by kernel_rfl
@[simp] theorem a130 : tyAgg Try.prog 130 = false := by kernel_rfl
@[simp] theorem c130 : tyScalar Try.prog 130 = true := by kernel_rfl
@[simp] theorem z130 : tyZero Try.prog 130 = some (.int .u64 0) := by kernel_rfl
@[simp] theorem s131 : tySize Try.prog 131 = some 1 := by kernel_rfl
@[simp] theorem b131 : tyBytes Try.prog 131 = some 8 := by kernel_rfl
@[simp] theorem a131 : tyAgg Try.prog 131 = false := by kernel_rfl
@[simp] theorem c131 : tyScalar Try.prog 131 = true := by kernel_rfl
@[simp] theorem z131 : tyZero Try.prog 131 = some (.nilFunc) := by kernel_rfl
@[simp] theorem s132 : tySize Try.prog 132 = some 1 := by kernel_rfl
@[simp] theorem b132 : tyBytes Try.prog 132 = some 8 := by kernel_rfl
@[simp] theorem a132 : tyAgg Try.prog 132 = false := by kernel_rfl
@[simp] theorem c132 : tyScalar Try.prog 132 = true := by kernel_rfl
@[simp] theorem z132 : tyZero Try.prog 132 = some (.nilFunc) := by kernel_rfl
@[simp] theorem s134 : tySize Try.prog 134 = some 1 := by kernel_rfl
@[simp] theorem b134 : tyBytes Try.prog 134 = some 8 := by kernel_rfl
@[simp] theorem a134 : tyAgg Try.prog 134 = false := by kernel_rfl
@[simp] theorem c134 : tyScalar Try.prog 134 = true := by kernel_rfl
@[simp] theorem z134 : tyZero Try.prog 134 = some (.nilFunc) := by kernel_rfl
@[simp] theorem s135 : tySize Try.prog 135 = some 1 := by kernel_rfl
@[simp] theorem b135 : tyBytes Try.prog 135 = some 8 := by kernel_rfl
@[simp] theorem a135 : tyAgg Try.prog 135 = false := by kernel_rfl
@[simp] theorem c135 : tyScalar Try.prog 135 = true := by kernel_rfl
@[simp] theorem z135 : tyZero Try.prog 135 = some (.nilFunc) := by kernel_rfl
@[simp] theorem s137 : tySize Try.prog 137 = some 1 := by kernel_rfl
@[simp] theorem b137 : tyBytes Try.prog 137 = some 8 := by kernel_rfl
@[simp] theorem a137 : tyAgg Try.prog 137 = false := by kernel_rfl
@[simp] theorem c137 : tyScalar Try.prog 137 = true := by kernel_rfl
@[simp] theorem z137 : tyZero Try.prog 137 = some (.nilFunc) := by kernel_rfl
@[simp] theorem s139 : tySize Try.prog 139 = some 1 := by kernel_rfl
@[simp] theorem b139 : tyBytes Try.prog 139 = some 8 := by kernel_rfl
@[simp] theorem a139 : tyAgg Try.prog 139 = false := by kernel_rfl
@[simp] theorem c139 : tyScalar Try.prog 139 = true := by kernel_rfl
@[simp] theorem z139 : tyZero Try.prog 139 = some (.nilFunc) := by kernel_rfl
@[simp] theorem s140 : tySize Try.prog 140 = some 1 := by kernel_rfl
@[simp] theorem b140 : tyBytes Try.prog 140 = some 8 := by kernel_rfl
@[simp] theorem a140 : tyAgg Try.prog 140 = false := by kernel_rfl
@[simp] theorem c140 : tyScalar Try.prog 140 = true := by kernel_rfl
@[simp] theorem z140 : tyZero Try.prog 140 = some (.nilFunc) := by kernel_rfl
@[simp] theorem s141 : tySize Try.prog 141 = some 1 := by kernel_rfl
@[simp] theorem b141 : tyBytes Try.prog 141 = some 8 := by kernel_rfl
@[simp] theorem a141 : tyAgg Try.prog 141 = false := by kernel_rfl
@[simp] theorem c141 : tyScalar Try.prog 141 = true := by kernel_rfl
@[simp] theorem z141 : tyZero Try.prog 141 = some (.nilFunc) := by kernel_rfl
@[simp] theorem s142 : tySize Try.prog 142 = some 1 := by kernel_rfl
@[simp] theorem b142 : tyBytes Try.prog 142 = some 8 := by kernel_rfl
@[simp] theorem a142 : tyAgg Try.prog 142 = false := by kernel_rfl
@[simp] theorem c142 : tyScalar Try.prog 142 = true := by kernel_rfl
@[simp] theorem z142 : tyZero Try.prog 142 = some (.nilFunc) := by kernel_rfl
@[simp] theorem s143 : tySize Try.prog 143 = some 1 := by kernel_rfl
@[simp] theorem b143 : tyBytes Try.prog 143 = some 8 := by kernel_rfl
@[simp] theorem a143 : tyAgg Try.prog 143 = false := by kernel_rfl
@[simp] theorem c143 : tyScalar Try.prog 143 = true := by kernel_rfl
@[simp] theorem z143 : tyZero Try.prog 143 = some (.nilFunc) := by kernel_rfl
@[simp] theorem s145 : tySize Try.prog 145 = some 1 := by kernel_rfl
@[simp] theorem b145 : tyBytes Try.prog 145 = some 8 := by kernel_rfl
@[simp] theorem a145 : tyAgg Try.prog 145 = false := by kernel_rfl
@[simp] theorem c145 : tyScalar Try.prog 145 = true := by kernel_rfl
@[simp] theorem z145 : tyZero Try.prog 145 = some (.nilFunc) := by kernel_rfl
@[simp] theorem s146 : tySize Try.prog 146 = some 1 := by kernel_rfl
@[simp] theorem b146 : tyBytes Try.prog 146 = some 8 := by kernel_rfl
@[simp] theorem a146 : tyAgg Try.prog 146 = false := by kernel_rfl
@[simp] theorem c146 : tyScalar Try.prog 146 = true := by kernel_rfl
@[simp] theorem z146 : tyZero Try.prog 146 = some (.nilFunc) := by kernel_rfl
@[simp] theorem s147 : tySize Try.prog 147 = some 1 := by kernel_rfl
@[simp] theorem b147 : tyBytes Try.prog 147 = some 8 := by kernel_rfl
@[simp] theorem a147 : tyAgg Try.prog 147 = false := by kernel_rfl
@[simp] theorem c147 : tyScalar Try.prog 147 = true := by kernel_rfl
@[simp] theorem z147 : tyZero Try.prog 147 = some (.int .i64 0) := by kernel_rfl
@[simp] theorem s149 : tySize Try.prog 149 = some 1 := by kernel_rfl
@[simp] theorem b149 : tyBytes Try.prog 149 = some 8 := by kernel_rfl
@[simp] theorem a149 : tyAgg Try.prog 149 = false := by kernel_rfl
@[simp] theorem c149 : tyScalar Try.prog 149 = true := by kernel_rfl
@[simp] theorem z149 : tyZero Try.prog 149 = some (.nilFunc) := by kernel_rfl
@[simp] theorem s150 : tySize Try.prog 150 = some 1 := by kernel_rfl
@[simp] theorem b150 : tyBytes Try.prog 150 = some 8 := by kernel_rfl
@[simp] theorem a150 : tyAgg Try.prog 150 = false := by kernel_rfl
@[simp] theorem c150 : tyScalar Try.prog 150 = true := by kernel_rfl
@[simp] theorem z150 : tyZero Try.prog 150 = some (.nilFunc) := by kernel_rfl
@[simp] theorem s151 : tySize Try.prog 151 = some 1 := by kernel_rfl
@[simp] theorem b151 : tyBytes Try.prog 151 = some 8 := by kernel_rfl
@[simp] theorem a151 : tyAgg Try.prog 151 = false := by kernel_rfl
@[simp] theorem c151 : tyScalar Try.prog 151 = true := by kernel_rfl
@[simp] theorem z151 : tyZero Try.prog 151 = some (.nilFunc) := by kernel_rfl
@[simp] theorem s152 : tySize Try.prog 152 = some 1 := by kernel_rfl
@[simp] theorem b152 : tyBytes Try.prog 152 = some 8 := by kernel_rfl
@[simp] theorem a152 : tyAgg Try.prog 152 = false := by kernel_rfl
@[simp] theorem c152 : tyScalar Try.prog 152 = true := by kernel_rfl
@[simp] theorem z152 : tyZero Try.prog 152 = some (.nilFunc) := by kernel_rfl
@[simp] theorem s153 : tySize Try.prog 153 = some 1 := by kernel_rfl
@[simp] theorem b153 : tyBytes Try.prog 153 = some 8 := by kernel_rfl
@[simp] theorem a153 : tyAgg Try.prog 153 = false := by kernel_rfl
@[simp] theorem c153 : tyScalar Try.prog 153 = true := by kernel_rfl
@[simp] theorem z153 : tyZero Try.prog 153 = some (.nilFunc) := by kernel_rfl
@[simp] theorem s154 : tySize Try.prog 154 = some 1 := by kernel_rfl
@[simp] theorem b154 : tyBytes Try.prog 154 = some 4 := by kernel_rfl
@[simp] theorem a154 : tyAgg Try.prog 154 = false := by kernel_rfl
@[simp] theorem c154 : tyScalar Try.prog 154 = true := by kernel_rfl
@[simp] theorem z154 : tyZero Try.prog 154 = some (.int .u32 0) := by kernel_rfl
@[simp] theorem s155 : tySize Try.prog 155 = some 1 := by kernel_rfl
@[simp] theorem b155 : tyBytes Try.prog 155 = some 8 := by kernel_rfl
@[simp] theorem a155 : tyAgg Try.prog 155 = false := by kernel_rfl
@[simp] theorem c155 : tyScalar Try.prog 155 = true := by kernel_rfl
@[simp] theorem z155 : tyZero Try.prog 155 = some (.nilFunc) := by kernel_rfl
@[simp] theorem s156 : tySize Try.prog 156 = some 1 := by kernel_rfl
@[simp] theorem b156 : tyBytes Try.prog 156 = some 8 := by kernel_rfl
@[simp] theorem a156 : tyAgg Try.prog 156 = false := by kernel_rfl
@[simp] theorem c156 : tyScalar Try.prog 156 = true := by kernel_rfl
@[simp] theorem z156 : tyZero Try.prog 156 = some (.nilFunc) := by kernel_rfl
@[simp] theorem s157 : tySize Try.prog 157 = some 1 := by kernel_rfl
@[simp] theorem b157 : tyBytes Try.prog 157 = some 8 := by kernel_rfl
@[simp] theorem a157 : tyAgg Try.prog 157 = false := by kernel_rfl
@[simp] theorem c157 : tyScalar Try.prog 157 = true := by kernel_rfl
@[simp] theorem z157 : tyZero Try.prog 157 = some (.int .u64 0) := by kernel_rfl
@[simp] theorem s158 : tySize Try.prog 158 = some 1 := by kernel_rfl
@[simp] theorem b158 : tyBytes Try.prog 158 = some 8 := by kernel_rfl
@[simp] theorem a158 : tyAgg Try.prog 158 = false := by kernel_rfl
@[simp] theorem c158 : tyScalar Try.prog 158 = true := by kernel_rfl
@[simp] theorem z158 : tyZero Try.prog 158 = some (.nilFunc) := by kernel_rfl
@[simp] theorem s159 : tySize Try.prog 159 = some 1 := by kernel_rfl
@[simp] theorem b159 : tyBytes Try.prog 159 = some 8 := by kernel_rfl
@[simp] theorem a159 : tyAgg Try.prog 159 = false := by kernel_rfl
@[simp] theorem c159 : tyScalar Try.prog 159 = true := by kernel_rfl
@[simp] theorem z159 : tyZero Try.prog 159 = some (.nilFunc) := by kernel_rfl
@[simp] theorem s160 : tySize Try.prog 160 = some 1 := by kernel_rfl
@[simp] theorem b160 : tyBytes Try.prog 160 = some 8 := by kernel_rfl
@[simp] theorem a160 : tyAgg Try.prog 160 = false := by kernel_rfl
@[simp] theorem c160 : tyScalar Try.prog 160 = true := by kernel_rfl
@[simp] theorem z160 : tyZero Try.prog 160 = some (.nilFunc) := by kernel_rfl
@[simp] theorem s161 : tySize Try.prog 161 = some 1 := by kernel_rfl
@[simp] theorem b161 : tyBytes Try.prog 161 = some 8 := by kernel_rfl
@[simp] theorem a161 : tyAgg Try.prog 161 = false := by kernel_rfl
@[simp] theorem c161 : tyScalar Try.prog 161 = true := by kernel_rfl
@[simp] theorem z161 : tyZero Try.prog 161 = some (.nilp) := by kernel_rfl
@[simp] theorem s162 : tySize Try.prog 162 = some 1 := by kernel_rfl
@[simp] theorem b162 : tyBytes Try.prog 162 = some 8 := by kernel_rfl
@[simp] theorem a162 : tyAgg Try.prog 162 = false := by kernel_rfl
@[simp] theorem c162 : tyScalar Try.prog 162 = true := by kernel_rfl
@[simp] theorem z162 : tyZero Try.prog 162 = some (.nilFunc) := by kernel_rfl
@[simp] theorem s163 : tySize Try.prog 163 = some 1 := by kernel_rfl
@[simp] theorem b163 : tyBytes Try.prog 163 = some 8 := by kernel_rfl
@[simp] theorem a163 : tyAgg Try.prog 163 = false := by kernel_rfl
@[simp] theorem c163 : tyScalar Try.prog 163 = true := by kernel_rfl
@[simp] theorem z163 : tyZero Try.prog 163 = some (.nilFunc) := by kernel_rfl
@[simp] theorem s164 : tySize Try.prog 164 = some 1 := by kernel_rfl
@[simp] theorem b164 : tyBytes Try.prog 164 = some 8 := by kernel_rfl
@[simp] theorem a164 : tyAgg Try.prog 164 = false := by kernel_rfl
@[simp] theorem c164 : tyScalar Try.prog 164 = true := by kernel_rfl
@[simp] theorem z164 : tyZero Try.prog 164 = some (.nilp) := by kernel_rfl
@[simp] theorem s166 : tySize Try.prog 166 = some 1 := by kernel_rfl
@[simp] theorem b166 : tyBytes Try.prog 166 = some 8 := by kernel_rfl
@[simp] theorem a166 : tyAgg Try.prog 166 = false := by kernel_rfl
@[simp] theorem c166 : tyScalar Try.prog 166 = true := by kernel_rfl
@[simp] theorem z166 : tyZero Try.prog 166 = some (.nilFunc) := by kernel_rfl
@[simp] theorem s168 : tySize Try.prog 168 = some 1 := by kernel_rfl
@[simp] theorem b168 : tyBytes Try.prog 168 = some 8 := by kernel_rfl
@[simp] theorem a168 : tyAgg Try.prog 168 = false := by kernel_rfl
@[simp] theorem c168 : tyScalar Try.prog 168 = true := by kernel_rfl
@[simp] theorem z168 : tyZero Try.prog 168 = some (.nilFunc) := by kernel_rfl
@[simp] theorem s169 : tySize Try.prog 169 = some 4 := by kernel_rfl
@[simp] theorem b169 : tyBytes Try.prog 169 = some 40 := by kernel_rfl
@[simp] theorem a169 : tyAgg Try.prog 169 = true := by kernel_rfl
@[simp] theorem c169 : tyScalar Try.prog 169 = false := by kernel_rfl
@[simp] theorem z169 : tyZero Try.prog 169 = some (.agg [.nilp, .nilp, .nilp, .str []]) := by kernel_rfl
@[simp] theorem s170 : tySize Try.prog 170 = some 4 := by kernel_rfl
@[simp] theorem b170 : tyBytes Try.prog 170 = some 40 := by kernel_rfl
@[simp] theorem a170 : tyAgg Try.prog 170 = true := by kernel_rfl
@[simp] theorem c170 : tyScalar Try.prog 170 = false := by kernel_rfl
@[simp] theorem z170 : tyZero Try.prog 170 = some (.agg [.nilp, .nilp, .nilp, .str []]) := by kernel_rfl
@[simp] theorem s171 : tySize Try.prog 171 = some 0 := by kernel_rfl
@[simp] theorem b171 : tyBytes Try.prog 171 = some 0 := by kernel_rfl
@[simp] theorem a171 : tyAgg Try.prog 171 = true := by kernel_rfl
@[simp] theorem c171 : tyScalar Try.prog 171 = false := by kernel_rfl
@[simp] theorem z171 : tyZero Try.prog 171 = some (.agg []) := by kernel_rfl
@[simp] theorem s172 : tySize Try.prog 172 = some 0 := by kernel_rfl
@[simp] theorem b172 : tyBytes Try.prog 172 = some 0 := by kernel_rfl
@[simp] theorem a172 : tyAgg Try.prog 172 = true := by kernel_rfl
@[simp] theorem c172 : tyScalar Try.prog 172 = false := by kernel_rfl
@[simp] theorem z172 : tyZero Try.prog 172 = some (.agg []) := by kernel_rfl
@[simp] theorem s173 : tySize Try.prog 173 = some 0 := by kernel_rfl
@[simp] theorem b173 : tyBytes Try.prog 173 = some 0 := by kernel_rfl
@[simp] theorem a173 : tyAgg Try.prog 173 = true := by kernel_rfl
@[simp] theorem c173 : tyScalar Try.prog 173 = false := by kernel_rfl
@[simp] theorem z173 : tyZero Try.prog 173 = some (.agg []) := by kernel_rfl
@[simp] theorem s174 : tySize Try.prog 174 = some 1 := by kernel_rfl
@[simp] theorem b174 : tyBytes Try.prog 174 = some 1 := by kernel_rfl
@[simp] theorem a174 : tyAgg Try.prog 174 = false := by kernel_rfl
@[simp] theorem c174 : tyScalar Try.prog 174 = true := by kernel_rfl
@[simp] theorem z174 : tyZero Try.prog 174 = some (.int .u8 0) := by kernel_rfl
@[simp] theorem s175 : tySize Try.prog 175 = some 1 := by kernel_rfl
@[simp] theorem b175 : tyBytes Try.prog 175 = some 1 := by kernel_rfl
@[simp] theorem a175 : tyAgg Try.prog 175 = false := by kernel_rfl
@[simp] theorem c175 : tyScalar Try.prog 175 = true := by kernel_rfl
@[simp] theorem z175 : tyZero Try.prog 175 = some (.int .u8 0) := by kernel_rfl
@[simp] theorem s176 : tySize Try.prog 176 = some 1 := by kernel_rfl
@[simp] theorem b176 : tyBytes Try.prog 176 = some 8 := by kernel_rfl
@[simp] theorem a176 : tyAgg Try.prog 176 = false := by kernel_rfl
@[simp] theorem c176 : tyScalar Try.prog 176 = true := by kernel_rfl
@[simp] theorem z176 : tyZero Try.prog 176 = some (.nilFunc) := by kernel_rfl
@[simp] theorem s177 : tySize Try.prog 177 = some 1 := by kernel_rfl
@[simp] theorem b177 : tyBytes Try.prog 177 = some 4 := by kernel_rfl
@[simp] theorem a177 : tyAgg Try.prog 177 = false := by kernel_rfl
@[simp] theorem c177 : tyScalar Try.prog 177 = true := by kernel_rfl
@[simp] theorem z177 : tyZero Try.prog 177 = some (.int .i32 0) := by kernel_rfl
@[simp] theorem s178 : tySize Try.prog 178 = some 1 := by kernel_rfl
@[simp] theorem b178 : tyBytes Try.prog 178 = some 4 := by kernel_rfl
@[simp] theorem a178 : tyAgg Try.prog 178 = false := by kernel_rfl
@[simp] theorem c178 : tyScalar Try.prog 178 = true := by kernel_rfl
@[simp] theorem z178 : tyZero Try.prog 178 = some (.int .i32 0) := by kernel_rfl
@[simp] theorem s179 : tySize Try.prog 179 = some 11 := by kernel_rfl
@[simp] theorem b179 : tyBytes Try.prog 179 = some 48 := by kernel_rfl
@[simp] theorem a179 : tyAgg Try.prog 179 = true := by kernel_rfl
@[simp] theorem c179 : tyScalar Try.prog 179 = false := by kernel_rfl
@[simp] theorem z179 : tyZero Try.prog 179 = some (.agg [.int .u64 0, .int .u64 0, .int .u32 0, .int .u8 0, .int .u8 0, .int .u8 0, .int .u8 0, .nilFunc, .nilp, .int .i32 0, .int .i32 0]) := by kernel_rfl
@[simp] theorem s180 : tySize Try.prog 180 = some 11 := by kernel_rfl
@[simp] theorem b180 : tyBytes Try.prog 180 = some 48 := by kernel_rfl
@[simp] theorem a180 : tyAgg Try.prog 180 = true := by kernel_rfl
@[simp] theorem c180 : tyScalar Try.prog 180 = false := by kernel_rfl
@[simp] theorem z180 : tyZero Try.prog 180 = some (.agg [.int .u64 0, .int .u64 0, .int .u32 0, .int .u8 0, .int .u8 0, .int .u8 0, .int .u8 0, .nilFunc, .nilp, .int .i32 0, .int .i32 0]) := by kernel_rfl
end Go.Proofs.Ytnifldbmflkmpaa.Ty

/-
  Texts; the signs of a pattern, a text's quoted pattern; the place of an octet in a text.
-/
namespace Go.Proofs.Ytnifldbmflkmpaa
open Go
set_option linter.unusedVariables false
set_option linter.unusedSimpArgs false
/-- Texts. -/
abbrev S := List UInt8
/-- The octets that are signs of a pattern; a text's quoted pattern. -/
def isSign (b : UInt8) : Bool := b == 42 || b == 63 || b == 91 || b == 92
def quoteS (s : S) : S := s.flatMap fun b => if isSign b then [92, b] else [b]
theorem quote_len : ∀ s : S, (quoteS s).length ≤ 2 * s.length
  | [] => by simp [quoteS]
  | b :: s => by
    have e : quoteS (b :: s) = (if isSign b then [92, b] else [b]) ++ quoteS s := by simp [quoteS]
    have := quote_len s
    rw [e, List.length_append, List.length_cons]
    split <;> simp only [List.length_cons, List.length_nil] <;> omega
theorem idx_none : ∀ (s : S) (c : UInt8), decide (Lib.indexByte s c < 0) = s.all (fun b => b != c)
  | [], c => by simp [Lib.indexByte]
  | b :: s, c => by
    have ih := idx_none s c
    have h1 : -1 ≤ Lib.indexByte s c := by
      clear ih
      induction s with
      | nil => simp [Lib.indexByte]
      | cons b s ih => unfold Lib.indexByte; split <;> (try split) <;> omega
    simp only [List.all_cons, ← ih]
    have hstep : Lib.indexByte (b :: s) c = if (b == c) = true then 0 else if (Lib.indexByte s c == -1) = true then -1 else Lib.indexByte s c + 1 := by rw [Lib.indexByte]
    rw [hstep]
    cases hb : (b == c) with
    | true => simp [bne, hb]
    | false =>
      simp only [bne, hb, Bool.not_false, Bool.true_and, Bool.false_eq_true, if_false]
      split
      · rename_i h
        simp only [beq_iff_eq] at h
        rw [h]
      · rename_i h
        simp only [beq_iff_eq] at h
        rw [decide_eq_decide]
        omega
theorem sign_idx (b : UInt8) : decide (0 ≤ Lib.indexByte [42, 63, 91, 92] b) = isSign b := by
  have h := idx_none [42, 63, 91, 92] b
  have h2 : decide (0 ≤ Lib.indexByte [42, 63, 91, 92] b) = !decide (Lib.indexByte [42, 63, 91, 92] b < 0) := by
    rw [← decide_not, decide_eq_decide]; omega
  rw [h2, h]
  simp only [List.all_cons, List.all_nil, Bool.and_true, isSign, bne, Bool.not_and, Bool.not_not, Bool.beq_comm]
  cases (b == 42) <;> cases (b == 63) <;> cases (b == 91) <;> cases (b == 92) <;> rfl
theorem quote_take (s : S) (i : Nat) (h : i < s.length) : quoteS (s.take (i + 1)) = quoteS (s.take i) ++ (if isSign s[i] then [92, s[i]] else [s[i]]) := by
  rw [List.take_add_one, List.getElem?_eq_getElem h]
  simp only [quoteS, Option.toList, List.flatMap_append, List.flatMap_cons, List.flatMap_nil, List.append_nil]
theorem quote_len_take (s : S) (i : Nat) : (quoteS (s.take i)).length ≤ 2 * s.length := by
  have := quote_len (s.take i)
  rw [List.length_take] at this
  omega
/-- Texts in order, each once. -/
def srt (ss : List (List UInt8)) : List (List UInt8) := Lib.compact (ss.mergeSort fun x y => decide (x ≤ y))
end Go.Proofs.Ytnifldbmflkmpaa

/-
  The seat's functions, as the evaluator takes them.
-/
namespace Go.Proofs.Ytnifldbmflkmpaa
open Go Ev
def pures : List Nat := [3, 4, 5, 14, 15, 16, 17, 18, 19, 20, 21, 22, 23, 51, 53, 55, 56, 57, 59, 60, 61, 79,
  6, 7, 12, 24, 25, 26, 27, 28, 29, 30, 31, 32, 33, 34, 35, 62, 72, 73, 80, 98,
  67, 82, 8, 9, 36, 37, 39, 65, 66, 81, 101, 102, 111, 112, 124, 131,
  10, 11, 12, 40, 42, 43, 45, 71, 75, 86, 87, 88, 89, 91, 105, 106, 113, 125,
  13, 48, 49, 50, 52, 54, 70, 84, 78, 96, 97, 109]
def impures : List Nat := [63, 99, 100, 110, 41, 44, 46, 76, 90, 92]
/-- slices.Clone of a list whose elements have n cells. -/
def cloneA (n : Nat) : List AV → Option AV
  | [.list xs _ _ _] => if headOk n xs = true ∧ xs.length ≤ 68719476736 then some (.L (stripL xs)) else none
  | _ => none
/-- internal/bytealg.IndexByteString. -/
def idxA : List AV → Option AV
  | [.str s, .int .u8 c] => some (.int .i64 (Lib.indexByte s c.toNat.toUInt8))
  | _ => none
def quoteA : List AV → Option AV
  | [.str s] => if s.length ≤ 1000 then some (.str (quoteS s)) else none
  | _ => none
def strsOf? : List AV → Option (List S)
  | [] => some []
  | .str s :: xs => (strsOf? xs).map (s :: ·)
  | _ => none
/-- set.of. -/
def ofA : List AV → Option AV
  | [.list xs _ _ _] => (strsOf? xs).bind fun ss => if ss.length ≤ 1000 then some (strs (srt ss)) else none
  | _ => none
def isByteA : AV → Bool
  | .int .u8 _ => true
  | _ => false
def listsOf? : List AV → Option (List (List AV))
  | [] => some []
  | .list ys _ _ _ :: r => if ys.all isByteA then (listsOf? r).map (ys :: ·) else none
  | _ => none
/-- slices.Concat of lists of octets. -/
def concatA : List AV → Option AV
  | [.list xs _ _ _] => (listsOf? xs).bind fun yss => if xs ≠ [] ∧ xs.length ≤ 1000 ∧ yss.flatten.length ≤ 1073741824 then some (.L yss.flatten) else none
  | _ => none
theorem strsOf_eq : ∀ {xs : List AV} {ss : List S}, strsOf? xs = some ss → xs = ss.map .str
  | [], ss, h => by simp only [strsOf?, Option.some.injEq] at h; subst h; rfl
  | x :: xs, ss, h => by
    unfold strsOf? at h
    split at h
    · rename_i e; cases e
    · rename_i s ys e
      cases e
      obtain ⟨t, h1, rfl⟩ := Option.map_eq_some_iff.1 h
      rw [strsOf_eq h1]; rfl
    · cases h
theorem strsOf_map : ∀ ss : List S, strsOf? (ss.map .str) = some ss
  | [] => rfl
  | s :: ss => by simp only [List.map_cons, strsOf?, strsOf_map ss, Option.map_some]
noncomputable def cfg : Cfg where
  P := Try.prog
  mode := fun f => if pures.contains f then .pure else if impures.contains f then .impure else .no
  prim := fun f => if f = 58 then some (cloneA 1) else if f = 64 then some (cloneA 4) else if f = 103 then some idxA else if f = 38 then some quoteA else if f = 77 then some ofA else if f = 74 then some concatA else none
@[simp] theorem cfgP : cfg.P = Try.prog := rfl
end Go.Proofs.Ytnifldbmflkmpaa

/-
  Replies, as the evaluator holds them; the functions that make them.
-/
namespace Go.Proofs.Ytnifldbmflkmpaa
open Go Ev
set_option linter.unusedVariables false
set_option linter.unusedSimpArgs false
set_option maxRecDepth 10000
/-- A reply. -/
inductive R where
  | mk (k : Int) (s : S) (n : Int) (l : List R)
mutual
def aR : R → AV
  | .mk k s n l => .agg [.int .i64 k, .str s, .int .i64 n, .L (aRs l)]
def aRs : List R → List AV
  | [] => []
  | r :: l => aR r :: aRs l
end
mutual
def sameR : R → R → Bool
  | .mk k s n l, .mk k' s' n' l' => k == k' && s == s' && n == n' && sameRs l l'
def sameRs : List R → List R → Bool
  | [], [] => true
  | a :: l, b :: l' => sameR a b && sameRs l l'
  | _, _ => false
end
theorem aRs_map : ∀ l : List R, aRs l = l.map aR
  | [] => by simp only [aRs, List.map_nil]
  | r :: l => by simp only [aRs, List.map_cons, aRs_map l]
mutual
theorem strip_aR : ∀ r : R, (aR r).strip = aR r
  | .mk k s n l => by simp only [aR, strip_agg, stripL_cons, strip_int, strip_str, strip_list, stripL_nil, stripL_aRs l]
theorem stripL_aRs : ∀ l : List R, stripL (aRs l) = aRs l
  | [] => by simp only [aRs, stripL_nil]
  | r :: l => by simp only [aRs, stripL_cons, strip_aR r, stripL_aRs l]
end
mutual
theorem clean_aR (m : Nat) : ∀ r : R, (aR r).clean m = true
  | .mk k s n l => by simp only [aR, clean_agg, cleanL_cons, clean_int, clean_str, clean_list, cleanL_nil, cleanL_aRs m l, Bool.and_self]
theorem cleanL_aRs (m : Nat) : ∀ l : List R, cleanL m (aRs l) = true
  | [] => by simp only [aRs, cleanL_nil]
  | r :: l => by simp only [aRs, cleanL_cons, clean_aR m r, cleanL_aRs m l, Bool.and_self]
end
attribute [simp] strip_aR stripL_aRs clean_aR cleanL_aRs
@[simp] theorem aRs_length (l : List R) : (aRs l).length = l.length := by rw [aRs_map, List.length_map]
theorem aRs_get (l : List R) (i : Nat) (h : i < l.length) : (aRs l)[i]? = some (aR l[i]) := by rw [aRs_map]; simp [h]
@[simp] theorem aRs_getElem (l : List R) (i : Nat) (h : i < (aRs l).length) : (aRs l)[i] = aR (l[i]'(by simpa using h)) := by simp only [aRs_map, List.getElem_map]
theorem aR_agg (r : R) : ∃ cs, aR r = .agg cs ∧ cs.length = 4 ∧ stripL cs = cs := by
  cases r with
  | mk k s n l => exact ⟨_, rfl, rfl, by simp⟩
@[simp] theorem aR_len (r : R) : (aR r).cells.length = 4 := by cases r; rfl
@[simp] theorem headOk_aRs : ∀ l : List R, headOk 4 (aRs l) = true
  | [] => rfl
  | r :: l => by simp only [aRs, headOk, aR_len, beq_self_eq_true]
def rs (l : List R) : AV := .L (aRs l)
@[simp] theorem strip_rs (l : List R) : (rs l).strip = rs l := by simp [rs]
@[simp] theorem clean_rs (n : Nat) (l : List R) : (rs l).clean n = true := by simp [rs]

theorem str_ok (s : S) : Ret cfg 34 [.str s] (aR (.mk 3 s 0 [])) := by
  refine Ret.of_body rfl rfl Try.func34 rfl (by simp) (by simp) ?_
  refine Ev.seq (Ev.region ?_)
  apply EvOps.run
  · intro call; simp [Try.f34]; exact rfl
  refine Ev.seq (Ev.region ?_)
  apply EvOps.run
  · intro call; simp [buildA, structPlaces, fillA, splice]; exact rfl
  exact Ev.ret ⟨_, by simp; rfl, by simp [aR, aRs]⟩
theorem text_ok (s : S) : Ret cfg 31 [.str s] (aR (.mk 0 s 0 [])) := by
  refine Ret.of_body rfl rfl Try.func31 rfl (by simp) (by simp) ?_
  refine Ev.seq (Ev.region ?_)
  apply EvOps.run
  · intro call; simp [Try.f31]; exact rfl
  refine Ev.seq (Ev.region ?_)
  apply EvOps.run
  · intro call; simp [buildA, structPlaces, fillA, splice]; exact rfl
  exact Ev.ret ⟨_, by simp; rfl, by simp [aR, aRs]⟩
theorem wrong_ok (s : S) : Ret cfg 32 [.str s] (aR (.mk 1 s 0 [])) := by
  refine Ret.of_body rfl rfl Try.func32 rfl (by simp) (by simp) ?_
  refine Ev.seq (Ev.region ?_)
  apply EvOps.run
  · intro call; simp [Try.f32]; exact rfl
  refine Ev.seq (Ev.region ?_)
  apply EvOps.run
  · intro call; simp [buildA, structPlaces, fillA, splice]; exact rfl
  exact Ev.ret ⟨_, by simp; rfl, by simp [aR, aRs]⟩
theorem int_ok (n : Int) : Ret cfg 33 [.int .i64 n] (aR (.mk 2 [] n [])) := by
  refine Ret.of_body rfl rfl Try.func33 rfl (by simp) (by simp) ?_
  refine Ev.seq (Ev.region ?_)
  apply EvOps.run
  · intro call; simp [Try.f33]; exact rfl
  refine Ev.seq (Ev.region ?_)
  apply EvOps.run
  · intro call; simp [buildA, structPlaces, fillA, splice]; exact rfl
  exact Ev.ret ⟨_, by simp; rfl, by simp [aR, aRs]⟩
theorem none_ok  : Ret cfg 35 [] (aR (.mk 4 [] 0 [])) := by
  refine Ret.of_body rfl rfl Try.func35 rfl (by simp) (by simp) ?_
  refine Ev.seq (Ev.region ?_)
  apply EvOps.run
  · intro call; simp [Try.f35]; exact rfl
  refine Ev.seq (Ev.region ?_)
  apply EvOps.run
  · intro call; simp [buildA, structPlaces, fillA, splice]; exact rfl
  exact Ev.ret ⟨_, by simp; rfl, by simp [aR, aRs]⟩
theorem cloneR_ok (l : List R) (hb : l.length < 2 ^ 36) : Ret cfg 64 [rs l] (rs l) := by
  refine Ret.of_prim (p := cloneA 4) rfl (by simp) ?_ (by simp)
  simp only [rs, cloneA, headOk_aRs, aRs_length, true_and, stripL_aRs]
  rw [if_pos (by omega)]
theorem list_ok (l : List R) (hb : l.length < 2 ^ 36) : Ret cfg 30 [rs l] (aR (.mk 5 [] 0 l)) := by
  refine Ret.of_body rfl rfl Try.func30 rfl (by simp) (by simp) ?_
  refine Ev.seq (Ev.region ?_)
  apply EvOps.run
  · intro call; simp [Try.f30]; exact rfl
  refine Ev.seq (Ev.region (EvOps.take 1 ?_))
  apply EvOps.run
  · intro call; simp; exact rfl
  refine EvOps.call rfl (by simp) (by simp <;> exact rfl) (by simp <;> exact rfl) (cloneR_ok l hb) ?_
  apply EvOps.run
  · intro call; simp [buildA, structPlaces, fillA, splice, rs]; exact rfl
  exact Ev.ret ⟨_, by simp; rfl, by simp [aR]⟩
theorem map_aR_take (f : S → R) (l : List S) (i : Nat) (h : i < l.length) : aRs ((l.take i).map f) ++ [aR (f l[i])] = aRs ((l.take (i + 1)).map f) := by
  rw [List.take_add_one, List.getElem?_eq_getElem h, List.map_append, aRs_map, aRs_map, List.map_append]; rfl
def bulk (s : S) : R := .mk 3 s 0 []
theorem strs2_ok (ss : List S) (hb : ss.length < 2 ^ 36) : Ret cfg 29 [strs ss] (aR (.mk 5 [] 0 (ss.map bulk))) := by
  refine Ret.of_body rfl rfl Try.func29 rfl (by simp) (by simp) ?_
  refine Ev.seq (Ev.region ?_)
  apply EvOps.run
  · intro call; simp [Try.f29]; exact rfl
  refine Ev.seq (Ev.region ?_)
  apply EvOps.run
  · intro call; simp; exact rfl
  refine Ev.seq (Ev.seq (Ev.region ?_))
  apply EvOps.run
  · intro call; simp [strs]; exact rfl
  refine Ev.block ?_
  refine Ev.loop (fun m st => ∃ fr h out i, st = ⟨fr, h, false⟩ ∧ fr.length = 20 ∧ slotAt fr 6 = some (strs ss) ∧ slotAt fr 7 = some (.int .i64 (ss.length : Nat)) ∧ slotAt fr 2 = some (.ptr 0 0) ∧ h[0]? = some (.cells [.int .i64 0, .str [], .int .i64 0, .nils]) ∧ slotAt fr 3 = some out ∧ Grow 4 h out (aRs ((ss.take i).map bulk)) ∧ tokOf out ≠ some 0 ∧ slotAt fr 8 = some (.int .i64 (i : Nat)) ∧ i ≤ ss.length ∧ m = ss.length - i) ?_ ss.length _ ?_
  · rintro m st ⟨fr, h, out, i, rfl, hl, h6, h7, h2, hh, h3, hg, ht, h8, hi, rfl⟩
    refine Ev.seq (Ev.region ?_)
    apply EvOps.run
    · intro call; simp [hl, h7, h8]; exact rfl
    refine Ev.seq (Ev.cond (decide (i < ss.length)) (by simp [hl]) (fun hc => Ev.skip ?_) (fun hc => Ev.exit ?_))
    · simp only [decide_eq_true_eq] at hc
      refine Ev.seq (Ev.block (Ev.seq (Ev.region ?_)))
      apply EvOps.run
      · intro call; simp [hl, h6, h8, strs, hc]; exact rfl
      refine Ev.region (EvOps.take 2 ?_)
      apply EvOps.run
      · intro call; simp [hl, h3]; exact rfl
      refine EvOps.call rfl (by simp) (by simp [hl] <;> exact rfl) (by simp <;> exact rfl) (str_ok ss[i]) (EvOps.take 1 ?_)
      apply EvOps.run
      · intro call; simp [hl, buildSliceA, aR, aRs]; exact rfl
      refine EvOps.append (x := out) (y := .list [aR (bulk ss[i])] true (some 1) none) rfl rfl (by simp) (by simp [hl, aR, bulk, aRs]) Try.underlying38 Try.underlying38 rfl Ty.s40 Ty.b40 Ty.z40 rfl hg (headOk_aRs _) (ys := [aR (bulk ss[i])]) (by simp [elemsA, headOk_cons, aR, bulk]) (by simp only [aRs_length, List.length_map, List.length_singleton, List.length_take]; omega) ?_
      intro out1 h1' hg1 hst
      apply EvOps.run
      · intro call; simp [hl]; exact rfl
      rw [map_aR_take _ _ _ hc] at hg1
      refine Ev.region ?_
      apply EvOps.run
      · intro call; simp [hl, h8, wrap_succ i (by omega)]; exact rfl
      have h0l : 0 < h.length := (List.getElem?_eq_some_iff.1 hh).1
      refine ⟨ss.length - (i + 1), by omega, _, _, out1, i + 1, rfl, by simp [hl], by simp [h6], by simp [h7], by simp [h2], ?_, by simp [hl], hg1, ?_, by simp [hl], by omega, rfl⟩
      · rw [hst.old 0 h0l ht]; exact hh
      · rcases hst.tok with e | e
        · rw [e]; exact ht
        · intro e'; have : h.length ≤ 0 := e 0 e'; omega
    · simp only [decide_eq_false_iff_not] at hc
      rw [List.take_of_length_le (by omega)] at hg
      refine Ev.seq (Ev.region (EvOps.take 1 ?_))
      apply EvOps.run
      · intro call; simp [hl, h3]; exact rfl
      refine EvOps.call rfl (by simp) (by simp [hl] <;> exact rfl) (by simp [hg.strip] <;> exact rfl) (list_ok (ss.map bulk) (by simpa using hb)) ?_
      have h0l : 0 < h.length := (List.getElem?_eq_some_iff.1 hh).1
      apply EvOps.run
      · intro call; simp [hl, h2, hh, aR, splice]; exact rfl
      refine Ev.ret ⟨aR (.mk 5 [] 0 (ss.map bulk)), ?_, by simp⟩
      simp [Try.f29, hl, h2, h0l, aR]
  · exact ⟨_, _, _, 0, rfl, by simp, by simp [strs], by simp, by simp, by simp, by simp, Grow.nils _ _, by simp [tokOf], by simp, by omega, rfl⟩
end Go.Proofs.Ytnifldbmflkmpaa

/-
  Same: two replies, part by part.
-/
namespace Go.Proofs.Ytnifldbmflkmpaa
open Go Ev
set_option linter.unusedVariables false
set_option linter.unusedSimpArgs false
set_option maxRecDepth 10000
theorem sameRs_drop (l l' : List R) (i : Nat) (h : i < l.length) (h' : i < l'.length) : sameRs (l.drop i) (l'.drop i) = (sameR l[i] l'[i] && sameRs (l.drop (i + 1)) (l'.drop (i + 1))) := by
  rw [List.drop_eq_getElem_cons h, List.drop_eq_getElem_cons h']
  simp only [sameRs]
theorem sameRs_len : ∀ l l' : List R, l.length ≠ l'.length → sameRs l l' = false
  | [], [], h => by simp at h
  | [], _ :: _, _ => by simp only [sameRs]
  | _ :: _, [], _ => by simp only [sameRs]
  | a :: l, b :: l', h => by simp only [sameRs, sameRs_len l l' (by simpa using h), Bool.and_false]
mutual
/-- No list in it is too long. -/
def okR : R → Prop
  | .mk _ _ _ l => l.length < 2 ^ 60 ∧ okRs l
def okRs : List R → Prop
  | [] => True
  | r :: l => okR r ∧ okRs l
end
theorem okRs_get : ∀ {l : List R} (i : Nat) (h : i < l.length), okRs l → okR l[i]
  | r :: l, 0, _, h => by simp only [okRs] at h; exact h.1
  | r :: l, i + 1, hi, h => by simp only [okRs] at h; exact okRs_get i (by simpa using hi) h.2
theorem elem_size {l : List R} {i : Nat} (h : i < l.length) : SizeOf.sizeOf l[i] < SizeOf.sizeOf l := List.sizeOf_lt_of_mem (List.getElem_mem h)
set_option maxHeartbeats 1000000 in
theorem same_ok : ∀ (a b : R), okR a → Ret cfg 28 [aR a, aR b] (.bool (sameR a b))
  | .mk k s n l, .mk k' s' n' l', hok => by
    simp only [okR] at hok
    obtain ⟨hl60, hok⟩ := hok
    have ih : ∀ (i : Nat) (h : i < l.length) (b : R), Ret cfg 28 [aR l[i], aR b] (.bool (sameR l[i] b)) := fun i h b =>
      have := elem_size h
      same_ok l[i] b (okRs_get i h hok)
    refine Ret.of_body rfl rfl Try.func28 rfl (by simp) (by simp) ?_
    refine Ev.seq (Ev.region ?_)
    apply EvOps.keep (h' := [.cells [.int .i64 k, .str s, .int .i64 n, rs l], .cells [.int .i64 k', .str s', .int .i64 n', rs l']]) (d' := false) (fun fr => fr.length = 53 ∧ slotAt fr 2 = some (.ptr 0 0) ∧ slotAt fr 3 = some (.ptr 1 0) ∧ slotAt fr 4 = some (.bool false))
    · intro call; simp [Try.f28, aR, rs]; exact rfl
    · exact ⟨by simp, by simp, by simp, by simp⟩
    rintro fr ⟨hl, h2, h3, h4⟩
    have hbad : ∀ fr : List AV, fr.length = 53 → sameR (.mk k s n l) (.mk k' s' n' l') = false →
        Ev cfg 0 ((Try.f28.body.get rfl) |> fun c => match c with | .seq _ (.seq (.seq _ (.cond _ c _)) _) => c | _ => .skip) ⟨fr, [.cells [.int .i64 k, .str s, .int .i64 n, rs l], .cells [.int .i64 k', .str s', .int .i64 n', rs l']], false⟩
          (onNormal (fun _ => False) (Done cfg Try.f28 (.bool (sameR (.mk k s n l) (.mk k' s' n' l'))))) := by
      intro fr hl hf
      refine Ev.seq (Ev.region ?_)
      apply EvOps.run
      · intro call; simp [hl]; exact rfl
      refine Ev.ret ⟨_, by simp [Try.f28, hl]; rfl, ?_⟩
      rw [hf, strip_bool]
    refine Ev.seq (Ev.seq (Ev.region ?_))
    cases e1 : k != k' with
    | true =>
      apply EvOps.keep (h' := [.cells [.int .i64 k, .str s, .int .i64 n, rs l], .cells [.int .i64 k', .str s', .int .i64 n', rs l']]) (d' := false) (fun fr => fr.length = 53 ∧ slotAt fr 33 = some (.bool true))
      · intro call; simp [hl, h2, h3, rs, e1]; exact rfl
      · exact ⟨by simp [hl], by simp [hl]⟩
      rintro fr ⟨hl, h33⟩
      refine Ev.cond true (by simp [h33]) (fun _ => ?_) (fun h => by simp at h)
      refine (hbad fr hl (by simp only [bne_iff_ne, ne_eq] at e1; simp [sameR, e1])).mono ?_
      intro x s hs; cases x <;> simp only [onNormal] at hs ⊢ <;> first | exact hs | exact hs.elim
    | false =>
    cases e2 : s == s' with
    | false =>
      apply EvOps.keep (h' := [.cells [.int .i64 k, .str s, .int .i64 n, rs l], .cells [.int .i64 k', .str s', .int .i64 n', rs l']]) (d' := false) (fun fr => fr.length = 53 ∧ slotAt fr 33 = some (.bool true))
      · intro call; simp [hl, h2, h3, rs, e1, e2]; exact rfl
      · exact ⟨by simp [hl], by simp [hl]⟩
      rintro fr ⟨hl, h33⟩
      refine Ev.cond true (by simp [h33]) (fun _ => ?_) (fun h => by simp at h)
      refine (hbad fr hl (by simp [sameR, e2])).mono ?_
      intro x s hs; cases x <;> simp only [onNormal] at hs ⊢ <;> first | exact hs | exact hs.elim
    | true =>
    cases e3 : n != n' with
    | true =>
      apply EvOps.keep (h' := [.cells [.int .i64 k, .str s, .int .i64 n, rs l], .cells [.int .i64 k', .str s', .int .i64 n', rs l']]) (d' := false) (fun fr => fr.length = 53 ∧ slotAt fr 33 = some (.bool true))
      · intro call; simp [hl, h2, h3, rs, e1, e2, e3]; exact rfl
      · exact ⟨by simp [hl], by simp [hl]⟩
      rintro fr ⟨hl, h33⟩
      refine Ev.cond true (by simp [h33]) (fun _ => ?_) (fun h => by simp at h)
      refine (hbad fr hl (by simp only [bne_iff_ne, ne_eq] at e3; simp [sameR, e3])).mono ?_
      intro x s hs; cases x <;> simp only [onNormal] at hs ⊢ <;> first | exact hs | exact hs.elim
    | false =>
    cases e4 : ((l.length : Int) != (l'.length : Int)) with
    | true =>
      apply EvOps.keep (h' := [.cells [.int .i64 k, .str s, .int .i64 n, rs l], .cells [.int .i64 k', .str s', .int .i64 n', rs l']]) (d' := false) (fun fr => fr.length = 53 ∧ slotAt fr 33 = some (.bool true))
      · intro call; simp [hl, h2, h3, rs, e1, e2, e3, e4]; exact rfl
      · exact ⟨by simp [hl], by simp [hl]⟩
      rintro fr ⟨hl, h33⟩
      refine Ev.cond true (by simp [h33]) (fun _ => ?_) (fun h => by simp at h)
      refine (hbad fr hl (by simp only [bne_iff_ne, ne_eq] at e4; simp [sameR, sameRs_len l l' (by omega)])).mono ?_
      intro x s hs; cases x <;> simp only [onNormal] at hs ⊢ <;> first | exact hs | exact hs.elim
    | false =>
    have hlen : l.length = l'.length := by simp at e4; omega
    have hsame : sameR (.mk k s n l) (.mk k' s' n' l') = sameRs l l' := by
      simp only [bne_eq_false_iff_eq] at e1 e3
      simp [sameR, e1, e3, e2]
    apply EvOps.keep (h' := [.cells [.int .i64 k, .str s, .int .i64 n, rs l], .cells [.int .i64 k', .str s', .int .i64 n', rs l']]) (d' := false) (fun fr => fr.length = 53 ∧ slotAt fr 2 = some (.ptr 0 0) ∧ slotAt fr 3 = some (.ptr 1 0) ∧ slotAt fr 33 = some (.bool false))
    · intro call; simp [hl, h2, h3, rs, e1, e2, e3, e4]; exact rfl
    · exact ⟨by simp [hl], by simp [h2], by simp [h3], by simp [hl]⟩
    clear hl h2 h3 h4 fr
    rintro fr ⟨hl, h2, h3, h33⟩
    refine Ev.cond false (by simp [h33]) (fun h => by simp at h) (fun _ => Ev.skip ?_)
    refine Ev.seq (Ev.seq (Ev.region ?_))
    apply EvOps.run
    · intro call; simp; exact rfl
    refine Ev.block ?_
    refine Ev.loop (fun m st => ∃ fr i, st = ⟨fr, [.cells [.int .i64 k, .str s, .int .i64 n, rs l], .cells [.int .i64 k', .str s', .int .i64 n', rs l']], false⟩ ∧ fr.length = 53 ∧ slotAt fr 2 = some (.ptr 0 0) ∧ slotAt fr 3 = some (.ptr 1 0) ∧ slotAt fr 5 = some (.int .i64 (i : Nat)) ∧ i ≤ l.length ∧ m = l.length - i ∧ sameRs l l' = sameRs (l.drop i) (l'.drop i)) ?_ l.length _ ?_
    · rintro m st ⟨fr, i, rfl, hl, h2, h3, h5, hi, rfl, hp⟩
      refine Ev.seq (Ev.seq (Ev.region ?_))
      apply EvOps.run
      · intro call; simp [hl, h2, h5, rs]; exact rfl
      refine Ev.cond (decide (i < l.length)) (by simp [hl]) (fun hc => Ev.skip ?_) (fun hc => Ev.exit ?_)
      · simp only [decide_eq_true_eq] at hc
        have hc' : i < l'.length := by omega
        have hstep := sameRs_drop l l' i hc hc'
        obtain ⟨c1, a1, a2, a3⟩ := aR_agg l[i]
        obtain ⟨c2, b1, b2, b3⟩ := aR_agg l'[i]
        have ih1 := ih i hc l'[i]
        rw [a1, b1] at ih1
        refine Ev.seq (Ev.block (Ev.seq (Ev.region (EvOps.take 10 ?_))))
        apply EvOps.run
        · intro call; simp [hl, h2, h3, h5, rs, hc, hc', a1, a2, b1, b2]; exact rfl
        refine EvOps.call rfl (by simp) (by simp [hl] <;> exact rfl) (by simp [a3, b3] <;> exact ⟨rfl, rfl⟩) ih1 ?_
        apply EvOps.run
        · intro call; simp [hl]; exact rfl
        refine Ev.cond (!(sameR l[i] l'[i])) (by simp [hl]) (fun he => ?_) (fun he => Ev.skip ?_)
        · refine Ev.seq (Ev.region ?_)
          apply EvOps.run
          · intro call; simp [hl]; exact rfl
          refine Ev.ret ⟨.bool false, by simp [Try.f28, hl], ?_⟩
          rw [hsame, hp, hstep]
          simp only [Bool.not_eq_true'] at he
          rw [he]; simp
        · refine Ev.region ?_
          apply EvOps.run
          · intro call; simp [hl, h5, wrap_succ i (by omega)]; exact rfl
          refine ⟨l.length - (i + 1), by omega, _, i + 1, rfl, by simp [hl], by simp [h2], by simp [h3], by simp [hl], by omega, rfl, ?_⟩
          simp only [Bool.not_eq_false'] at he
          rw [hp, hstep, he, Bool.true_and]
      · simp only [decide_eq_false_iff_not] at hc
        refine Ev.seq (Ev.region ?_)
        apply EvOps.run
        · intro call; simp [hl]; exact rfl
        refine Ev.ret ⟨.bool true, by simp [Try.f28, hl], ?_⟩
        rw [hsame, hp, List.drop_of_length_le (by omega), List.drop_of_length_le (by omega)]
        simp [sameRs]
    · exact ⟨_, 0, rfl, by simp [hl], by simp [h2], by simp [h3], by simp [hl], by omega, rfl, by simp⟩
termination_by a => SizeOf.sizeOf a
end Go.Proofs.Ytnifldbmflkmpaa

/-
  resp.bare, pentimentoref04.Size.
-/
namespace Go.Proofs.Ytnifldbmflkmpaa
open Go Ev
set_option linter.unusedVariables false
set_option linter.unusedSimpArgs false
set_option maxRecDepth 10000
set_option maxHeartbeats 4000000 in
theorem bare_ok (k : Int) (s : S) (n : Int) (l : List R) (b1 b2 b3 : Bool) : Ret cfg 98 [aR (.mk k s n l), .bool b1, .bool b2, .bool b3] (.bool ((b1 || s == []) && (b2 || n == 0) && (b3 || (l.length : Int) == 0))) := by
  refine Ret.of_body rfl rfl Try.func98 rfl (by simp) (by simp) ?_
  refine Ev.seq (Ev.region ?_)
  apply EvOps.keep (h' := [.cells [.int .i64 k, .str s, .int .i64 n, rs l]]) (d' := false) (fun fr => fr.length = 32 ∧ slotAt fr 4 = some (.ptr 0 0) ∧ slotAt fr 1 = some (.bool b1) ∧ slotAt fr 2 = some (.bool b2) ∧ slotAt fr 3 = some (.bool b3))
  · intro call; simp [Try.f98, aR, rs]; exact rfl
  · exact ⟨by simp, by simp, by simp, by simp, by simp⟩
  rintro fr ⟨hl, h4, h1, h2, h3⟩
  refine Ev.seq (Ev.region ?_)
  cases hs : (s == ([] : S)) <;> cases hn : (n == 0) <;> cases b1 <;> cases b2 <;> cases b3 <;>
  · apply EvOps.run
    · intro call; simp [-beq_iff_eq, hl, h1, h2, h3, h4, rs, hs, hn]; exact rfl
    refine Ev.ret ⟨_, by simp [Try.f98, hl]; rfl, ?_⟩
    simp
end Go.Proofs.Ytnifldbmflkmpaa

/-
  pentimentoref04.Size: the count by definition.
-/
namespace Go.Proofs.Ytnifldbmflkmpaa
open Go Ev
set_option linter.unusedVariables false
set_option linter.unusedSimpArgs false
set_option maxRecDepth 10000
mutual
/-- How many replies there are in one; 100000: too many, too deep, too long. -/
def sizeN : Nat → R → Nat
  | 0, _ => 100000
  | d + 1, .mk _ s _ l => if 2000 < s.length then 100000 else sizeNs d l 1
def sizeNs : Nat → List R → Nat → Nat
  | _, [], n => n
  | d, r :: l, n => if n < 100000 then sizeNs d l (n + sizeN d r) else n
end
mutual
theorem sizeN_le : ∀ (d : Nat) (r : R), sizeN d r ≤ 100000 * (d + 1)
  | 0, _ => by simp only [sizeN]; omega
  | d + 1, .mk k s n l => by
    simp only [sizeN]
    split
    · omega
    · have := sizeNs_le d l 1 (by omega); omega
theorem sizeNs_le : ∀ (d : Nat) (l : List R) (n : Nat), n ≤ 100000 * (d + 2) → sizeNs d l n ≤ 100000 * (d + 2)
  | d, [], n, h => by simpa only [sizeNs] using h
  | d, r :: l, n, h => by
    simp only [sizeNs]
    split
    · exact sizeNs_le d l _ (by have := sizeN_le d r; omega)
    · exact h
end
mutual
theorem sizeN_pos : ∀ (d : Nat) (r : R), 0 < sizeN d r
  | 0, _ => by simp only [sizeN]; omega
  | d + 1, .mk k s n l => by
    simp only [sizeN]
    split
    · omega
    · exact Nat.lt_of_lt_of_le (by omega) (sizeNs_ge d l 1).1
theorem sizeNs_ge : ∀ (d : Nat) (l : List R) (n : Nat), n ≤ sizeNs d l n ∧ (sizeNs d l n < 100000 → n + l.length ≤ sizeNs d l n)
  | d, [], n => by simp [sizeNs]
  | d, r :: l, n => by
    have h1 := sizeN_pos d r
    have h2 := sizeNs_ge d l (n + sizeN d r)
    simp only [sizeNs]
    split
    · simp only [List.length_cons]
      exact ⟨by omega, fun h => by have := h2.2 h; omega⟩
    · exact ⟨Nat.le_refl _, fun h => by omega⟩
end
theorem sizeNs_drop (d : Nat) (l : List R) (i n : Nat) (h : i < l.length) (hn : n < 100000) : sizeNs d (l.drop i) n = sizeNs d (l.drop (i + 1)) (n + sizeN d l[i]) := by
  rw [List.drop_eq_getElem_cons h]
  simp only [sizeNs, if_pos hn]
theorem sizeNs_full (d : Nat) (l : List R) (n : Nat) (h : ¬ n < 100000) : sizeNs d l n = n := by
  cases l <;> simp only [sizeNs, if_neg h]
set_option maxHeartbeats 2000000 in
theorem size_ok : ∀ (d : Nat) (r : R), d ≤ 100 → Ret cfg 25 [aR r, .int .i64 (d : Nat)] (.int .i64 (sizeN d r : Nat))
  | d, .mk k s n l, hd => by
    refine Ret.of_body rfl rfl Try.func25 rfl (by simp) (by simp) ?_
    refine Ev.seq (Ev.region ?_)
    apply EvOps.keep (h' := [.cells [.int .i64 k, .str s, .int .i64 n, rs l]]) (d' := false) (fun fr => fr.length = 37 ∧ slotAt fr 2 = some (.ptr 0 0) ∧ slotAt fr 1 = some (.int .i64 (d : Nat)))
    · intro call; simp [Try.f25, aR, rs]; exact rfl
    · exact ⟨by simp, by simp, by simp⟩
    rintro fr ⟨hl, h2, h1⟩
    have big : ∀ fr : List AV, fr.length = 37 → sizeN d (.mk k s n l) = 100000 →
        Ev cfg 0 ((Try.f25.body.get rfl) |> fun c => match c with | .seq _ (.seq (.seq _ (.cond _ c _)) _) => c | _ => .skip) ⟨fr, [.cells [.int .i64 k, .str s, .int .i64 n, rs l]], false⟩ (onNormal (fun _ => False) (Done cfg Try.f25 (.int .i64 (sizeN d (.mk k s n l) : Nat)))) := by
      intro fr hl hq
      refine Ev.seq (Ev.region ?_)
      apply EvOps.run
      · intro call; simp [hl]; exact rfl
      refine Ev.ret ⟨.int .i64 100000, by simp [Try.f25, hl], ?_⟩
      rw [hq]; rfl
    refine Ev.seq (Ev.seq (Ev.region ?_))
    cases d with
    | zero =>
      apply EvOps.keep (h' := [.cells [.int .i64 k, .str s, .int .i64 n, rs l]]) (d' := false) (fun fr => fr.length = 37 ∧ slotAt fr 14 = some (.bool true))
      · intro call; simp [hl, h1]; exact rfl
      · exact ⟨by simp [hl], by simp [hl]⟩
      rintro fr ⟨hl, h14⟩
      refine Ev.cond true (by simp [h14]) (fun _ => ?_) (fun h => by simp at h)
      refine (big fr hl (by simp only [sizeN])).mono ?_
      intro x s hs; cases x <;> simp only [onNormal] at hs ⊢ <;> first | exact hs | exact hs.elim
    | succ d =>
      by_cases hs : 2000 < s.length
      · apply EvOps.keep (h' := [.cells [.int .i64 k, .str s, .int .i64 n, rs l]]) (d' := false) (fun fr => fr.length = 37 ∧ slotAt fr 14 = some (.bool true))
        · intro call; simp [hl, h1, h2, show (2000 : Int) < s.length by omega]; exact rfl
        · exact ⟨by simp [hl], by simp [hl]⟩
        rintro fr ⟨hl, h14⟩
        refine Ev.cond true (by simp [h14]) (fun _ => ?_) (fun h => by simp at h)
        refine (big fr hl (by simp only [sizeN, if_pos hs])).mono ?_
        intro x s hs; cases x <;> simp only [onNormal] at hs ⊢ <;> first | exact hs | exact hs.elim
      · apply EvOps.keep (h' := [.cells [.int .i64 k, .str s, .int .i64 n, rs l]]) (d' := false) (fun fr => fr.length = 37 ∧ slotAt fr 2 = some (.ptr 0 0) ∧ slotAt fr 1 = some (.int .i64 ((d + 1 : Nat) : Int)) ∧ slotAt fr 14 = some (.bool false))
        · intro call; simp [hl, h1, h2, show ¬ (2000 : Int) < s.length by omega]; exact rfl
        · exact ⟨by simp [hl], by simp [h2], by simp [h1], by simp [hl]⟩
        clear hl h1 h2 fr big
        rintro fr ⟨hl, h2, h1, h14⟩
        refine Ev.cond false (by simp [h14]) (fun h => by simp at h) (fun _ => Ev.skip ?_)
        refine Ev.seq (Ev.region ?_)
        apply EvOps.run
        · intro call; simp; exact rfl
        refine Ev.seq (Ev.seq (Ev.region ?_))
        apply EvOps.run
        · intro call; simp; exact rfl
        refine Ev.block ?_
        have hres : sizeN (d + 1) (.mk k s n l) = sizeNs d l 1 := by simp only [sizeN, if_neg hs]
        refine Ev.loop (fun m st => ∃ fr i q, st = ⟨fr, [.cells [.int .i64 k, .str s, .int .i64 n, rs l]], false⟩ ∧ fr.length = 37 ∧ slotAt fr 2 = some (.ptr 0 0) ∧ slotAt fr 1 = some (.int .i64 ((d + 1 : Nat) : Int)) ∧ slotAt fr 5 = some (.int .i64 (q : Nat)) ∧ slotAt fr 6 = some (.int .i64 (i : Nat)) ∧ i ≤ l.length ∧ m = l.length - i ∧ sizeNs d l 1 = sizeNs d (l.drop i) q ∧ q ≤ 100000 * (d + 2) ∧ i < q) ?_ l.length _ ?_
        · rintro m st ⟨fr, i, q, rfl, hl, h2, h1, h5, h6, hi, rfl, hp, hq, hiq⟩
          have fin : ∀ fr : List AV, fr.length = 37 → slotAt fr 5 = some (.int .i64 (q : Nat)) → sizeNs d (l.drop i) q = q →
              Ev cfg 0 ((Try.f25.body.get rfl) |> fun c => match c with | .seq _ (.seq _ (.seq _ (.seq _ c))) => c | _ => .skip) ⟨fr, [.cells [.int .i64 k, .str s, .int .i64 n, rs l]], false⟩ (Done cfg Try.f25 (.int .i64 (sizeN (d + 1) (.mk k s n l) : Nat))) := by
            intro fr hl h5 he
            refine Ev.seq (Ev.region ?_)
            apply EvOps.run
            · intro call; simp [hl, h5]; exact rfl
            refine Ev.ret ⟨.int .i64 (q : Nat), by simp [Try.f25, hl], ?_⟩
            rw [hres, hp, he, strip_int]
          by_cases c1 : i < l.length
          · by_cases c2 : q < 100000
            · refine Ev.seq (Ev.seq (Ev.region ?_))
              apply EvOps.run
              · intro call; simp [hl, h2, h5, h6, rs, c1, show (q : Int) < 100000 by omega]; exact rfl
              refine Ev.cond true (by simp [hl]) (fun _ => Ev.skip ?_) (fun h => by simp at h)
              obtain ⟨cs, a1, a2, a3⟩ := aR_agg l[i]
              have ih := size_ok d l[i] (by omega)
              have hpos := sizeN_pos d l[i]
              have hsz := sizeN_le d l[i]
              rw [a1] at ih
              refine Ev.seq (Ev.block (Ev.region (EvOps.take 8 ?_)))
              apply EvOps.run
              · intro call; simp [hl, h1, h2, h5, h6, rs, c1, a1, a2, wrap_int (d : Int) (by omega) (by omega)]; exact rfl
              refine EvOps.call rfl (by simp) (by simp [hl] <;> exact rfl) (by simp [a3]) ih ?_
              apply EvOps.run
              · intro call; simp [hl, wrap_int ((q : Int) + (sizeN d l[i] : Nat)) (by omega) (by omega)]; exact rfl
              refine Ev.region ?_
              apply EvOps.run
              · intro call; simp [hl, h6, wrap_succ i (by omega)]; exact rfl
              exact ⟨l.length - (i + 1), by omega, _, i + 1, q + sizeN d l[i], rfl, by simp [hl], by simp [h2], by simp [h1], by simp [hl], by simp [hl], by omega, rfl, by rw [hp, sizeNs_drop d l i q c1 c2], by omega, by omega⟩
            · refine Ev.seq (Ev.seq (Ev.region ?_))
              apply EvOps.run
              · intro call; simp [hl, h2, h5, h6, rs, c1, show ¬ (q : Int) < 100000 by omega]; exact rfl
              refine Ev.cond false (by simp [hl]) (fun h => by simp at h) (fun _ => Ev.exit ?_)
              exact fin _ (by simp [hl]) (by simp [h5]) (sizeNs_full d _ q c2)
          · refine Ev.seq (Ev.seq (Ev.region ?_))
            apply EvOps.run
            · intro call; simp [hl, h2, h5, h6, rs, c1]; exact rfl
            refine Ev.cond false (by simp [hl]) (fun h => by simp at h) (fun _ => Ev.exit ?_)
            exact fin _ (by simp [hl]) (by simp [h5]) (by rw [List.drop_of_length_le (by omega)]; simp only [sizeNs])
        · exact ⟨_, 0, 1, rfl, by simp [hl], by simp [h2], by simp [h1], by simp [hl], by simp [hl], by omega, rfl, by simp, by omega, by omega⟩
end Go.Proofs.Ytnifldbmflkmpaa

/-
  pentimentoref04.Right: which replies are right.
-/
namespace Go.Proofs.Ytnifldbmflkmpaa
open Go Ev
set_option linter.unusedVariables false
set_option linter.unusedSimpArgs false
set_option maxRecDepth 10000
def badHead (k : Int) (s : S) (n : Int) (l : List R) : Bool :=
  decide (k < 0) || decide (5 < k) || (k != 5 && decide (0 < l.length)) || (k != 2 && n != 0) || (k != 0 && k != 1 && k != 3 && s != [])
def lineS (s : S) : Bool := s.all (fun b => b != 13 && b != 10)
mutual
def rightR (d : Nat) : R → Bool
  | .mk k s n l => !badHead k s n l && (decide (2 ≤ k) || lineS s) && (k != 5 || d != 0) && rightRs (d - 1) l
def rightRs (d : Nat) : List R → Bool
  | [] => true
  | r :: l => rightR d r && rightRs d l
end
end Go.Proofs.Ytnifldbmflkmpaa

/-
  num.Print: a number's text.
-/
namespace Go.Proofs.Ytnifldbmflkmpaa
open Go Ev
set_option linter.unusedVariables false
set_option linter.unusedSimpArgs false
set_option maxRecDepth 10000
/-- Decimal digits. -/
def digs (n : Nat) : S := if n < 10 then [UInt8.ofNat (48 + n)] else digs (n / 10) ++ [UInt8.ofNat (48 + n % 10)]
termination_by n
decreasing_by omega
def decS (n : Int) : S := if n < 0 then 45 :: digs n.natAbs else digs n.natAbs
theorem digs_length : ∀ (k n : Nat), 0 < k → n < 10 ^ k → (digs n).length ≤ k
  | 0, _, h, _ => by omega
  | k + 1, n, _, h => by
    rw [digs]
    split
    · simp
    · rename_i hn
      have hk : 0 < k := by
        rcases Nat.eq_zero_or_pos k with e | e
        · subst e; simp at h; omega
        · exact e
      have := digs_length k (n / 10) hk (by rw [Nat.pow_succ] at h; omega)
      simp only [List.length_append, List.length_cons, List.length_nil]
      omega
theorem digs_pos (n : Nat) : 0 < (digs n).length := by rw [digs]; split <;> simp
theorem tmod10 (a : Int) : a.tmod 10 = (if a < 0 then -((a.natAbs % 10 : Nat) : Int) else ((a.natAbs % 10 : Nat) : Int)) := by
  cases a with
  | ofNat m => rw [if_neg (by simp)]; rfl
  | negSucc m => rw [if_pos (Int.negSucc_lt_zero m)]; rfl
theorem tdiv10 (a : Int) : (a.tdiv 10).natAbs = a.natAbs / 10 := by rw [Int.natAbs_tdiv]; rfl
theorem wrap_u8 (n : Nat) (h : n < 256) : IntKind.wrap .u8 (n : Int) = n := by simp [IntKind.wrap, IntKind.bits, IntKind.signed]; omega
end Go.Proofs.Ytnifldbmflkmpaa

/-
  num.Print: the run.
-/
namespace Go.Proofs.Ytnifldbmflkmpaa
open Go Ev
set_option linter.unusedVariables false
set_option linter.unusedSimpArgs false
set_option maxRecDepth 10000
theorem digs_step (n : Nat) (h : ¬ n < 10) : digs n = digs (n / 10) ++ [UInt8.ofNat (48 + n % 10)] := by rw [digs, if_neg h]
theorem digs_last (n : Nat) (h : n < 10) : digs n = [UInt8.ofNat (48 + n % 10)] := by rw [digs, if_pos h, Nat.mod_eq_of_lt h]
theorem drop_splice (c : List AV) (i : Nat) (v : AV) (h : i < c.length) : (splice c i [v]).drop i = v :: c.drop (i + 1) := by
  unfold splice
  rw [List.append_assoc, List.drop_append_of_le_length (by simp; omega), List.drop_of_length_le (by simp; omega)]
  simp
theorem splice_length (c : List AV) (i : Nat) (v : AV) (h : i < c.length) : (splice c i [v]).length = c.length := by
  unfold splice; simp; omega
theorem byte48 (d : Nat) (h : d < 10) : AV.int .u8 ((UInt8.ofNat (48 + d)).toNat : Int) = AV.int .u8 (48 + (d : Int)) := by
  congr 1
  simp only [UInt8.toNat_ofNat']
  omega
theorem bytesOf_ofBytes : ∀ s : S, bytesOf (ofBytes s) = some s
  | [] => rfl
  | b :: s => by
    have ih := bytesOf_ofBytes s
    simp only [ofBytes, List.map_cons] at ih ⊢
    simp only [bytesOf, ih, Option.map_some]
    simp
theorem ofBytes_length (s : S) : (ofBytes s).length = s.length := by simp [ofBytes]
set_option maxHeartbeats 2000000 in
theorem print_fin (n : Int) (fr : List AV) (c : List AV) (j : Nat) (hl : fr.length = 38) (g0 : slotAt fr 0 = some (.int .i64 n)) (g3 : slotAt fr 3 = some (.ptr 0 0)) (g4 : slotAt fr 4 = some (.int .i64 (j : Nat))) (hc : c.length = 20) (hs : c.drop j = ofBytes (digs n.natAbs)) (hj : 1 ≤ j) (hj' : j < 20) :
    Ev cfg 0 ((Try.f72.body.get rfl) |> fun c => match c with | .seq _ (.seq _ (.seq _ (.seq _ d))) => d | _ => .skip) ⟨fr, [.cells c], false⟩ (Done cfg Try.f72 (.str (decS n))) := by
  have last : ∀ (fr : List AV) (c : List AV) (i : Nat), fr.length = 38 → slotAt fr 3 = some (.ptr 0 0) → slotAt fr 4 = some (.int .i64 (i : Nat)) → c.length = 20 → i < 20 → c.drop i = ofBytes (decS n) →
      Ev cfg 0 ((Try.f72.body.get rfl) |> fun c => match c with | .seq _ (.seq _ (.seq _ (.seq _ (.seq _ d)))) => d | _ => .skip) ⟨fr, [.cells c], false⟩ (Done cfg Try.f72 (.str (decS n))) := by
    intro fr c i hl g3 g4 hc hi hs
    have htake : (c.drop i).take (20 - i) = ofBytes (decS n) := by rw [List.take_of_length_le (by simp [hc]), hs]
    refine Ev.seq (Ev.region ?_)
    apply EvOps.run
    · intro call; simp [hl, g3, g4, sliceA, show (i : Int) ≤ 20 by omega, show ¬ (20 = i) by omega, show i + (20 - i) ≤ c.length by omega, htake, bytesOf_ofBytes]; exact rfl
    exact Ev.ret ⟨_, by simp [Try.f72, hl]; rfl, by simp⟩
  refine Ev.seq (Ev.seq (Ev.region ?_))
  by_cases hn : n < 0
  · obtain ⟨i, rfl⟩ : ∃ i, j = i + 1 := ⟨j - 1, by omega⟩
    apply EvOps.run
    · intro call; simp [hl, g0, hn]; exact rfl
    refine Ev.cond true (by simp [hl]) (fun _ => ?_) (fun h => by simp at h)
    refine Ev.seq (Ev.region ?_)
    apply EvOps.run
    · intro call; simp [hl, g4, wrap_int (i : Int) (by omega) (by omega)]; exact rfl
    refine Ev.region ?_
    apply EvOps.run
    · intro call; simp [hl, g3, show ((i : Int) < 20) by omega, show i + 1 ≤ c.length by omega]; exact rfl
    refine last _ _ i (by simp [hl]) (by simp [g3]) (by simp [hl]) (by rw [splice_length _ _ _ (by omega)]; exact hc) (by omega) ?_
    rw [drop_splice _ _ _ (by omega), hs, decS, if_pos hn]
    rfl
  · apply EvOps.run
    · intro call; simp [hl, g0, hn]; exact rfl
    refine Ev.cond false (by simp [hl]) (fun h => by simp at h) (fun _ => Ev.skip ?_)
    exact last _ c j (by simp [hl]) (by simp [g3]) (by simp [g4]) hc hj' (by rw [hs, decS, if_neg hn])
set_option maxHeartbeats 2000000 in
theorem print_ok (n : Int) (h0 : -(2 ^ 63) ≤ n) (h1 : n < 2 ^ 63) : Ret cfg 72 [.int .i64 n] (.str (decS n)) := by
  refine Ret.of_body rfl rfl Try.func72 rfl (by simp) (by simp) ?_
  refine Ev.seq (Ev.region ?_)
  apply EvOps.run
  · intro call; simp [Try.f72]; exact rfl
  refine Ev.seq (Ev.region ?_)
  apply EvOps.run
  · intro call; simp; exact rfl
  refine Ev.seq (Ev.region ?_)
  apply EvOps.run
  · intro call; simp; exact rfl
  refine Ev.seq (Ev.seq (Ev.region ?_))
  apply EvOps.run
  · intro call; simp; exact rfl
  refine Ev.block ?_
  refine Ev.loop (fun m st => ∃ fr c left at_ suf, st = ⟨fr, [.cells c], false⟩ ∧ fr.length = 38 ∧ slotAt fr 0 = some (.int .i64 n) ∧ slotAt fr 3 = some (.ptr 0 0) ∧ slotAt fr 4 = some (.int .i64 (at_ : Nat)) ∧ slotAt fr 5 = some (.int .i64 left) ∧ c.length = 20 ∧ c.drop at_ = ofBytes suf ∧ digs n.natAbs = digs left.natAbs ++ suf ∧ at_ + suf.length = 20 ∧ (digs left.natAbs).length + suf.length ≤ 19 ∧ -(2 ^ 63) ≤ left ∧ left < 2 ^ 63 ∧ m = left.natAbs) ?_ n.natAbs _ ?_
  · rintro m st ⟨fr, c, left, at_, suf, rfl, hl, g0, g3, g4, g5, hc, hsuf, hdig, hat, hlen, hl0, hl1, rfl⟩
    have hpos := digs_pos left.natAbs
    refine Ev.seq (Ev.block (Ev.seq (Ev.region ?_)))
    have hd10 : left.natAbs % 10 < 10 := Nat.mod_lt _ (by omega)
    apply EvOps.keep (h' := [.cells c]) (d' := false) (fun fr => fr.length = 38 ∧ slotAt fr 0 = some (.int .i64 n) ∧ slotAt fr 3 = some (.ptr 0 0) ∧ slotAt fr 4 = some (.int .i64 (at_ : Nat)) ∧ slotAt fr 5 = some (.int .i64 left) ∧ slotAt fr 6 = some (.int .i64 (left.tmod 10)))
    · intro call; simp [hl, g5]; exact rfl
    · exact ⟨by simp [hl], by simp [g0], by simp [g3], by simp [g4], by simp [g5], by simp [hl]⟩
    clear hl g0 g3 g4 g5 fr
    rintro fr ⟨hl, g0, g3, g4, g5, g6⟩
    obtain ⟨D, hD⟩ : ∃ D, D = left.natAbs % 10 := ⟨_, rfl⟩
    obtain ⟨j, rfl⟩ : ∃ j, at_ = j + 1 := ⟨at_ - 1, by omega⟩
    rw [tmod10, ← hD] at g6
    rw [← hD] at hd10
    -- behind the sign of the digit
    have rest : ∀ fr : List AV, fr.length = 38 → slotAt fr 0 = some (.int .i64 n) → slotAt fr 3 = some (.ptr 0 0) → slotAt fr 4 = some (.int .i64 ((j + 1 : Nat) : Int)) → slotAt fr 5 = some (.int .i64 left) → slotAt fr 6 = some (.int .i64 (D : Nat)) →
        Ev cfg 0 ((Try.f72.body.get rfl) |> fun c => match c with | .seq _ (.seq _ (.seq _ (.seq (.seq _ (.block _ (.loop (.seq (.block _ (.seq _ (.seq _ d))) _)))) _))) => d | _ => .skip) ⟨fr, [.cells c], false⟩ (fun x s => ∃ fr', s = ⟨fr', [.cells (splice c j [.int .u8 (48 + (D : Int))])], false⟩ ∧ fr'.length = 38 ∧ slotAt fr' 0 = some (.int .i64 n) ∧ slotAt fr' 3 = some (.ptr 0 0) ∧ slotAt fr' 4 = some (.int .i64 (j : Nat)) ∧ slotAt fr' 5 = some (.int .i64 left) ∧ ((x = .exit 0 ∧ left.natAbs < 10) ∨ (x = .normal ∧ ¬ left.natAbs < 10))) := by
      intro fr hl g0 g3 g4 g5 g6
      refine Ev.seq (Ev.region ?_)
      apply EvOps.run
      · intro call; simp [hl, g4, wrap_int (j : Int) (by omega) (by omega)]; exact rfl
      refine Ev.seq (Ev.region ?_)
      apply EvOps.run
      · intro call; simp [hl, g3, g6, wrap_int (48 + (D : Int)) (by omega) (by omega), show ((j : Int) < 20) by omega, show j + 1 ≤ c.length by omega]; exact rfl
      have hu8 : IntKind.wrap .u8 (48 + (D : Int)) = 48 + (D : Int) := by have := wrap_u8 (48 + D) (by omega); simpa using this
      refine Ev.seq (Ev.region ?_)
      by_cases b1 : (-10 : Int) < left
      · by_cases b2 : left < 10
        · apply EvOps.run
          · intro call; simp [hl, g5, b1, b2]; exact rfl
          refine Ev.cond true (by simp [hl]) (fun _ => Ev.exit ?_) (fun h => by simp at h)
          exact ⟨_, by rw [hu8], by simp [hl], by simp [g0], by simp [g3], by simp [hl], by simp [g5], .inl ⟨rfl, by omega⟩⟩
        · apply EvOps.run
          · intro call; simp [hl, g5, b1, b2]; exact rfl
          refine Ev.cond false (by simp [hl]) (fun h => by simp at h) (fun _ => Ev.skip ?_)
          exact ⟨_, by rw [hu8], by simp [hl], by simp [g0], by simp [g3], by simp [hl], by simp [g5], .inr ⟨rfl, by omega⟩⟩
      · apply EvOps.run
        · intro call; simp [hl, g5, b1]; exact rfl
        refine Ev.cond false (by simp [hl]) (fun h => by simp at h) (fun _ => Ev.skip ?_)
        exact ⟨_, by rw [hu8], by simp [hl], by simp [g0], by simp [g3], by simp [hl], by simp [g5], .inr ⟨rfl, by omega⟩⟩
    have hcl : (splice c j [.int .u8 (48 + (D : Int))]).length = 20 := by rw [splice_length _ _ _ (by omega)]; exact hc
    have hdrop : (splice c j [.int .u8 (48 + (D : Int))]).drop j = ofBytes (UInt8.ofNat (48 + D) :: suf) := by
      rw [drop_splice _ _ _ (by omega), hsuf, ← byte48 D hd10]
      rfl
    refine Ev.seq (Ev.seq (Ev.region ?_))
    have hb : (left.tdiv 10).natAbs < 2 ^ 60 := by rw [tdiv10]; omega
    by_cases hneg : left < 0 ∧ D ≠ 0
    · rw [if_pos hneg.1] at g6
      apply EvOps.run
      · intro call; simp [hl, g6, show (-(D : Int) < 0) by omega]; exact rfl
      refine Ev.cond true (by simp [hl]; omega) (fun _ => ?_) (fun h => by simp at h)
      refine Ev.region ?_
      apply EvOps.run
      · intro call; simp [hl, g6, wrap_int (D : Int) (by omega) (by omega)]; exact rfl
      refine (rest _ (by simp [hl]) (by simp [g0]) (by simp [g3]) (by simp [g4]) (by simp [g5]) (by simp [hl])).mono ?_
      rintro x s ⟨fr', rfl, k1, k2, k3, k4, k5, ⟨rfl, hlt⟩ | ⟨rfl, hge⟩⟩
      · refine print_fin n fr' _ j k1 k2 k3 k4 hcl ?_ (by simp only [digs_last _ hlt, List.length_cons, List.length_nil] at hlen; omega) (by omega)
        rw [hdrop, hdig, digs_last _ hlt, hD]
        rfl
      · have hstep := digs_step _ hge
        refine Ev.region ?_
        apply EvOps.run
        · intro call; simp [k1, k5, wrap_int (left.tdiv 10) (by omega) (by omega)]; exact rfl
        refine ⟨(left.tdiv 10).natAbs, by rw [tdiv10]; omega, _, _, left.tdiv 10, j, UInt8.ofNat (48 + D) :: suf, rfl, by simp [k1], by simp [k2], by simp [k3], by simp [k4], by simp [k1], hcl, hdrop, ?_, by simp only [List.length_cons]; omega, ?_, by omega, by omega, rfl⟩
        · rw [hdig, hstep, tdiv10, hD, List.append_assoc]; rfl
        · rw [hstep, List.length_append] at hlen; rw [tdiv10]; simp only [List.length_cons, List.length_nil] at hlen ⊢; omega
    · have g6' : slotAt fr 6 = some (.int .i64 (D : Nat)) := by
        rw [g6]
        split
        · rename_i h
          have : D = 0 := Classical.byContradiction fun hd => hneg ⟨h, hd⟩
          subst this; rfl
        · rfl
      apply EvOps.run
      · intro call; simp [hl, g6']; exact rfl
      refine Ev.cond false (by simp [hl] <;> omega) (fun h => by simp at h) (fun _ => Ev.skip ?_)
      refine (rest _ (by simp [hl]) (by simp [g0]) (by simp [g3]) (by simp [g4]) (by simp [g5]) (by simp [g6'])).mono ?_
      rintro x s ⟨fr', rfl, k1, k2, k3, k4, k5, ⟨rfl, hlt⟩ | ⟨rfl, hge⟩⟩
      · refine print_fin n fr' _ j k1 k2 k3 k4 hcl ?_ (by simp only [digs_last _ hlt, List.length_cons, List.length_nil] at hlen; omega) (by omega)
        rw [hdrop, hdig, digs_last _ hlt, hD]
        rfl
      · have hstep := digs_step _ hge
        refine Ev.region ?_
        apply EvOps.run
        · intro call; simp [k1, k5, wrap_int (left.tdiv 10) (by omega) (by omega)]; exact rfl
        refine ⟨(left.tdiv 10).natAbs, by rw [tdiv10]; omega, _, _, left.tdiv 10, j, UInt8.ofNat (48 + D) :: suf, rfl, by simp [k1], by simp [k2], by simp [k3], by simp [k4], by simp [k1], hcl, hdrop, ?_, by simp only [List.length_cons]; omega, ?_, by omega, by omega, rfl⟩
        · rw [hdig, hstep, tdiv10, hD, List.append_assoc]; rfl
        · rw [hstep, List.length_append] at hlen; rw [tdiv10]; simp only [List.length_cons, List.length_nil] at hlen ⊢; omega
  · exact ⟨_, _, n, 20, [], rfl, by simp, by simp, by simp, by simp, by simp, by simp, by simp [ofBytes], by simp, by simp, by have := digs_length 19 n.natAbs (by omega) (by omega); simpa using this, h0, h1, rfl⟩
end Go.Proofs.Ytnifldbmflkmpaa

/-
  The encodings of right replies: none is the beginning of another's.
-/
namespace Go.Proofs.Ytnifldbmflkmpaa
open Go Ev
set_option linter.unusedVariables false
set_option linter.unusedSimpArgs false
def crlf : S := [13, 10]
mutual
/-- A reply, as it is written. -/
def encR : R → S
  | .mk k s n l =>
    if k = 0 then 43 :: (s ++ crlf)
    else if k = 1 then 45 :: (s ++ crlf)
    else if k = 2 then 58 :: (decS n ++ crlf)
    else if k = 3 then 36 :: (decS (s.length : Int) ++ crlf ++ s ++ crlf)
    else if k = 5 then 42 :: (decS (l.length : Int) ++ crlf ++ encRs l)
    else [36, 45, 49, 13, 10]
def encRs : List R → S
  | [] => []
  | r :: l => encR r ++ encRs l
end
/-- What digits tell. -/
def valD (s : S) : Nat := s.foldl (fun a b => a * 10 + (b.toNat - 48)) 0
theorem valD_digs : ∀ n : Nat, valD (digs n) = n := by
  intro n
  induction n using Nat.strongRecOn with
  | ind n ih =>
    rw [digs]
    split
    · rename_i h
      simp only [valD, List.foldl_cons, List.foldl_nil, UInt8.toNat_ofNat']
      omega
    · rename_i h
      have := ih (n / 10) (by omega)
      simp only [valD] at this
      simp only [valD, List.foldl_append, this, List.foldl_cons, List.foldl_nil, UInt8.toNat_ofNat']
      omega
theorem digs_inj {n m : Nat} (h : digs n = digs m) : n = m := by rw [← valD_digs n, ← valD_digs m, h]
theorem digs_in : ∀ (n : Nat) (b : UInt8), b ∈ digs n → 48 ≤ b.toNat ∧ b.toNat ≤ 57 := by
  intro n
  induction n using Nat.strongRecOn with
  | ind n ih =>
    intro b hb
    rw [digs] at hb
    split at hb
    · rename_i h
      simp only [List.mem_singleton] at hb
      subst hb
      simp only [UInt8.toNat_ofNat']
      omega
    · rename_i h
      simp only [List.mem_append, List.mem_singleton] at hb
      rcases hb with hb | hb
      · exact ih (n / 10) (by omega) b hb
      · subst hb
        simp only [UInt8.toNat_ofNat']
        omega
theorem digs_head (n : Nat) : ∃ b l, digs n = b :: l ∧ 48 ≤ b.toNat ∧ b.toNat ≤ 57 := by
  have := digs_pos n
  match h : digs n with
  | [] => rw [h] at this; simp at this
  | b :: l => exact ⟨b, l, rfl, digs_in n b (by rw [h]; simp)⟩
theorem decS_inj {n m : Int} (h : decS n = decS m) : n = m := by
  unfold decS at h
  split at h <;> split at h
  · rename_i h1 h2
    have := digs_inj (List.cons.inj h).2
    omega
  · obtain ⟨b, l, e, h3, _⟩ := digs_head m.natAbs
    rw [e] at h
    have := (List.cons.inj h).1
    subst this
    simp at h3
  · obtain ⟨b, l, e, h3, _⟩ := digs_head n.natAbs
    rw [e] at h
    have := (List.cons.inj h).1
    subst this
    simp at h3
  · have := digs_inj h
    omega
theorem lineS_iff (s : S) : lineS s = true ↔ ∀ b ∈ s, b ≠ 13 ∧ b ≠ 10 := by
  simp [lineS]
theorem lineS_decS (n : Int) : lineS (decS n) = true := by
  rw [lineS_iff]
  intro b hb
  have key : ∀ m : Nat, b ∈ digs m → b ≠ 13 ∧ b ≠ 10 := by
    intro m hm
    have := digs_in m b hm
    constructor <;> (intro e; subst e; simp at this)
  unfold decS at hb
  split at hb
  · simp only [List.mem_cons] at hb
    rcases hb with rfl | hb
    · decide
    · exact key _ hb
  · exact key _ hb
theorem line_cut : ∀ {s s' x y : S}, lineS s = true → lineS s' = true → s ++ (13 :: x) = s' ++ (13 :: y) → s = s' ∧ x = y
  | [], [], x, y, _, _, h => by simpa using h
  | [], b :: s', x, y, _, h2, h => by
    rw [lineS_iff] at h2
    simp only [List.nil_append, List.cons_append, List.cons.injEq] at h
    exact ((h2 b (by simp)).1 h.1.symm).elim
  | b :: s, [], x, y, h1, _, h => by
    rw [lineS_iff] at h1
    simp only [List.nil_append, List.cons_append, List.cons.injEq] at h
    exact ((h1 b (by simp)).1 h.1).elim
  | b :: s, b' :: s', x, y, h1, h2, h => by
    simp only [List.cons_append, List.cons.injEq] at h
    have h1' : lineS s = true := by simp only [lineS, List.all_cons, Bool.and_eq_true] at h1 ⊢; exact h1.2
    have h2' : lineS s' = true := by simp only [lineS, List.all_cons, Bool.and_eq_true] at h2 ⊢; exact h2.2
    obtain ⟨e1, e2⟩ := line_cut h1' h2' h.2
    exact ⟨by rw [h.1, e1], e2⟩
theorem crlf_cut {s s' x y : S} (h1 : lineS s = true) (h2 : lineS s' = true) (h : s ++ crlf ++ x = s' ++ crlf ++ y) : s = s' ∧ x = y := by
  simp only [crlf, List.append_assoc, List.cons_append, List.nil_append] at h
  obtain ⟨e1, e2⟩ := line_cut h1 h2 h
  exact ⟨e1, by simpa using e2⟩
theorem dec_not45 (n : Nat) (x y : S) : decS (n : Int) ++ x ≠ 45 :: y := by
  intro h
  rw [decS, if_neg (by omega)] at h
  obtain ⟨b, l, e, h3, _⟩ := digs_head (n : Int).natAbs
  rw [e] at h
  have := (List.cons.inj h).1
  subst this
  simp at h3
/-- What a right reply is. -/
theorem right_kinds {d : Nat} {k : Int} {s : S} {n : Int} {l : List R} (h : rightR d (.mk k s n l) = true) :
    (k = 0 ∧ n = 0 ∧ l = [] ∧ lineS s = true) ∨ (k = 1 ∧ n = 0 ∧ l = [] ∧ lineS s = true) ∨ (k = 2 ∧ s = [] ∧ l = []) ∨ (k = 3 ∧ n = 0 ∧ l = []) ∨ (k = 4 ∧ s = [] ∧ n = 0 ∧ l = []) ∨ (k = 5 ∧ s = [] ∧ n = 0 ∧ d ≠ 0 ∧ rightRs (d - 1) l = true) := by
  simp only [rightR, badHead, Bool.and_eq_true, Bool.not_eq_true', Bool.or_eq_false_iff, decide_eq_false_iff_not, Bool.and_eq_false_iff, Bool.or_eq_true, decide_eq_true_eq, bne_iff_ne, ne_eq, bne_eq_false_iff_eq] at h
  obtain ⟨⟨⟨⟨⟨⟨⟨h1, h2⟩, h3⟩, h4⟩, h5⟩, h6⟩, h7⟩, h8⟩ := h
  have hl : k ≠ 5 → l = [] := by
    intro hk
    rcases h3 with h3 | h3
    · exact (hk h3).elim
    · cases l with
      | nil => rfl
      | cons _ _ => simp at h3
  have hk : k = 0 ∨ k = 1 ∨ k = 2 ∨ k = 3 ∨ k = 4 ∨ k = 5 := by omega
  rcases hk with rfl | rfl | rfl | rfl | rfl | rfl <;> simp_all
mutual
theorem enc_cut : ∀ (a b : R) (x y : S) (d d' : Nat), rightR d a = true → rightR d' b = true → encR a ++ x = encR b ++ y → a = b ∧ x = y
  | .mk k s n l, .mk k' s' n' l', x, y, d, d', ha, hb, h => by
    have qa := right_kinds ha
    have qb := right_kinds hb
    rcases qa with ⟨rfl, rfl, rfl, h1⟩ | ⟨rfl, rfl, rfl, h1⟩ | ⟨rfl, rfl, rfl⟩ | ⟨rfl, rfl, rfl⟩ | ⟨rfl, rfl, rfl, rfl⟩ | ⟨rfl, rfl, rfl, h1, h2⟩ <;>
    rcases qb with ⟨rfl, rfl, rfl, g1⟩ | ⟨rfl, rfl, rfl, g1⟩ | ⟨rfl, rfl, rfl⟩ | ⟨rfl, rfl, rfl⟩ | ⟨rfl, rfl, rfl, rfl⟩ | ⟨rfl, rfl, rfl, g1, g2⟩ <;>
    simp [encR, -List.append_assoc] at h
    · obtain ⟨e1, e2⟩ := crlf_cut h1 g1 h; subst e1; subst e2; exact ⟨rfl, rfl⟩
    · obtain ⟨e1, e2⟩ := crlf_cut h1 g1 h; subst e1; subst e2; exact ⟨rfl, rfl⟩
    · obtain ⟨e1, e2⟩ := crlf_cut (lineS_decS _) (lineS_decS _) h; have := decS_inj e1; subst this; subst e2; exact ⟨rfl, rfl⟩
    · rw [List.append_assoc (decS _ ++ crlf), List.append_assoc (decS _ ++ crlf), List.append_assoc (decS _ ++ crlf), List.append_assoc (decS _ ++ crlf)] at h
      obtain ⟨e1, e2⟩ := crlf_cut (lineS_decS _) (lineS_decS _) h
      have e3 := decS_inj e1
      have e4 : s.length = s'.length := by omega
      rw [List.append_assoc, List.append_assoc] at e2
      obtain ⟨e5, e6⟩ := List.append_inj e2 e4
      subst e5
      have := List.append_cancel_left e6
      subst this
      exact ⟨rfl, rfl⟩
    · exfalso
      simp only [List.append_assoc] at h
      exact dec_not45 _ _ _ h
    · exfalso
      simp only [List.append_assoc] at h
      exact dec_not45 _ _ _ h.symm
    · subst h; exact ⟨rfl, rfl⟩
    · rw [List.append_assoc (decS _ ++ crlf), List.append_assoc (decS _ ++ crlf)] at h
      obtain ⟨e1, e2⟩ := crlf_cut (lineS_decS _) (lineS_decS _) h
      have e3 := decS_inj e1
      obtain ⟨e4, e5⟩ := encs_cut l l' x y (d - 1) (d' - 1) h2 g2 (by omega) e2
      subst e4; subst e5
      exact ⟨rfl, rfl⟩
theorem encs_cut : ∀ (l l' : List R) (x y : S) (d d' : Nat), rightRs d l = true → rightRs d' l' = true → l.length = l'.length → encRs l ++ x = encRs l' ++ y → l = l' ∧ x = y
  | [], [], x, y, _, _, _, _, _, h => by simpa [encRs] using h
  | [], _ :: _, _, _, _, _, _, _, h, _ => by simp at h
  | _ :: _, [], _, _, _, _, _, _, h, _ => by simp at h
  | a :: l, b :: l', x, y, d, d', h1, h2, h3, h => by
    simp only [rightRs, Bool.and_eq_true] at h1 h2
    simp only [encRs, List.append_assoc] at h
    obtain ⟨e1, e2⟩ := enc_cut a b _ _ d d' h1.1 h2.1 h
    obtain ⟨e3, e4⟩ := encs_cut l l' x y d d' h1.2 h2.2 (by simpa using h3) e2
    exact ⟨by rw [e1, e3], e4⟩
end
mutual
theorem sameR_own : ∀ a : R, sameR a a = true
  | .mk k s n l => by simp only [sameR, beq_self_eq_true, samesR_own l, Bool.and_self]
theorem samesR_own : ∀ l : List R, sameRs l l = true
  | [] => by simp only [sameRs]
  | a :: l => by simp only [sameRs, sameR_own a, samesR_own l, Bool.and_self]
end
mutual
theorem sameR_is : ∀ a b : R, sameR a b = true → a = b
  | .mk k s n l, .mk k' s' n' l', h => by
    simp only [sameR, Bool.and_eq_true, beq_iff_eq] at h
    obtain ⟨⟨⟨h1, h2⟩, h3⟩, h4⟩ := h
    rw [h1, h2, h3, samesR_is l l' h4]
theorem samesR_is : ∀ l l' : List R, sameRs l l' = true → l = l'
  | [], [], _ => rfl
  | [], _ :: _, h => by simp [sameRs] at h
  | _ :: _, [], h => by simp [sameRs] at h
  | a :: l, b :: l', h => by
    simp only [sameRs, Bool.and_eq_true] at h
    rw [sameR_is a b h.1, samesR_is l l' h.2]
end
/-- The law. -/
theorem enc_apart (a b : R) (d d' : Nat) (ha : rightR d a = true) (hb : rightR d' b = true) (n : Nat) (hn : n = (encR a).length ∨ n = (encR b).length) (h1 : n ≤ (encR a).length) (h2 : n ≤ (encR b).length) : ((encR a).take n == (encR b).take n) = sameR a b := by
  cases hs : sameR a b with
  | true => have := sameR_is a b hs; subst this; simp
  | false =>
    rw [beq_eq_false_iff_ne]
    intro h
    have key : ∃ x y, encR a ++ x = encR b ++ y := by
      rcases hn with hn | hn
      · rw [hn, List.take_length] at h
        refine ⟨(encR b).drop (encR a).length, [], ?_⟩
        have e := List.take_append_drop (encR a).length (encR b)
        rw [← h] at e
        rw [List.append_nil]
        exact e
      · rw [hn, List.take_length] at h
        refine ⟨[], (encR a).drop (encR b).length, ?_⟩
        have e := List.take_append_drop (encR b).length (encR a)
        rw [h] at e
        rw [List.append_nil]
        exact e.symm
    obtain ⟨x, y, e⟩ := key
    have := (enc_cut a b x y d d' ha hb e).1
    subst this
    rw [sameR_own] at hs
    cases hs
end Go.Proofs.Ytnifldbmflkmpaa

/-
  num.Parse of digits; request.count.
-/
namespace Go.Proofs.Ytnifldbmflkmpaa
open Go Ev
set_option linter.unusedVariables false
set_option linter.unusedSimpArgs false
set_option maxRecDepth 10000
theorem wrap64 (n : Int) (h0 : -(2 ^ 63) ≤ n) (h : n < 2 ^ 63) : IntKind.wrap .i64 n = n := by
  simp [IntKind.wrap, IntKind.bits, IntKind.signed]; omega
theorem decS_nat (n : Nat) : decS (n : Int) = digs n := by rw [decS, if_neg (by omega)]; rfl
theorem valD_from (s : S) : ∀ a : Nat, a ≤ s.foldl (fun a b => a * 10 + (b.toNat - 48)) a := by
  induction s with
  | nil => intro a; exact Nat.le_refl _
  | cons b s ih => intro a; have := ih (a * 10 + (b.toNat - 48)); simp only [List.foldl_cons]; omega
theorem valD_take (s : S) (i : Nat) : valD (s.take i) ≤ valD s := by
  have h := valD_from (s.drop i) (valD (s.take i))
  have e : valD s = (s.drop i).foldl (fun a b => a * 10 + (b.toNat - 48)) (valD (s.take i)) := by
    conv => lhs; rw [← List.take_append_drop i s]
    simp only [valD, List.foldl_append]
  omega
theorem valD_succ (s : S) (i : Nat) (h : i < s.length) : valD (s.take (i + 1)) = valD (s.take i) * 10 + (s[i].toNat - 48) := by
  rw [List.take_add_one, List.getElem?_eq_getElem h]
  simp only [valD, Option.toList, List.foldl_append, List.foldl_cons, List.foldl_nil]
set_option maxHeartbeats 2000000 in
theorem parse_ok (n : Nat) (hn : n < 1000000000) : Ret cfg 91 [.str (digs n)] (.tuple [.int .i64 (n : Nat), .bool true]) := by
  have hlen := digs_length 9 n (by omega) (by omega)
  have hpos := digs_pos n
  have hin := digs_in n
  have hval := valD_digs n
  have hprint := print_ok (n : Int) (by omega) (by omega)
  rw [decS_nat] at hprint
  generalize digs n = D at *
  obtain ⟨b0, D', rfl⟩ : ∃ b D', D = b :: D' := by
    cases D with
    | nil => simp at hpos
    | cons b D' => exact ⟨b, D', rfl⟩
  have hb0 := hin b0 (by simp)
  have e45 : ((b0.toNat : Int) == 45) = false := by rw [beq_eq_false_iff_ne]; omega
  refine Ret.of_body rfl rfl Try.func91 rfl (by simp) (by simp) ?_
  refine Ev.seq (Ev.region ?_)
  apply EvOps.run
  · intro call; simp [Try.f91]; exact rfl
  refine Ev.seq (Ev.region ?_)
  apply EvOps.run
  · intro call; simp; exact rfl
  refine Ev.seq (Ev.region ?_)
  apply EvOps.keep (h' := []) (d' := false) (fun fr => fr.length = 67 ∧ slotAt fr 0 = some (.str (b0 :: D')) ∧ slotAt fr 4 = some (.int .i64 0) ∧ slotAt fr 5 = some (.bool false))
  · intro call; simp [e45]; exact rfl
  · exact ⟨by simp, by simp, by simp, by simp⟩
  rintro fr ⟨hl, h0, h4, h5⟩
  generalize hD : (b0 :: D' : List UInt8) = D at *
  refine Ev.seq (Ev.region ?_)
  apply EvOps.run
  · intro call; simp [hl, h0]; exact rfl
  refine Ev.seq (Ev.seq (Ev.region ?_))
  apply EvOps.run
  · intro call; simp [hl, h5]; exact rfl
  refine Ev.cond false (by simp [hl]) (fun h => by simp at h) (fun _ => Ev.skip ?_)
  have hDne : (D == ([] : S)) = false := by rw [← hD]; rfl
  refine Ev.seq (Ev.seq (Ev.region ?_))
  apply EvOps.keep (h' := []) (d' := false) (fun fr => fr.length = 67 ∧ slotAt fr 0 = some (.str D) ∧ slotAt fr 4 = some (.int .i64 0) ∧ slotAt fr 5 = some (.bool false) ∧ slotAt fr 6 = some (.str D) ∧ slotAt fr 27 = some (.bool false))
  · intro call; simp [hl, hDne, show ¬ (19 : Int) < (D.length : Int) by omega]; exact rfl
  · exact ⟨by simp [hl], by simp [h0], by simp [h4], by simp [h5], by simp [hl], by simp [hl]⟩
  clear hl h0 h4 h5 fr
  rintro fr ⟨hl, h0, h4, h5, h6, h27⟩
  refine Ev.cond false (by simp [h27]) (fun h => by simp at h) (fun _ => Ev.skip ?_)
  refine Ev.seq (Ev.seq (Ev.region ?_))
  apply EvOps.run
  · intro call; simp [hl, h6]; exact rfl
  refine Ev.block ?_
  refine Ev.loop (fun m st => ∃ (fr : List AV) (i : Nat), st = ⟨fr, [], false⟩ ∧ fr.length = 67 ∧ slotAt fr 0 = some (.str D) ∧ slotAt fr 4 = some (.int .i64 (-((valD (D.take i) : Nat) : Int))) ∧ slotAt fr 5 = some (.bool false) ∧ slotAt fr 6 = some (.str D) ∧ slotAt fr 29 = some (.int .i64 (D.length : Nat)) ∧ slotAt fr 30 = some (.int .i64 (i : Nat)) ∧ i ≤ D.length ∧ m = D.length - i) ?_ D.length _ ?_
  · clear hl h0 h4 h5 h6 h27 fr
    rintro m st ⟨fr, i, rfl, hl, h0, h4, h5, h6, h29, h30, hi, rfl⟩
    refine Ev.seq (Ev.region ?_)
    apply EvOps.run
    · intro call; simp [hl, h29, h30]; exact rfl
    refine Ev.seq (Ev.cond (decide (i < D.length)) (by simp [hl]) (fun hc => Ev.skip ?_) (fun hc => Ev.exit ?_))
    · simp only [decide_eq_true_eq] at hc
      have hg : D[i]? = some D[i] := List.getElem?_eq_getElem hc
      have hb := hin D[i] (List.getElem_mem hc)
      have hv1 := valD_take D (i + 1)
      have hv := valD_succ D i hc
      obtain ⟨V', hV'⟩ : ∃ V', V' = valD (D.take (i + 1)) := ⟨_, rfl⟩
      rw [← hV'] at hv hv1
      generalize valD (D.take i) = V at hv h4
      obtain ⟨x, hx⟩ : ∃ x : Nat, x = D[i].toNat - 48 := ⟨_, rfl⟩
      have hxi : ((D[i].toNat : Int)) - 48 = (x : Int) := by omega
      have hx9 : x ≤ 9 := by omega
      refine Ev.seq (Ev.block (Ev.seq (Ev.region ?_)))
      apply EvOps.run
      · intro call; simp [hl, h30]; exact rfl
      refine Ev.seq (Ev.region ?_)
      apply EvOps.keep (h' := []) (d' := false) (fun fr => fr.length = 67 ∧ slotAt fr 0 = some (.str D) ∧ slotAt fr 4 = some (.int .i64 (-(V : Int))) ∧ slotAt fr 5 = some (.bool false) ∧ slotAt fr 6 = some (.str D) ∧ slotAt fr 29 = some (.int .i64 (D.length : Nat)) ∧ slotAt fr 30 = some (.int .i64 (i : Nat)) ∧ slotAt fr 8 = some (.int .i64 (x : Nat)))
      · intro call; simp [hl, h6, hg, wrap_int (D[i].toNat : Int) (by omega) (by omega), hxi, wrap_nat x (by omega)]; exact rfl
      · exact ⟨by simp [hl], by simp [h0], by simp [h4], by simp [h5], by simp [h6], by simp [h29], by simp [h30], by simp [hl]⟩
      clear hl h0 h4 h5 h6 h29 h30 fr
      rintro fr ⟨hl, h0, h4, h5, h6, h29, h30, h8⟩
      have hw1 : IntKind.wrap .i64 (-9223372036854775808 + (x : Int)) = -9223372036854775808 + (x : Int) := wrap64 _ (by omega) (by omega)
      have hq : ((-9223372036854775808 + (x : Int)).tdiv 10) = -922337203685477580 ∨ ((-9223372036854775808 + (x : Int)).tdiv 10) = -922337203685477579 := by
        have : x = 0 ∨ x = 1 ∨ x = 2 ∨ x = 3 ∨ x = 4 ∨ x = 5 ∨ x = 6 ∨ x = 7 ∨ x = 8 ∨ x = 9 := by omega
        rcases this with rfl | rfl | rfl | rfl | rfl | rfl | rfl | rfl | rfl | rfl <;> decide
      obtain ⟨q, hqe, hqr⟩ : ∃ q : Int, (-9223372036854775808 + (x : Int)).tdiv 10 = q ∧ (q = -922337203685477580 ∨ q = -922337203685477579) := ⟨_, rfl, hq⟩
      refine Ev.seq (Ev.seq (Ev.region ?_))
      apply EvOps.keep (h' := []) (d' := false) (fun fr => fr.length = 67 ∧ slotAt fr 0 = some (.str D) ∧ slotAt fr 4 = some (.int .i64 (-(V : Int))) ∧ slotAt fr 5 = some (.bool false) ∧ slotAt fr 6 = some (.str D) ∧ slotAt fr 29 = some (.int .i64 (D.length : Nat)) ∧ slotAt fr 30 = some (.int .i64 (i : Nat)) ∧ slotAt fr 8 = some (.int .i64 (x : Nat)) ∧ slotAt fr 50 = some (.bool false))
      · intro call; simp [hl, h4, h8, show ¬ ((x : Int) < 0) by omega, show ¬ ((9 : Int) < (x : Int)) by omega, show ¬ (9 < x) by omega, hw1, hqe, wrap64 q (by omega) (by omega), show ¬ (-(V : Int) < q) by omega]; exact rfl
      · exact ⟨by simp [hl], by simp [h0], by simp [h4], by simp [h5], by simp [h6], by simp [h29], by simp [h30], by simp [h8], by simp [hl]⟩
      clear hl h0 h4 h5 h6 h29 h30 h8 fr
      rintro fr ⟨hl, h0, h4, h5, h6, h29, h30, h8, h50⟩
      refine Ev.cond false (by simp [h50]) (fun h => by simp at h) (fun _ => Ev.skip ?_)
      refine Ev.region ?_
      have e1 : (10 : Int) * -(V : Int) = -((10 * V : Nat) : Int) := by push_cast; omega
      have e2 : -((10 * V : Nat) : Int) - (x : Int) = -((V' : Nat) : Int) := by push_cast; omega
      apply EvOps.keep (h' := []) (d' := false) (fun fr => fr.length = 67 ∧ slotAt fr 0 = some (.str D) ∧ slotAt fr 4 = some (.int .i64 (-(V' : Int))) ∧ slotAt fr 5 = some (.bool false) ∧ slotAt fr 6 = some (.str D) ∧ slotAt fr 29 = some (.int .i64 (D.length : Nat)) ∧ slotAt fr 30 = some (.int .i64 (i : Nat)))
      · intro call; simp [hl, h4, h8, wrap_int (10 * -(V : Int)) (by omega) (by omega), wrap_int (10 * -(V : Int) - (x : Int)) (by omega) (by omega)]; exact rfl
      · exact ⟨by simp [hl], by simp [h0], by simp [hl]; omega, by simp [h5], by simp [h6], by simp [h29], by simp [h30]⟩
      clear hl h0 h4 h5 h6 h29 h30 h8 h50 fr
      rintro fr ⟨hl, h0, h4, h5, h6, h29, h30⟩
      refine Ev.region ?_
      apply EvOps.run
      · intro call; simp [hl, h30, wrap_succ i (by omega)]; exact rfl
      exact ⟨D.length - (i + 1), by omega, _, i + 1, rfl, by simp [hl], by simp [h0], by simp [h4, hV'], by simp [h5], by simp [h6], by simp [h29], by simp [hl], by omega, rfl⟩
    · simp only [decide_eq_false_iff_not] at hc
      rw [List.take_of_length_le (by omega), hval] at h4
      refine Ev.seq (Ev.seq (Ev.region ?_))
      apply EvOps.run
      · intro call; simp [hl, h5]; exact rfl
      refine Ev.cond true (by simp [hl]) (fun _ => ?_) (fun h => by simp at h)
      have hne : ((-(n : Int)) == -9223372036854775808) = false := by rw [beq_eq_false_iff_ne]; omega
      refine Ev.seq (Ev.seq (Ev.region ?_))
      apply EvOps.run
      · intro call; simp [hl, h4, hne]; exact rfl
      refine Ev.cond false (by simp [hl]) (fun h => by simp at h) (fun _ => Ev.skip ?_)
      refine Ev.region ?_
      apply EvOps.keep (h' := []) (d' := false) (fun fr => fr.length = 67 ∧ slotAt fr 0 = some (.str D) ∧ slotAt fr 4 = some (.int .i64 (n : Nat)))
      · intro call; simp [hl, h4, wrap_nat n (by omega)]; exact rfl
      · exact ⟨by simp [hl], by simp [h0], by simp [hl]⟩
      clear hl h0 h4 h5 h6 h29 h30 fr
      rintro fr ⟨hl, h0, h4⟩
      refine Ev.seq (Ev.seq (Ev.region (EvOps.take 1 ?_)))
      apply EvOps.run
      · intro call; simp [hl, h4]; exact rfl
      refine EvOps.call rfl (by simp) (by simp [hl] <;> exact rfl) (by simp <;> exact rfl) hprint ?_
      apply EvOps.run
      · intro call; simp [hl, h0]; exact rfl
      refine Ev.cond false (by simp [hl]) (fun h => by simp at h) (fun _ => Ev.skip ?_)
      refine Ev.seq (Ev.region ?_)
      apply EvOps.run
      · intro call; simp [hl, h4]; exact rfl
      exact Ev.ret ⟨.tuple [.int .i64 (n : Nat), .bool true], by simp [Try.f91, hl], by simp⟩
  · exact ⟨_, 0, rfl, by simp [hl], by simp [h0], by simp [h4, valD], by simp [h5], by simp [h6], by simp [hl], by simp [hl], by omega, rfl⟩
end Go.Proofs.Ytnifldbmflkmpaa

/-
  pentimentoref04.Right: the run.
-/
namespace Go.Proofs.Ytnifldbmflkmpaa
open Go Ev
set_option linter.unusedVariables false
set_option linter.unusedSimpArgs false
set_option maxRecDepth 10000
set_option maxHeartbeats 8000000 in
/-- The head of a reply, as region 1 looks at it. -/
theorem head_run (k : Int) (s : S) (n : Int) (l : List R) (d : Nat) (fr : List AV) (hl : fr.length = 103) (h2 : slotAt fr 2 = some (.ptr 0 0)) (h1 : slotAt fr 1 = some (.int .i64 (d : Nat))) (Q : Ex → St → Prop)
    (hq : ∀ fr : List AV, fr.length = 103 → slotAt fr 2 = some (.ptr 0 0) → slotAt fr 1 = some (.int .i64 (d : Nat)) → slotAt fr 55 = some (.bool (badHead k s n l)) → Q .normal ⟨fr, [.cells [.int .i64 k, .str s, .int .i64 n, rs l]], false⟩) :
    Ev cfg 0 ((Try.f26.body.get rfl) |> fun c => match c with | .seq _ (.seq (.seq r _) _) => r | _ => .skip) ⟨fr, [.cells [.int .i64 k, .str s, .int .i64 n, rs l]], false⟩ Q := by
  refine Ev.region ?_
  obtain ⟨c1, hc1⟩ : ∃ c, c = (decide (k < 0) || decide (5 < k) || (k != 5 && decide (0 < l.length))) := ⟨_, rfl⟩
  refine EvOps.mid 19 (fun st => ∃ fr : List AV, st = ⟨fr, [.cells [.int .i64 k, .str s, .int .i64 n, rs l]], false⟩ ∧ fr.length = 103 ∧ slotAt fr 2 = some (.ptr 0 0) ∧ slotAt fr 1 = some (.int .i64 (d : Nat)) ∧ slotAt fr 25 = some (.bool c1)) ?_ ?_
  · skip
    by_cases k0 : k < 0
    · apply EvOps.run
      · intro call; simp [hl, h2, k0]; exact rfl
      exact ⟨_, rfl, by simp [hl], by simp [h2], by simp [h1], by simp [hl, hc1, k0]⟩
    by_cases k5 : 5 < k
    · apply EvOps.run
      · intro call; simp [hl, h2, k0, k5]; exact rfl
      exact ⟨_, rfl, by simp [hl], by simp [h2], by simp [h1], by simp [hl, hc1, k0, k5]⟩
    cases e5 : (k != 5) with
    | false =>
      apply EvOps.run
      · intro call; simp [hl, h2, k0, k5, e5]; exact rfl
      exact ⟨_, rfl, by simp [hl], by simp [h2], by simp [h1], by simp [hl, hc1, k0, k5, e5]⟩
    | true =>
      cases l with
      | nil =>
        apply EvOps.run
        · intro call; simp [hl, h2, k0, k5, e5, rs, aRs]; exact rfl
        exact ⟨_, rfl, by simp [hl], by simp [h2, rs, aRs], by simp [h1], by simp [hl, hc1, k0, k5, e5]⟩
      | cons r l =>
        apply EvOps.run
        · intro call; simp [hl, h2, k0, k5, e5, rs, aRs]; exact rfl
        exact ⟨_, rfl, by simp [hl], by simp [h2, rs, aRs], by simp [h1], by simp [hl, hc1, k0, k5, e5]⟩
  clear hl h2 h1 fr
  rintro _ ⟨fr, rfl, hl, h2, h1, h25⟩
  obtain ⟨c2, hc2⟩ : ∃ c, c = (c1 || (k != 2 && n != 0)) := ⟨_, rfl⟩
  refine EvOps.mid 10 (fun st => ∃ fr : List AV, st = ⟨fr, [.cells [.int .i64 k, .str s, .int .i64 n, rs l]], false⟩ ∧ fr.length = 103 ∧ slotAt fr 2 = some (.ptr 0 0) ∧ slotAt fr 1 = some (.int .i64 (d : Nat)) ∧ slotAt fr 35 = some (.bool c2)) ?_ ?_
  · skip
    cases c1 with
    | true =>
      apply EvOps.run
      · intro call; simp [hl, h2, h25]; exact rfl
      exact ⟨_, rfl, by simp [hl], by simp [h2], by simp [h1], by simp [hl, hc2]⟩
    | false =>
      cases e1 : (k != 2) with
      | false =>
        apply EvOps.run
        · intro call; simp [hl, h2, h25, e1]; exact rfl
        exact ⟨_, rfl, by simp [hl], by simp [h2], by simp [h1], by simp [hl, hc2, e1]⟩
      | true =>
        apply EvOps.run
        · intro call; simp [hl, h2, h25, e1]; exact rfl
        exact ⟨_, rfl, by simp [hl], by simp [h2], by simp [h1], by simp [hl, hc2, e1]⟩
  clear hl h2 h1 fr h25
  rintro _ ⟨fr, rfl, hl, h2, h1, h35⟩
  have hbad : badHead k s n l = (c2 || (k != 0 && k != 1 && k != 3 && s != [])) := by rw [hc2, hc1, badHead]
  rw [hbad] at hq
  cases c2 with
  | true =>
    apply EvOps.run
    · intro call; simp [hl, h2, h35]; exact rfl
    exact hq _ (by simp [hl]) (by simp [h2]) (by simp [h1]) (by simp [hl])
  | false =>
    cases e1 : (k != 0) with
    | false =>
      apply EvOps.run
      · intro call; simp [hl, h2, h35, e1]; exact rfl
      exact hq _ (by simp [hl]) (by simp [h2]) (by simp [h1]) (by simp [hl, e1])
    | true =>
      cases e2 : (k != 1) with
      | false =>
        apply EvOps.run
        · intro call; simp [hl, h2, h35, e1, e2]; exact rfl
        exact hq _ (by simp [hl]) (by simp [h2]) (by simp [h1]) (by simp [hl, e1, e2])
      | true =>
        cases e3 : (k != 3) with
        | false =>
          apply EvOps.run
          · intro call; simp [hl, h2, h35, e1, e2, e3]; exact rfl
          exact hq _ (by simp [hl]) (by simp [h2]) (by simp [h1]) (by simp [hl, e1, e2, e3])
        | true =>
          apply EvOps.run
          · intro call; simp [hl, h2, h35, e1, e2, e3]; exact rfl
          exact hq _ (by simp [hl]) (by simp [h2]) (by simp [h1]) (by simp [hl, e1, e2, e3]; cases s <;> rfl)
end Go.Proofs.Ytnifldbmflkmpaa

/-
  pentimentoref04.Right: complete.
-/
namespace Go.Proofs.Ytnifldbmflkmpaa
open Go Ev
set_option linter.unusedVariables false
set_option linter.unusedSimpArgs false
set_option maxRecDepth 10000
mutual
/-- Nothing in it is too long, or no number of Go's. -/
def smR : R → Prop
  | .mk _ s n l => s.length ≤ 2000 ∧ l.length < 100000 ∧ (-(2 ^ 63) ≤ n ∧ n < 2 ^ 63) ∧ smRs l
def smRs : List R → Prop
  | [] => True
  | r :: l => smR r ∧ smRs l
end
theorem smRs_get : ∀ {l : List R} (i : Nat) (h : i < l.length), smRs l → smR l[i]
  | r :: l, 0, _, h => by simp only [smRs] at h; exact h.1
  | r :: l, i + 1, hi, h => by simp only [smRs] at h; exact smRs_get i (by simpa using hi) h.2
mutual
theorem okR_sm : ∀ r : R, smR r → okR r
  | .mk k s n l, h => by simp only [smR] at h; simp only [okR]; exact ⟨by omega, okRs_sm l h.2.2.2⟩
theorem okRs_sm : ∀ l : List R, smRs l → okRs l
  | [], _ => by simp only [okRs]
  | r :: l, h => by simp only [smRs] at h; simp only [okRs]; exact ⟨okR_sm r h.1, okRs_sm l h.2⟩
end
theorem byte_eq (b c : UInt8) : ((b.toNat : Int) == (c.toNat : Int)) = (b == c) := by
  rw [Bool.eq_iff_iff, beq_iff_eq, beq_iff_eq]
  constructor
  · intro h; exact UInt8.toNat_inj.1 (by omega)
  · intro h; rw [h]
theorem lineS_take (s : S) (i : Nat) (h : i < s.length) : lineS (s.take (i + 1)) = (lineS (s.take i) && (s[i] != 13 && s[i] != 10)) := by
  rw [List.take_add_one, List.getElem?_eq_getElem h]
  simp only [lineS, List.all_append, Option.toList, List.all_cons, List.all_nil, Bool.and_true]
theorem rightRs_take (d : Nat) (l : List R) (i : Nat) (h : i < l.length) : rightRs d (l.drop i) = (rightR d l[i] && rightRs d (l.drop (i + 1))) := by
  rw [List.drop_eq_getElem_cons h]; simp only [rightRs]
set_option maxHeartbeats 8000000 in
theorem refRight_ok : ∀ (d : Nat) (r : R), d < 2 ^ 60 → smR r → Ret cfg 26 [aR r, .int .i64 (d : Nat)] (.bool (rightR d r))
  | d, .mk k s n l, hd, hsm => by
    simp only [smR] at hsm
    obtain ⟨hs2, hl2, _, hsm⟩ := hsm
    have ih : ∀ (i : Nat) (h : i < l.length), Ret cfg 26 [aR l[i], .int .i64 ((d - 1 : Nat) : Int)] (.bool (rightR (d - 1) l[i])) := fun i h =>
      have := elem_size h
      refRight_ok (d - 1) l[i] (by omega) (smRs_get i h hsm)
    refine Ret.of_body rfl rfl Try.func26 rfl (by simp) (by simp) ?_
    refine Ev.seq (Ev.region ?_)
    apply EvOps.keep (h' := [.cells [.int .i64 k, .str s, .int .i64 n, rs l]]) (d' := false) (fun fr => fr.length = 103 ∧ slotAt fr 2 = some (.ptr 0 0) ∧ slotAt fr 1 = some (.int .i64 (d : Nat)))
    · intro call; simp [Try.f26, aR, rs]; exact rfl
    · exact ⟨by simp, by simp, by simp⟩
    rintro fr ⟨hl, h2, h1⟩
    refine Ev.seq (Ev.mid (fun st => ∃ fr : List AV, st = ⟨fr, [.cells [.int .i64 k, .str s, .int .i64 n, rs l]], false⟩ ∧ fr.length = 103 ∧ slotAt fr 2 = some (.ptr 0 0) ∧ slotAt fr 1 = some (.int .i64 (d : Nat)) ∧ slotAt fr 55 = some (.bool (badHead k s n l))) ?_ ?_)
    · exact head_run k s n l d fr hl h2 h1 _ (fun fr a b c e => ⟨fr, rfl, a, b, c, e⟩)
    clear hl h2 h1 fr
    rintro _ ⟨fr, rfl, hl, h2, h1, h55⟩
    refine Ev.cond (badHead k s n l) (by simp [h55]) (fun hb => ?_) (fun hb => Ev.skip ?_)
    · refine Ev.seq (Ev.region ?_)
      apply EvOps.run
      · intro call; simp [hl]; exact rfl
      exact Ev.ret ⟨.bool false, by simp [Try.f26, hl], by simp [rightR, hb]⟩
    refine Ev.seq (Ev.mid (fun st => ∃ fr : List AV, st = ⟨fr, [.cells [.int .i64 k, .str s, .int .i64 n, rs l]], false⟩ ∧ fr.length = 103 ∧ slotAt fr 2 = some (.ptr 0 0) ∧ slotAt fr 1 = some (.int .i64 (d : Nat)) ∧ slotAt fr 5 = some (.int .i64 0)) ?_ ?_)
    · refine Ev.region ?_
      apply EvOps.run
      · intro call; simp [hl]; exact rfl
      exact ⟨_, rfl, by simp [hl], by simp [h2], by simp [h1], by simp [hl]⟩
    clear hl h2 h1 fr h55
    rintro _ ⟨fr, rfl, hl, h2, h1, h5⟩
    refine Ev.block ?_
    refine Ev.loop (fun m st => ∃ fr i, st = ⟨fr, [.cells [.int .i64 k, .str s, .int .i64 n, rs l]], false⟩ ∧ fr.length = 103 ∧ slotAt fr 2 = some (.ptr 0 0) ∧ slotAt fr 1 = some (.int .i64 (d : Nat)) ∧ slotAt fr 5 = some (.int .i64 (i : Nat)) ∧ i ≤ s.length ∧ m = s.length - i ∧ lineS (s.take i) = true) ?_ s.length _ ?_
    · clear hl h2 h1 fr h5
      rintro m st ⟨fr, i, rfl, hl, h2, h1, h5, hi, rfl, hline⟩
      -- behind the loop
      have nxt : ∀ fr : List AV, fr.length = 103 → slotAt fr 2 = some (.ptr 0 0) → slotAt fr 1 = some (.int .i64 (d : Nat)) → (decide (2 ≤ k) || lineS s) = true →
          Ev cfg 0 ((Try.f26.body.get rfl) |> fun c => match c with | .seq _ (.seq _ (.seq _ c)) => c | _ => .skip) ⟨fr, [.cells [.int .i64 k, .str s, .int .i64 n, rs l]], false⟩ (Done cfg Try.f26 (.bool (rightR d (.mk k s n l)))) := by
        intro fr hl h2 h1 hln
        have hres : rightR d (.mk k s n l) = ((k != 5 || d != 0) && rightRs (d - 1) l) := by simp only [rightR, hb, hln, Bool.not_false, Bool.true_and]
        refine Ev.seq (Ev.mid (fun st => ∃ fr : List AV, st = ⟨fr, [.cells [.int .i64 k, .str s, .int .i64 n, rs l]], false⟩ ∧ fr.length = 103 ∧ slotAt fr 2 = some (.ptr 0 0) ∧ slotAt fr 1 = some (.int .i64 (d : Nat)) ∧ slotAt fr 86 = some (.bool (!(k != 5 || d != 0)))) ?_ ?_)
        · refine Ev.region ?_
          cases e5 : (k == 5) with
          | false =>
            apply EvOps.run
            · intro call; simp [hl, h2, h1, e5]; exact rfl
            exact ⟨_, rfl, by simp [hl], by simp [h2], by simp [h1], by simp [hl, bne, e5]⟩
          | true =>
            cases d with
            | zero =>
              apply EvOps.run
              · intro call; simp [hl, h2, h1, e5]; exact rfl
              exact ⟨_, rfl, by simp [hl], by simp [h2], by simp [h1], by simp [hl, bne, e5]⟩
            | succ d =>
              apply EvOps.run
              · intro call; simp [hl, h2, h1, e5]; exact rfl
              exact ⟨_, rfl, by simp [hl], by simp [h2], by simp [h1], by simp [hl, bne, e5]⟩
        clear hl h2 h1 fr
        rintro _ ⟨fr, rfl, hl, h2, h1, h86⟩
        refine Ev.cond (!(k != 5 || d != 0)) (by simp only [op_tmp, h86]) (fun hz => ?_) (fun hz => Ev.skip ?_)
        · refine Ev.seq (Ev.region ?_)
          apply EvOps.run
          · intro call; simp [hl]; exact rfl
          refine Ev.ret ⟨.bool false, by simp [Try.f26, hl], ?_⟩
          rw [Bool.not_eq_true'] at hz
          rw [hres, hz, Bool.false_and, strip_bool]
        rw [Bool.not_eq_false'] at hz
        rw [hz, Bool.true_and] at hres
        refine Ev.seq (Ev.mid (fun st => ∃ fr : List AV, st = ⟨fr, [.cells [.int .i64 k, .str s, .int .i64 n, rs l]], false⟩ ∧ fr.length = 103 ∧ slotAt fr 2 = some (.ptr 0 0) ∧ slotAt fr 1 = some (.int .i64 (d : Nat)) ∧ slotAt fr 6 = some (.int .i64 0)) ?_ ?_)
        · refine Ev.region ?_
          apply EvOps.run
          · intro call; simp [hl]; exact rfl
          exact ⟨_, rfl, by simp [hl], by simp [h2], by simp [h1], by simp [hl]⟩
        clear hl h2 h1 fr h86
        rintro _ ⟨fr, rfl, hl, h2, h1, h6⟩
        refine Ev.block ?_
        refine Ev.loop (fun m st => ∃ fr i, st = ⟨fr, [.cells [.int .i64 k, .str s, .int .i64 n, rs l]], false⟩ ∧ fr.length = 103 ∧ slotAt fr 2 = some (.ptr 0 0) ∧ slotAt fr 1 = some (.int .i64 (d : Nat)) ∧ slotAt fr 6 = some (.int .i64 (i : Nat)) ∧ i ≤ l.length ∧ m = l.length - i ∧ rightRs (d - 1) l = rightRs (d - 1) (l.drop i)) ?_ l.length _ ?_
        · clear hl h2 h1 fr h6
          rintro m st ⟨fr, i, rfl, hl, h2, h1, h6, hi, rfl, hp⟩
          refine Ev.seq (Ev.seq (Ev.region ?_))
          apply EvOps.run
          · intro call; simp [hl, h2, h6, rs]; exact rfl
          refine Ev.cond (decide (i < l.length)) (by simp [hl]) (fun hc => Ev.skip ?_) (fun hc => Ev.exit ?_)
          · simp only [decide_eq_true_eq] at hc
            have hd0 : d ≠ 0 := by
              intro e
              subst e
              simp only [bne_self_eq_false, Bool.or_false] at hz
              simp only [badHead, hz, Bool.true_and, Bool.or_eq_false_iff, decide_eq_false_iff_not] at hb
              omega
            obtain ⟨cs, a1, a2, a3⟩ := aR_agg l[i]
            have ih := ih i hc
            rw [a1] at ih
            refine Ev.seq (Ev.block (Ev.seq (Ev.region (EvOps.take 7 ?_))))
            apply EvOps.run
            · intro call; simp [hl, h1, h2, h6, rs, hc, a1, a2, wrap_int ((d : Int) - 1) (by omega) (by omega)]; exact rfl
            refine EvOps.call rfl (by simp) (by simp [hl] <;> exact rfl) (by simp [a3]; omega) ih ?_
            apply EvOps.run
            · intro call; simp [hl]; exact rfl
            refine Ev.cond (!(rightR (d - 1) l[i])) (by simp [hl]) (fun he => ?_) (fun he => Ev.skip ?_)
            · refine Ev.seq (Ev.region ?_)
              apply EvOps.run
              · intro call; simp [hl]; exact rfl
              refine Ev.ret ⟨.bool false, by simp [Try.f26, hl], ?_⟩
              simp only [Bool.not_eq_true'] at he
              rw [hres, hp, rightRs_take _ _ _ hc, he, Bool.false_and, strip_bool]
            · refine Ev.region ?_
              apply EvOps.run
              · intro call; simp [hl, h6, wrap_succ i (by omega)]; exact rfl
              simp only [Bool.not_eq_false'] at he
              exact ⟨l.length - (i + 1), by omega, _, i + 1, rfl, by simp [hl], by simp [h2], by simp [h1], by simp [hl], by omega, rfl, by rw [hp, rightRs_take _ _ _ hc, he, Bool.true_and]⟩
          · simp only [decide_eq_false_iff_not] at hc
            refine Ev.seq (Ev.region ?_)
            apply EvOps.run
            · intro call; simp [hl]; exact rfl
            refine Ev.ret ⟨.bool true, by simp [Try.f26, hl], ?_⟩
            rw [hres, hp, List.drop_of_length_le (by omega)]
            simp [rightRs]
        · exact ⟨fr, 0, rfl, hl, h2, h1, h6, by omega, rfl, by simp⟩
      by_cases c1 : i < s.length
      · by_cases c2 : k < 2
        · refine Ev.seq (Ev.seq (Ev.region ?_))
          apply EvOps.run
          · intro call; simp [hl, h2, h5, c1, c2]; exact rfl
          refine Ev.cond true (by simp [hl]) (fun _ => Ev.skip ?_) (fun h => by simp at h)
          have hg : s[i]? = some s[i] := List.getElem?_eq_getElem c1
          refine Ev.seq (Ev.block (Ev.mid (fun st => ∃ fr : List AV, st = ⟨fr, [.cells [.int .i64 k, .str s, .int .i64 n, rs l]], false⟩ ∧ fr.length = 103 ∧ slotAt fr 2 = some (.ptr 0 0) ∧ slotAt fr 1 = some (.int .i64 (d : Nat)) ∧ slotAt fr 5 = some (.int .i64 (i : Nat)) ∧ slotAt fr 79 = some (.bool (s[i] == 13 || s[i] == 10))) ?_ ?_))
          · refine Ev.region ?_
            have e13 := byte_eq s[i] 13
            have e10 := byte_eq s[i] 10
            simp only [show ((13 : UInt8).toNat : Int) = 13 from rfl, show ((10 : UInt8).toNat : Int) = 10 from rfl] at e13 e10
            cases b1 : (s[i] == 13) with
            | true =>
              rw [b1] at e13
              apply EvOps.run
              · intro call; simp [hl, h2, h5, hg, e13]; exact rfl
              exact ⟨_, rfl, by simp [hl], by simp [h2], by simp [h1], by simp [h5], by simp [hl]⟩
            | false =>
              rw [b1] at e13
              apply EvOps.run
              · intro call; simp [hl, h2, h5, hg, e13, e10]; exact rfl
              exact ⟨_, rfl, by simp [hl], by simp [h2], by simp [h1], by simp [h5], by simp [hl]⟩
          clear hl h2 h1 fr h5
          rintro _ ⟨fr, rfl, hl, h2, h1, h5, h79⟩
          refine Ev.cond (s[i] == 13 || s[i] == 10) (by simp only [op_tmp, h79]) (fun he => ?_) (fun he => Ev.skip ?_)
          · refine Ev.seq (Ev.region ?_)
            apply EvOps.run
            · intro call; simp [hl]; exact rfl
            refine Ev.ret ⟨.bool false, by simp [Try.f26, hl], ?_⟩
            have hbad : lineS s = false := by
              rw [Bool.eq_false_iff]
              intro hh
              rw [lineS, List.all_eq_true] at hh
              have := hh s[i] (List.getElem_mem c1)
              simp only [bne, Bool.and_eq_true, Bool.not_eq_true'] at this
              rw [this.1, this.2] at he
              simp at he
            simp [rightR, hbad, show ¬ 2 ≤ k by omega]
          · refine Ev.region ?_
            apply EvOps.run
            · intro call; simp [hl, h5, wrap_succ i (by omega)]; exact rfl
            refine ⟨s.length - (i + 1), by omega, _, i + 1, rfl, by simp [hl], by simp [h2], by simp [h1], by simp [hl], by omega, rfl, ?_⟩
            rw [Bool.or_eq_false_iff] at he
            rw [lineS_take s i c1, hline, bne, bne, he.1, he.2]
            rfl
        · refine Ev.seq (Ev.seq (Ev.region ?_))
          apply EvOps.run
          · intro call; simp [hl, h2, h5, c1, c2]; exact rfl
          refine Ev.cond false (by simp [hl]) (fun h => by simp at h) (fun _ => Ev.exit ?_)
          exact nxt _ (by simp [hl]) (by simp [h2]) (by simp [h1]) (by simp [show 2 ≤ k by omega])
      · refine Ev.seq (Ev.seq (Ev.region ?_))
        apply EvOps.run
        · intro call; simp [hl, h2, h5, c1]; exact rfl
        refine Ev.cond false (by simp [hl]) (fun h => by simp at h) (fun _ => Ev.exit ?_)
        rw [List.take_of_length_le (by omega)] at hline
        exact nxt _ (by simp [hl]) (by simp [h2]) (by simp [h1]) (by simp [hline])
    · exact ⟨fr, 0, rfl, hl, h2, h1, h5, by omega, rfl, by simp [lineS]⟩
termination_by d r => SizeOf.sizeOf r
end Go.Proofs.Ytnifldbmflkmpaa
