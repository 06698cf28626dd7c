/-
  The types of the seat's program, as the evaluator asks for them. Written by program.
-/
import Derived.Test.YtnifldbmflkmpaaEvA
import Derived.Test.YtnifldbmflkmpaaProg
namespace Go.Proofs.Ytnifldbmflkmpaa.Ty
open Go Ev
attribute [simp] Try.underlying0 Try.underlying1 Try.underlying2 Try.underlying3 Try.underlying4 Try.underlying5 Try.underlying6 Try.underlying7 Try.underlying8 Try.underlying9 Try.underlying10 Try.underlying11 Try.underlying12 Try.underlying13 Try.underlying14 Try.underlying15 Try.underlying16 Try.underlying17 Try.underlying18 Try.underlying19 Try.underlying20 Try.underlying21 Try.underlying22 Try.underlying23 Try.underlying24 Try.underlying25 Try.underlying26 Try.underlying27 Try.underlying28 Try.underlying29 Try.underlying30 Try.underlying31 Try.underlying32 Try.underlying33 Try.underlying34 Try.underlying35 Try.underlying36 Try.underlying37 Try.underlying38 Try.underlying39 Try.underlying40 Try.underlying41 Try.underlying42 Try.underlying43 Try.underlying44 Try.underlying45 Try.underlying46 Try.underlying47 Try.underlying48 Try.underlying49 Try.underlying50 Try.underlying51 Try.underlying52 Try.underlying53 Try.underlying54 Try.underlying55 Try.underlying56 Try.underlying57 Try.underlying58 Try.underlying59 Try.underlying60 Try.underlying61 Try.underlying62 Try.underlying63 Try.underlying64 Try.underlying65 Try.underlying66 Try.underlying67 Try.underlying68 Try.underlying69 Try.underlying70 Try.underlying71 Try.underlying72 Try.underlying73 Try.underlying74 Try.underlying75 Try.underlying76 Try.underlying77 Try.underlying78 Try.underlying79 Try.underlying80 Try.underlying81 Try.underlying82 Try.underlying83 Try.underlying84 Try.underlying85 Try.underlying86 Try.underlying87 Try.underlying88 Try.underlying89 Try.underlying90 Try.underlying91 Try.underlying92 Try.underlying93 Try.underlying94 Try.underlying95 Try.underlying96 Try.underlying97 Try.underlying98 Try.underlying99 Try.underlying100 Try.underlying101 Try.underlying102 Try.underlying103 Try.underlying104 Try.underlying105 Try.underlying106 Try.underlying107 Try.underlying108 Try.underlying109 Try.underlying110 Try.underlying111 Try.underlying112 Try.underlying113 Try.underlying114 Try.underlying115 Try.underlying116 Try.underlying117 Try.underlying118 Try.underlying119 Try.underlying120 Try.underlying121 Try.underlying122 Try.underlying123 Try.underlying124 Try.underlying125 Try.underlying126 Try.underlying127 Try.underlying128 Try.underlying129 Try.underlying130 Try.underlying131 Try.underlying132 Try.underlying133 Try.underlying134 Try.underlying135 Try.underlying136 Try.underlying137 Try.underlying138 Try.underlying139 Try.underlying140 Try.underlying141 Try.underlying142 Try.underlying143 Try.underlying144 Try.underlying145 Try.underlying146 Try.underlying147 Try.underlying148 Try.underlying149 Try.underlying150 Try.underlying151 Try.underlying152 Try.underlying153 Try.underlying154 Try.underlying155 Try.underlying156 Try.underlying157 Try.underlying158 Try.underlying159 Try.underlying160 Try.underlying161 Try.underlying162 Try.underlying163 Try.underlying164 Try.underlying165 Try.underlying166 Try.underlying167 Try.underlying168 Try.underlying169 Try.underlying170 Try.underlying171 Try.underlying172 Try.underlying173 Try.underlying174 Try.underlying175 Try.underlying176 Try.underlying177 Try.underlying178 Try.underlying179 Try.underlying180
@[simp] theorem s1 : tySize Try.prog 1 = some 1 := by kernel_rfl
@[simp] theorem b1 : tyBytes Try.prog 1 = some 8 := by kernel_rfl
@[simp] theorem a1 : tyAgg Try.prog 1 = false := by kernel_rfl
@[simp] theorem c1 : tyScalar Try.prog 1 = true := by kernel_rfl
@[simp] theorem z1 : tyZero Try.prog 1 = some (.nilFunc) := by kernel_rfl
@[simp] theorem s2 : tySize Try.prog 2 = some 1 := by kernel_rfl
@[simp] theorem b2 : tyBytes Try.prog 2 = some 8 := by kernel_rfl
@[simp] theorem a2 : tyAgg Try.prog 2 = false := by kernel_rfl
@[simp] theorem c2 : tyScalar Try.prog 2 = true := by kernel_rfl
@[simp] theorem z2 : tyZero Try.prog 2 = some (.int .i64 0) := by kernel_rfl
@[simp] theorem s3 : tySize Try.prog 3 = some 1 := by kernel_rfl
@[simp] theorem b3 : tyBytes Try.prog 3 = some 8 := by kernel_rfl
@[simp] theorem a3 : tyAgg Try.prog 3 = false := by kernel_rfl
@[simp] theorem c3 : tyScalar Try.prog 3 = true := by kernel_rfl
@[simp] theorem z3 : tyZero Try.prog 3 = some (.int .i64 0) := by kernel_rfl
@[simp] theorem s4 : tySize Try.prog 4 = some 1 := by kernel_rfl
@[simp] theorem b4 : tyBytes Try.prog 4 = some 1 := by kernel_rfl
@[simp] theorem a4 : tyAgg Try.prog 4 = false := by kernel_rfl
@[simp] theorem c4 : tyScalar Try.prog 4 = true := by kernel_rfl
@[simp] theorem z4 : tyZero Try.prog 4 = some (.bool false) := by kernel_rfl
@[simp] theorem s5 : tySize Try.prog 5 = some 1 := by kernel_rfl
@[simp] theorem b5 : tyBytes Try.prog 5 = some 1 := by kernel_rfl
@[simp] theorem a5 : tyAgg Try.prog 5 = false := by kernel_rfl
@[simp] theorem c5 : tyScalar Try.prog 5 = true := by kernel_rfl
@[simp] theorem z5 : tyZero Try.prog 5 = some (.int .u8 0) := by kernel_rfl
@[simp] theorem s6 : tySize Try.prog 6 = some 1 := by kernel_rfl
@[simp] theorem b6 : tyBytes Try.prog 6 = some 1 := by kernel_rfl
@[simp] theorem a6 : tyAgg Try.prog 6 = false := by kernel_rfl
@[simp] theorem c6 : tyScalar Try.prog 6 = true := by kernel_rfl
@[simp] theorem z6 : tyZero Try.prog 6 = some (.int .u8 0) := by kernel_rfl
@[simp] theorem s7 : tySize Try.prog 7 = some 4 := by kernel_rfl
@[simp] theorem b7 : tyBytes Try.prog 7 = some 24 := by kernel_rfl
@[simp] theorem a7 : tyAgg Try.prog 7 = true := by kernel_rfl
@[simp] theorem c7 : tyScalar Try.prog 7 = false := by kernel_rfl
@[simp] theorem z7 : tyZero Try.prog 7 = some (.agg [.int .i64 0, .int .i64 0, .bool false, .int .u8 0]) := by kernel_rfl
@[simp] theorem s8 : tySize Try.prog 8 = some 4 := by kernel_rfl
@[simp] theorem b8 : tyBytes Try.prog 8 = some 24 := by kernel_rfl
@[simp] theorem a8 : tyAgg Try.prog 8 = true := by kernel_rfl
@[simp] theorem c8 : tyScalar Try.prog 8 = false := by kernel_rfl
@[simp] theorem z8 : tyZero Try.prog 8 = some (.agg [.int .i64 0, .int .i64 0, .bool false, .int .u8 0]) := by kernel_rfl
@[simp] theorem s9 : tySize Try.prog 9 = some 1 := by kernel_rfl
@[simp] theorem b9 : tyBytes Try.prog 9 = some 16 := by kernel_rfl
@[simp] theorem a9 : tyAgg Try.prog 9 = false := by kernel_rfl
@[simp] theorem c9 : tyScalar Try.prog 9 = true := by kernel_rfl
@[simp] theorem z9 : tyZero Try.prog 9 = some (.str []) := by kernel_rfl
@[simp] theorem s10 : tySize Try.prog 10 = some 1 := by kernel_rfl
@[simp] theorem b10 : tyBytes Try.prog 10 = some 16 := by kernel_rfl
@[simp] theorem a10 : tyAgg Try.prog 10 = false := by kernel_rfl
@[simp] theorem c10 : tyScalar Try.prog 10 = true := by kernel_rfl
@[simp] theorem z10 : tyZero Try.prog 10 = some (.str []) := by kernel_rfl
@[simp] theorem s11 : tySize Try.prog 11 = some 1 := by kernel_rfl
@[simp] theorem b11 : tyBytes Try.prog 11 = some 16 := by kernel_rfl
@[simp] theorem a11 : tyAgg Try.prog 11 = false := by kernel_rfl
@[simp] theorem c11 : tyScalar Try.prog 11 = true := by kernel_rfl
@[simp] theorem z11 : tyZero Try.prog 11 = some (.str []) := by kernel_rfl
@[simp] theorem s12 : tySize Try.prog 12 = some 1 := by kernel_rfl
@[simp] theorem b12 : tyBytes Try.prog 12 = some 8 := by kernel_rfl
@[simp] theorem a12 : tyAgg Try.prog 12 = false := by kernel_rfl
@[simp] theorem c12 : tyScalar Try.prog 12 = true := by kernel_rfl
@[simp] theorem z12 : tyZero Try.prog 12 = some (.int .u64 0) := by kernel_rfl
@[simp] theorem s13 : tySize Try.prog 13 = some 2 := by kernel_rfl
@[simp] theorem b13 : tyBytes Try.prog 13 = some 24 := by kernel_rfl
@[simp] theorem a13 : tyAgg Try.prog 13 = true := by kernel_rfl
@[simp] theorem c13 : tyScalar Try.prog 13 = false := by kernel_rfl
@[simp] theorem z13 : tyZero Try.prog 13 = some (.agg [.str [], .int .u64 0]) := by kernel_rfl
@[simp] theorem s14 : tySize Try.prog 14 = some 2 := by kernel_rfl
@[simp] theorem b14 : tyBytes Try.prog 14 = some 24 := by kernel_rfl
@[simp] theorem a14 : tyAgg Try.prog 14 = true := by kernel_rfl
@[simp] theorem c14 : tyScalar Try.prog 14 = false := by kernel_rfl
@[simp] theorem z14 : tyZero Try.prog 14 = some (.agg [.str [], .int .u64 0]) := by kernel_rfl
@[simp] theorem s15 : tySize Try.prog 15 = some 1 := by kernel_rfl
@[simp] theorem b15 : tyBytes Try.prog 15 = some 8 := by kernel_rfl
@[simp] theorem a15 : tyAgg Try.prog 15 = false := by kernel_rfl
@[simp] theorem c15 : tyScalar Try.prog 15 = true := by kernel_rfl
@[simp] theorem z15 : tyZero Try.prog 15 = some (.nilp) := by kernel_rfl
@[simp] theorem s16 : tySize Try.prog 16 = some 1 := by kernel_rfl
@[simp] theorem b16 : tyBytes Try.prog 16 = some 8 := by kernel_rfl
@[simp] theorem a16 : tyAgg Try.prog 16 = false := by kernel_rfl
@[simp] theorem c16 : tyScalar Try.prog 16 = true := by kernel_rfl
@[simp] theorem z16 : tyZero Try.prog 16 = some (.nilp) := by kernel_rfl
@[simp] theorem s17 : tySize Try.prog 17 = some 1 := by kernel_rfl
@[simp] theorem b17 : tyBytes Try.prog 17 = some 8 := by kernel_rfl
@[simp] theorem a17 : tyAgg Try.prog 17 = false := by kernel_rfl
@[simp] theorem c17 : tyScalar Try.prog 17 = true := by kernel_rfl
@[simp] theorem z17 : tyZero Try.prog 17 = some (.nilp) := by kernel_rfl
@[simp] theorem s18 : tySize Try.prog 18 = some 1 := by kernel_rfl
@[simp] theorem b18 : tyBytes Try.prog 18 = some 8 := by kernel_rfl
@[simp] theorem a18 : tyAgg Try.prog 18 = true := by kernel_rfl
@[simp] theorem c18 : tyScalar Try.prog 18 = false := by kernel_rfl
@[simp] theorem z18 : tyZero Try.prog 18 = some (.agg [.nilp]) := by kernel_rfl
@[simp] theorem s19 : tySize Try.prog 19 = some 1 := by kernel_rfl
@[simp] theorem b19 : tyBytes Try.prog 19 = some 8 := by kernel_rfl
@[simp] theorem a19 : tyAgg Try.prog 19 = true := by kernel_rfl
@[simp] theorem c19 : tyScalar Try.prog 19 = false := by kernel_rfl
@[simp] theorem z19 : tyZero Try.prog 19 = some (.agg [.nilp]) := by kernel_rfl
@[simp] theorem s20 : tySize Try.prog 20 = some 1 := by kernel_rfl
@[simp] theorem b20 : tyBytes Try.prog 20 = some 16 := by kernel_rfl
@[simp] theorem a20 : tyAgg Try.prog 20 = false := by kernel_rfl
@[simp] theorem c20 : tyScalar Try.prog 20 = true := by kernel_rfl
@[simp] theorem z20 : tyZero Try.prog 20 = some (.nilIface) := by kernel_rfl
@[simp] theorem s21 : tySize Try.prog 21 = some 1 := by kernel_rfl
@[simp] theorem b21 : tyBytes Try.prog 21 = some 4 := by kernel_rfl
@[simp] theorem a21 : tyAgg Try.prog 21 = false := by kernel_rfl
@[simp] theorem c21 : tyScalar Try.prog 21 = true := by kernel_rfl
@[simp] theorem z21 : tyZero Try.prog 21 = some (.int .i32 0) := by kernel_rfl
@[simp] theorem s22 : tySize Try.prog 22 = some 1 := by kernel_rfl
@[simp] theorem b22 : tyBytes Try.prog 22 = some 24 := by kernel_rfl
@[simp] theorem a22 : tyAgg Try.prog 22 = false := by kernel_rfl
@[simp] theorem c22 : tyScalar Try.prog 22 = true := by kernel_rfl
@[simp] theorem z22 : tyZero Try.prog 22 = some (.nils) := by kernel_rfl
@[simp] theorem s23 : tySize Try.prog 23 = some 1 := by kernel_rfl
@[simp] theorem b23 : tyBytes Try.prog 23 = some 8 := by kernel_rfl
@[simp] theorem a23 : tyAgg Try.prog 23 = false := by kernel_rfl
@[simp] theorem c23 : tyScalar Try.prog 23 = true := by kernel_rfl
@[simp] theorem z23 : tyZero Try.prog 23 = some (.nilFunc) := by kernel_rfl
@[simp] theorem s24 : tySize Try.prog 24 = some 1 := by kernel_rfl
@[simp] theorem b24 : tyBytes Try.prog 24 = some 24 := by kernel_rfl
@[simp] theorem a24 : tyAgg Try.prog 24 = false := by kernel_rfl
@[simp] theorem c24 : tyScalar Try.prog 24 = true := by kernel_rfl
@[simp] theorem z24 : tyZero Try.prog 24 = some (.nils) := by kernel_rfl
@[simp] theorem s25 : tySize Try.prog 25 = some 1 := by kernel_rfl
@[simp] theorem b25 : tyBytes Try.prog 25 = some 8 := by kernel_rfl
@[simp] theorem a25 : tyAgg Try.prog 25 = false := by kernel_rfl
@[simp] theorem c25 : tyScalar Try.prog 25 = true := by kernel_rfl
@[simp] theorem z25 : tyZero Try.prog 25 = some (.nilFunc) := by kernel_rfl
@[simp] theorem s26 : tySize Try.prog 26 = some 1 := by kernel_rfl
@[simp] theorem b26 : tyBytes Try.prog 26 = some 8 := by kernel_rfl
@[simp] theorem a26 : tyAgg Try.prog 26 = false := by kernel_rfl
@[simp] theorem c26 : tyScalar Try.prog 26 = true := by kernel_rfl
@[simp] theorem z26 : tyZero Try.prog 26 = some (.int .i64 0) := by kernel_rfl
@[simp] theorem s28 : tySize Try.prog 28 = some 1 := by kernel_rfl
@[simp] theorem b28 : tyBytes Try.prog 28 = some 8 := by kernel_rfl
@[simp] theorem a28 : tyAgg Try.prog 28 = false := by kernel_rfl
@[simp] theorem c28 : tyScalar Try.prog 28 = true := by kernel_rfl
@[simp] theorem z28 : tyZero Try.prog 28 = some (.nilFunc) := by kernel_rfl
@[simp] theorem s30 : tySize Try.prog 30 = some 1 := by kernel_rfl
@[simp] theorem b30 : tyBytes Try.prog 30 = some 8 := by kernel_rfl
@[simp] theorem a30 : tyAgg Try.prog 30 = false := by kernel_rfl
@[simp] theorem c30 : tyScalar Try.prog 30 = true := by kernel_rfl
@[simp] theorem z30 : tyZero Try.prog 30 = some (.nilFunc) := by kernel_rfl
@[simp] theorem s31 : tySize Try.prog 31 = some 1 := by kernel_rfl
@[simp] theorem b31 : tyBytes Try.prog 31 = some 8 := by kernel_rfl
@[simp] theorem a31 : tyAgg Try.prog 31 = false := by kernel_rfl
@[simp] theorem c31 : tyScalar Try.prog 31 = true := by kernel_rfl
@[simp] theorem z31 : tyZero Try.prog 31 = some (.nilFunc) := by kernel_rfl
@[simp] theorem s32 : tySize Try.prog 32 = some 1 := by kernel_rfl
@[simp] theorem b32 : tyBytes Try.prog 32 = some 8 := by kernel_rfl
@[simp] theorem a32 : tyAgg Try.prog 32 = false := by kernel_rfl
@[simp] theorem c32 : tyScalar Try.prog 32 = true := by kernel_rfl
@[simp] theorem z32 : tyZero Try.prog 32 = some (.nilFunc) := by kernel_rfl
@[simp] theorem s33 : tySize Try.prog 33 = some 1 := by kernel_rfl
@[simp] theorem b33 : tyBytes Try.prog 33 = some 8 := by kernel_rfl
@[simp] theorem a33 : tyAgg Try.prog 33 = false := by kernel_rfl
@[simp] theorem c33 : tyScalar Try.prog 33 = true := by kernel_rfl
@[simp] theorem z33 : tyZero Try.prog 33 = some (.nilFunc) := by kernel_rfl
@[simp] theorem s34 : tySize Try.prog 34 = some 1 := by kernel_rfl
@[simp] theorem b34 : tyBytes Try.prog 34 = some 8 := by kernel_rfl
@[simp] theorem a34 : tyAgg Try.prog 34 = false := by kernel_rfl
@[simp] theorem c34 : tyScalar Try.prog 34 = true := by kernel_rfl
@[simp] theorem z34 : tyZero Try.prog 34 = some (.nilFunc) := by kernel_rfl
@[simp] theorem s35 : tySize Try.prog 35 = some 1 := by kernel_rfl
@[simp] theorem b35 : tyBytes Try.prog 35 = some 8 := by kernel_rfl
@[simp] theorem a35 : tyAgg Try.prog 35 = false := by kernel_rfl
@[simp] theorem c35 : tyScalar Try.prog 35 = true := by kernel_rfl
@[simp] theorem z35 : tyZero Try.prog 35 = some (.nilFunc) := by kernel_rfl
@[simp] theorem s36 : tySize Try.prog 36 = some 1 := by kernel_rfl
@[simp] theorem b36 : tyBytes Try.prog 36 = some 8 := by kernel_rfl
@[simp] theorem a36 : tyAgg Try.prog 36 = false := by kernel_rfl
@[simp] theorem c36 : tyScalar Try.prog 36 = true := by kernel_rfl
@[simp] theorem z36 : tyZero Try.prog 36 = some (.nilFunc) := by kernel_rfl
@[simp] theorem s37 : tySize Try.prog 37 = some 1 := by kernel_rfl
@[simp] theorem b37 : tyBytes Try.prog 37 = some 8 := by kernel_rfl
@[simp] theorem a37 : tyAgg Try.prog 37 = false := by kernel_rfl
@[simp] theorem c37 : tyScalar Try.prog 37 = true := by kernel_rfl
@[simp] theorem z37 : tyZero Try.prog 37 = some (.nilFunc) := by kernel_rfl
@[simp] theorem s38 : tySize Try.prog 38 = some 1 := by kernel_rfl
@[simp] theorem b38 : tyBytes Try.prog 38 = some 24 := by kernel_rfl
@[simp] theorem a38 : tyAgg Try.prog 38 = false := by kernel_rfl
@[simp] theorem c38 : tyScalar Try.prog 38 = true := by kernel_rfl
@[simp] theorem z38 : tyZero Try.prog 38 = some (.nils) := by kernel_rfl
@[simp] theorem s39 : tySize Try.prog 39 = some 4 := by kernel_rfl
@[simp] theorem b39 : tyBytes Try.prog 39 = some 56 := by kernel_rfl
@[simp] theorem a39 : tyAgg Try.prog 39 = true := by kernel_rfl
@[simp] theorem c39 : tyScalar Try.prog 39 = false := by kernel_rfl
@[simp] theorem z39 : tyZero Try.prog 39 = some (.agg [.int .i64 0, .str [], .int .i64 0, .nils]) := by kernel_rfl
@[simp] theorem s40 : tySize Try.prog 40 = some 4 := by kernel_rfl
@[simp] theorem b40 : tyBytes Try.prog 40 = some 56 := by kernel_rfl
@[simp] theorem a40 : tyAgg Try.prog 40 = true := by kernel_rfl
@[simp] theorem c40 : tyScalar Try.prog 40 = false := by kernel_rfl
@[simp] theorem z40 : tyZero Try.prog 40 = some (.agg [.int .i64 0, .str [], .int .i64 0, .nils]) := by kernel_rfl
@[simp] theorem s41 : tySize Try.prog 41 = some 1 := by kernel_rfl
@[simp] theorem b41 : tyBytes Try.prog 41 = some 8 := by kernel_rfl
@[simp] theorem a41 : tyAgg Try.prog 41 = false := by kernel_rfl
@[simp] theorem c41 : tyScalar Try.prog 41 = true := by kernel_rfl
@[simp] theorem z41 : tyZero Try.prog 41 = some (.nilFunc) := by kernel_rfl
@[simp] theorem s42 : tySize Try.prog 42 = some 1 := by kernel_rfl
@[simp] theorem b42 : tyBytes Try.prog 42 = some 8 := by kernel_rfl
@[simp] theorem a42 : tyAgg Try.prog 42 = false := by kernel_rfl
@[simp] theorem c42 : tyScalar Try.prog 42 = true := by kernel_rfl
@[simp] theorem z42 : tyZero Try.prog 42 = some (.nilFunc) := by kernel_rfl
@[simp] theorem s43 : tySize Try.prog 43 = some 1 := by kernel_rfl
@[simp] theorem b43 : tyBytes Try.prog 43 = some 24 := by kernel_rfl
@[simp] theorem a43 : tyAgg Try.prog 43 = false := by kernel_rfl
@[simp] theorem c43 : tyScalar Try.prog 43 = true := by kernel_rfl
@[simp] theorem z43 : tyZero Try.prog 43 = some (.nils) := by kernel_rfl
@[simp] theorem s44 : tySize Try.prog 44 = some 1 := by kernel_rfl
@[simp] theorem b44 : tyBytes Try.prog 44 = some 8 := by kernel_rfl
@[simp] theorem a44 : tyAgg Try.prog 44 = false := by kernel_rfl
@[simp] theorem c44 : tyScalar Try.prog 44 = true := by kernel_rfl
@[simp] theorem z44 : tyZero Try.prog 44 = some (.nilFunc) := by kernel_rfl
@[simp] theorem s45 : tySize Try.prog 45 = some 1 := by kernel_rfl
@[simp] theorem b45 : tyBytes Try.prog 45 = some 8 := by kernel_rfl
@[simp] theorem a45 : tyAgg Try.prog 45 = false := by kernel_rfl
@[simp] theorem c45 : tyScalar Try.prog 45 = true := by kernel_rfl
@[simp] theorem z45 : tyZero Try.prog 45 = some (.nilFunc) := by kernel_rfl
@[simp] theorem s46 : tySize Try.prog 46 = some 1 := by kernel_rfl
@[simp] theorem b46 : tyBytes Try.prog 46 = some 8 := by kernel_rfl
@[simp] theorem a46 : tyAgg Try.prog 46 = false := by kernel_rfl
@[simp] theorem c46 : tyScalar Try.prog 46 = true := by kernel_rfl
@[simp] theorem z46 : tyZero Try.prog 46 = some (.nilFunc) := by kernel_rfl
@[simp] theorem s47 : tySize Try.prog 47 = some 1 := by kernel_rfl
@[simp] theorem b47 : tyBytes Try.prog 47 = some 8 := by kernel_rfl
@[simp] theorem a47 : tyAgg Try.prog 47 = false := by kernel_rfl
@[simp] theorem c47 : tyScalar Try.prog 47 = true := by kernel_rfl
@[simp] theorem z47 : tyZero Try.prog 47 = some (.nilFunc) := by kernel_rfl
@[simp] theorem s48 : tySize Try.prog 48 = some 1 := by kernel_rfl
@[simp] theorem b48 : tyBytes Try.prog 48 = some 8 := by kernel_rfl
@[simp] theorem a48 : tyAgg Try.prog 48 = false := by kernel_rfl
@[simp] theorem c48 : tyScalar Try.prog 48 = true := by kernel_rfl
@[simp] theorem z48 : tyZero Try.prog 48 = some (.nilFunc) := by kernel_rfl
@[simp] theorem s49 : tySize Try.prog 49 = some 1 := by kernel_rfl
@[simp] theorem b49 : tyBytes Try.prog 49 = some 8 := by kernel_rfl
@[simp] theorem a49 : tyAgg Try.prog 49 = false := by kernel_rfl
@[simp] theorem c49 : tyScalar Try.prog 49 = true := by kernel_rfl
@[simp] theorem z49 : tyZero Try.prog 49 = some (.nilFunc) := by kernel_rfl
@[simp] theorem s50 : tySize Try.prog 50 = some 1 := by kernel_rfl
@[simp] theorem b50 : tyBytes Try.prog 50 = some 8 := by kernel_rfl
@[simp] theorem a50 : tyAgg Try.prog 50 = false := by kernel_rfl
@[simp] theorem c50 : tyScalar Try.prog 50 = true := by kernel_rfl
@[simp] theorem z50 : tyZero Try.prog 50 = some (.nilFunc) := by kernel_rfl
@[simp] theorem s51 : tySize Try.prog 51 = some 1 := by kernel_rfl
@[simp] theorem b51 : tyBytes Try.prog 51 = some 8 := by kernel_rfl
@[simp] theorem a51 : tyAgg Try.prog 51 = false := by kernel_rfl
@[simp] theorem c51 : tyScalar Try.prog 51 = true := by kernel_rfl
@[simp] theorem z51 : tyZero Try.prog 51 = some (.nilFunc) := by kernel_rfl
@[simp] theorem s52 : tySize Try.prog 52 = some 1 := by kernel_rfl
@[simp] theorem b52 : tyBytes Try.prog 52 = some 8 := by kernel_rfl
@[simp] theorem a52 : tyAgg Try.prog 52 = false := by kernel_rfl
@[simp] theorem c52 : tyScalar Try.prog 52 = true := by kernel_rfl
@[simp] theorem z52 : tyZero Try.prog 52 = some (.nilFunc) := by kernel_rfl
@[simp] theorem s53 : tySize Try.prog 53 = some 1 := by kernel_rfl
@[simp] theorem b53 : tyBytes Try.prog 53 = some 8 := by kernel_rfl
@[simp] theorem a53 : tyAgg Try.prog 53 = false := by kernel_rfl
@[simp] theorem c53 : tyScalar Try.prog 53 = true := by kernel_rfl
@[simp] theorem z53 : tyZero Try.prog 53 = some (.nilFunc) := by kernel_rfl
@[simp] theorem s54 : tySize Try.prog 54 = some 1 := by kernel_rfl
@[simp] theorem b54 : tyBytes Try.prog 54 = some 8 := by kernel_rfl
@[simp] theorem a54 : tyAgg Try.prog 54 = false := by kernel_rfl
@[simp] theorem c54 : tyScalar Try.prog 54 = true := by kernel_rfl
@[simp] theorem z54 : tyZero Try.prog 54 = some (.nilFunc) := by kernel_rfl
@[simp] theorem s55 : tySize Try.prog 55 = some 1 := by kernel_rfl
@[simp] theorem b55 : tyBytes Try.prog 55 = some 8 := by kernel_rfl
@[simp] theorem a55 : tyAgg Try.prog 55 = false := by kernel_rfl
@[simp] theorem c55 : tyScalar Try.prog 55 = true := by kernel_rfl
@[simp] theorem z55 : tyZero Try.prog 55 = some (.nilFunc) := by kernel_rfl
@[simp] theorem s56 : tySize Try.prog 56 = some 1 := by kernel_rfl
@[simp] theorem b56 : tyBytes Try.prog 56 = some 8 := by kernel_rfl
@[simp] theorem a56 : tyAgg Try.prog 56 = false := by kernel_rfl
@[simp] theorem c56 : tyScalar Try.prog 56 = true := by kernel_rfl
@[simp] theorem z56 : tyZero Try.prog 56 = some (.nilp) := by kernel_rfl
@[simp] theorem s57 : tySize Try.prog 57 = some 1 := by kernel_rfl
@[simp] theorem b57 : tyBytes Try.prog 57 = some 8 := by kernel_rfl
@[simp] theorem a57 : tyAgg Try.prog 57 = false := by kernel_rfl
@[simp] theorem c57 : tyScalar Try.prog 57 = true := by kernel_rfl
@[simp] theorem z57 : tyZero Try.prog 57 = some (.nilFunc) := by kernel_rfl
@[simp] theorem s58 : tySize Try.prog 58 = some 1 := by kernel_rfl
@[simp] theorem b58 : tyBytes Try.prog 58 = some 8 := by kernel_rfl
@[simp] theorem a58 : tyAgg Try.prog 58 = false := by kernel_rfl
@[simp] theorem c58 : tyScalar Try.prog 58 = true := by kernel_rfl
@[simp] theorem z58 : tyZero Try.prog 58 = some (.nilFunc) := by kernel_rfl
@[simp] theorem s59 : tySize Try.prog 59 = some 1 := by kernel_rfl
@[simp] theorem b59 : tyBytes Try.prog 59 = some 8 := by kernel_rfl
@[simp] theorem a59 : tyAgg Try.prog 59 = false := by kernel_rfl
@[simp] theorem c59 : tyScalar Try.prog 59 = true := by kernel_rfl
@[simp] theorem z59 : tyZero Try.prog 59 = some (.nilFunc) := by kernel_rfl
@[simp] theorem s61 : tySize Try.prog 61 = some 1 := by kernel_rfl
@[simp] theorem b61 : tyBytes Try.prog 61 = some 8 := by kernel_rfl
@[simp] theorem a61 : tyAgg Try.prog 61 = false := by kernel_rfl
@[simp] theorem c61 : tyScalar Try.prog 61 = true := by kernel_rfl
@[simp] theorem z61 : tyZero Try.prog 61 = some (.nilFunc) := by kernel_rfl
@[simp] theorem s62 : tySize Try.prog 62 = some 1 := by kernel_rfl
@[simp] theorem b62 : tyBytes Try.prog 62 = some 8 := by kernel_rfl
@[simp] theorem a62 : tyAgg Try.prog 62 = false := by kernel_rfl
@[simp] theorem c62 : tyScalar Try.prog 62 = true := by kernel_rfl
@[simp] theorem z62 : tyZero Try.prog 62 = some (.nilFunc) := by kernel_rfl
@[simp] theorem s63 : tySize Try.prog 63 = some 1 := by kernel_rfl
@[simp] theorem b63 : tyBytes Try.prog 63 = some 8 := by kernel_rfl
@[simp] theorem a63 : tyAgg Try.prog 63 = false := by kernel_rfl
@[simp] theorem c63 : tyScalar Try.prog 63 = true := by kernel_rfl
@[simp] theorem z63 : tyZero Try.prog 63 = some (.nilFunc) := by kernel_rfl
@[simp] theorem s64 : tySize Try.prog 64 = some 1 := by kernel_rfl
@[simp] theorem b64 : tyBytes Try.prog 64 = some 8 := by kernel_rfl
@[simp] theorem a64 : tyAgg Try.prog 64 = false := by kernel_rfl
@[simp] theorem c64 : tyScalar Try.prog 64 = true := by kernel_rfl
@[simp] theorem z64 : tyZero Try.prog 64 = some (.nilFunc) := by kernel_rfl
@[simp] theorem s66 : tySize Try.prog 66 = some 1 := by kernel_rfl
@[simp] theorem b66 : tyBytes Try.prog 66 = some 8 := by kernel_rfl
@[simp] theorem a66 : tyAgg Try.prog 66 = false := by kernel_rfl
@[simp] theorem c66 : tyScalar Try.prog 66 = true := by kernel_rfl
@[simp] theorem z66 : tyZero Try.prog 66 = some (.nilFunc) := by kernel_rfl
@[simp] theorem s67 : tySize Try.prog 67 = some 1 := by kernel_rfl
@[simp] theorem b67 : tyBytes Try.prog 67 = some 8 := by kernel_rfl
@[simp] theorem a67 : tyAgg Try.prog 67 = false := by kernel_rfl
@[simp] theorem c67 : tyScalar Try.prog 67 = true := by kernel_rfl
@[simp] theorem z67 : tyZero Try.prog 67 = some (.nilFunc) := by kernel_rfl
@[simp] theorem s69 : tySize Try.prog 69 = some 1 := by kernel_rfl
@[simp] theorem b69 : tyBytes Try.prog 69 = some 8 := by kernel_rfl
@[simp] theorem a69 : tyAgg Try.prog 69 = false := by kernel_rfl
@[simp] theorem c69 : tyScalar Try.prog 69 = true := by kernel_rfl
@[simp] theorem z69 : tyZero Try.prog 69 = some (.nilFunc) := by kernel_rfl
@[simp] theorem s71 : tySize Try.prog 71 = some 1 := by kernel_rfl
@[simp] theorem b71 : tyBytes Try.prog 71 = some 8 := by kernel_rfl
@[simp] theorem a71 : tyAgg Try.prog 71 = false := by kernel_rfl
@[simp] theorem c71 : tyScalar Try.prog 71 = true := by kernel_rfl
@[simp] theorem z71 : tyZero Try.prog 71 = some (.nilFunc) := by kernel_rfl
@[simp] theorem s72 : tySize Try.prog 72 = some 1 := by kernel_rfl
@[simp] theorem b72 : tyBytes Try.prog 72 = some 8 := by kernel_rfl
@[simp] theorem a72 : tyAgg Try.prog 72 = false := by kernel_rfl
@[simp] theorem c72 : tyScalar Try.prog 72 = true := by kernel_rfl
@[simp] theorem z72 : tyZero Try.prog 72 = some (.nilFunc) := by kernel_rfl
@[simp] theorem s73 : tySize Try.prog 73 = some 1 := by kernel_rfl
@[simp] theorem b73 : tyBytes Try.prog 73 = some 8 := by kernel_rfl
@[simp] theorem a73 : tyAgg Try.prog 73 = false := by kernel_rfl
@[simp] theorem c73 : tyScalar Try.prog 73 = true := by kernel_rfl
@[simp] theorem z73 : tyZero Try.prog 73 = some (.nilFunc) := by kernel_rfl
@[simp] theorem s74 : tySize Try.prog 74 = some 1 := by kernel_rfl
@[simp] theorem b74 : tyBytes Try.prog 74 = some 8 := by kernel_rfl
@[simp] theorem a74 : tyAgg Try.prog 74 = false := by kernel_rfl
@[simp] theorem c74 : tyScalar Try.prog 74 = true := by kernel_rfl
@[simp] theorem z74 : tyZero Try.prog 74 = some (.nilFunc) := by kernel_rfl
@[simp] theorem s75 : tySize Try.prog 75 = some 1 := by kernel_rfl
@[simp] theorem b75 : tyBytes Try.prog 75 = some 8 := by kernel_rfl
@[simp] theorem a75 : tyAgg Try.prog 75 = false := by kernel_rfl
@[simp] theorem c75 : tyScalar Try.prog 75 = true := by kernel_rfl
@[simp] theorem z75 : tyZero Try.prog 75 = some (.nilFunc) := by kernel_rfl
@[simp] theorem s76 : tySize Try.prog 76 = some 1 := by kernel_rfl
@[simp] theorem b76 : tyBytes Try.prog 76 = some 8 := by kernel_rfl
@[simp] theorem a76 : tyAgg Try.prog 76 = false := by kernel_rfl
@[simp] theorem c76 : tyScalar Try.prog 76 = true := by kernel_rfl
@[simp] theorem z76 : tyZero Try.prog 76 = some (.nilFunc) := by kernel_rfl
@[simp] theorem s77 : tySize Try.prog 77 = some 1 := by kernel_rfl
@[simp] theorem b77 : tyBytes Try.prog 77 = some 8 := by kernel_rfl
@[simp] theorem a77 : tyAgg Try.prog 77 = false := by kernel_rfl
@[simp] theorem c77 : tyScalar Try.prog 77 = true := by kernel_rfl
@[simp] theorem z77 : tyZero Try.prog 77 = some (.nilFunc) := by kernel_rfl
@[simp] theorem s78 : tySize Try.prog 78 = some 1 := by kernel_rfl
@[simp] theorem b78 : tyBytes Try.prog 78 = some 8 := by kernel_rfl
@[simp] theorem a78 : tyAgg Try.prog 78 = false := by kernel_rfl
@[simp] theorem c78 : tyScalar Try.prog 78 = true := by kernel_rfl
@[simp] theorem z78 : tyZero Try.prog 78 = some (.nilFunc) := by kernel_rfl
@[simp] theorem s79 : tySize Try.prog 79 = some 1 := by kernel_rfl
@[simp] theorem b79 : tyBytes Try.prog 79 = some 8 := by kernel_rfl
@[simp] theorem a79 : tyAgg Try.prog 79 = false := by kernel_rfl
@[simp] theorem c79 : tyScalar Try.prog 79 = true := by kernel_rfl
@[simp] theorem z79 : tyZero Try.prog 79 = some (.nilFunc) := by kernel_rfl
@[simp] theorem s80 : tySize Try.prog 80 = some 1 := by kernel_rfl
@[simp] theorem b80 : tyBytes Try.prog 80 = some 8 := by kernel_rfl
@[simp] theorem a80 : tyAgg Try.prog 80 = false := by kernel_rfl
@[simp] theorem c80 : tyScalar Try.prog 80 = true := by kernel_rfl
@[simp] theorem z80 : tyZero Try.prog 80 = some (.nilFunc) := by kernel_rfl
@[simp] theorem s81 : tySize Try.prog 81 = some 1 := by kernel_rfl
@[simp] theorem b81 : tyBytes Try.prog 81 = some 8 := by kernel_rfl
@[simp] theorem a81 : tyAgg Try.prog 81 = false := by kernel_rfl
@[simp] theorem c81 : tyScalar Try.prog 81 = true := by kernel_rfl
@[simp] theorem z81 : tyZero Try.prog 81 = some (.nilFunc) := by kernel_rfl
@[simp] theorem s82 : tySize Try.prog 82 = some 1 := by kernel_rfl
@[simp] theorem b82 : tyBytes Try.prog 82 = some 8 := by kernel_rfl
@[simp] theorem a82 : tyAgg Try.prog 82 = false := by kernel_rfl
@[simp] theorem c82 : tyScalar Try.prog 82 = true := by kernel_rfl
@[simp] theorem z82 : tyZero Try.prog 82 = some (.nilFunc) := by kernel_rfl
@[simp] theorem s83 : tySize Try.prog 83 = some 1 := by kernel_rfl
@[simp] theorem b83 : tyBytes Try.prog 83 = some 24 := by kernel_rfl
@[simp] theorem a83 : tyAgg Try.prog 83 = false := by kernel_rfl
@[simp] theorem c83 : tyScalar Try.prog 83 = true := by kernel_rfl
@[simp] theorem z83 : tyZero Try.prog 83 = some (.nils) := by kernel_rfl
@[simp] theorem s84 : tySize Try.prog 84 = some 1 := by kernel_rfl
@[simp] theorem b84 : tyBytes Try.prog 84 = some 8 := by kernel_rfl
@[simp] theorem a84 : tyAgg Try.prog 84 = false := by kernel_rfl
@[simp] theorem c84 : tyScalar Try.prog 84 = true := by kernel_rfl
@[simp] theorem z84 : tyZero Try.prog 84 = some (.nilFunc) := by kernel_rfl
@[simp] theorem s85 : tySize Try.prog 85 = some 1 := by kernel_rfl
@[simp] theorem b85 : tyBytes Try.prog 85 = some 24 := by kernel_rfl
@[simp] theorem a85 : tyAgg Try.prog 85 = false := by kernel_rfl
@[simp] theorem c85 : tyScalar Try.prog 85 = true := by kernel_rfl
@[simp] theorem z85 : tyZero Try.prog 85 = some (.nils) := by kernel_rfl
@[simp] theorem s86 : tySize Try.prog 86 = some 4 := by kernel_rfl
@[simp] theorem b86 : tyBytes Try.prog 86 = some 48 := by kernel_rfl
@[simp] theorem a86 : tyAgg Try.prog 86 = true := by kernel_rfl
@[simp] theorem c86 : tyScalar Try.prog 86 = false := by kernel_rfl
@[simp] theorem z86 : tyZero Try.prog 86 = some (.agg [.bool false, .nils, .bool false, .int .i64 0]) := by kernel_rfl
@[simp] theorem s87 : tySize Try.prog 87 = some 4 := by kernel_rfl
@[simp] theorem b87 : tyBytes Try.prog 87 = some 48 := by kernel_rfl
@[simp] theorem a87 : tyAgg Try.prog 87 = true := by kernel_rfl
@[simp] theorem c87 : tyScalar Try.prog 87 = false := by kernel_rfl
@[simp] theorem z87 : tyZero Try.prog 87 = some (.agg [.bool false, .nils, .bool false, .int .i64 0]) := by kernel_rfl
@[simp] theorem s88 : tySize Try.prog 88 = some 1 := by kernel_rfl
@[simp] theorem b88 : tyBytes Try.prog 88 = some 8 := by kernel_rfl
@[simp] theorem a88 : tyAgg Try.prog 88 = false := by kernel_rfl
@[simp] theorem c88 : tyScalar Try.prog 88 = true := by kernel_rfl
@[simp] theorem z88 : tyZero Try.prog 88 = some (.nilFunc) := by kernel_rfl
@[simp] theorem s89 : tySize Try.prog 89 = some 1 := by kernel_rfl
@[simp] theorem b89 : tyBytes Try.prog 89 = some 8 := by kernel_rfl
@[simp] theorem a89 : tyAgg Try.prog 89 = false := by kernel_rfl
@[simp] theorem c89 : tyScalar Try.prog 89 = true := by kernel_rfl
@[simp] theorem z89 : tyZero Try.prog 89 = some (.nilp) := by kernel_rfl
@[simp] theorem s90 : tySize Try.prog 90 = some 2 := by kernel_rfl
@[simp] theorem b90 : tyBytes Try.prog 90 = some 32 := by kernel_rfl
@[simp] theorem a90 : tyAgg Try.prog 90 = true := by kernel_rfl
@[simp] theorem c90 : tyScalar Try.prog 90 = false := by kernel_rfl
@[simp] theorem z90 : tyZero Try.prog 90 = some (.agg [.nilp, .nils]) := by kernel_rfl
@[simp] theorem s91 : tySize Try.prog 91 = some 2 := by kernel_rfl
@[simp] theorem b91 : tyBytes Try.prog 91 = some 32 := by kernel_rfl
@[simp] theorem a91 : tyAgg Try.prog 91 = true := by kernel_rfl
@[simp] theorem c91 : tyScalar Try.prog 91 = false := by kernel_rfl
@[simp] theorem z91 : tyZero Try.prog 91 = some (.agg [.nilp, .nils]) := by kernel_rfl
@[simp] theorem s92 : tySize Try.prog 92 = some 1 := by kernel_rfl
@[simp] theorem b92 : tyBytes Try.prog 92 = some 8 := by kernel_rfl
@[simp] theorem a92 : tyAgg Try.prog 92 = false := by kernel_rfl
@[simp] theorem c92 : tyScalar Try.prog 92 = true := by kernel_rfl
@[simp] theorem z92 : tyZero Try.prog 92 = some (.nilFunc) := by kernel_rfl
@[simp] theorem s93 : tySize Try.prog 93 = some 1 := by kernel_rfl
@[simp] theorem b93 : tyBytes Try.prog 93 = some 16 := by kernel_rfl
@[simp] theorem a93 : tyAgg Try.prog 93 = false := by kernel_rfl
@[simp] theorem c93 : tyScalar Try.prog 93 = true := by kernel_rfl
@[simp] theorem z93 : tyZero Try.prog 93 = some (.nilIface) := by kernel_rfl
@[simp] theorem s94 : tySize Try.prog 94 = some 1 := by kernel_rfl
@[simp] theorem b94 : tyBytes Try.prog 94 = some 16 := by kernel_rfl
@[simp] theorem a94 : tyAgg Try.prog 94 = false := by kernel_rfl
@[simp] theorem c94 : tyScalar Try.prog 94 = true := by kernel_rfl
@[simp] theorem z94 : tyZero Try.prog 94 = some (.nilIface) := by kernel_rfl
@[simp] theorem s95 : tySize Try.prog 95 = some 1 := by kernel_rfl
@[simp] theorem b95 : tyBytes Try.prog 95 = some 8 := by kernel_rfl
@[simp] theorem a95 : tyAgg Try.prog 95 = false := by kernel_rfl
@[simp] theorem c95 : tyScalar Try.prog 95 = true := by kernel_rfl
@[simp] theorem z95 : tyZero Try.prog 95 = some (.nilFunc) := by kernel_rfl
@[simp] theorem s96 : tySize Try.prog 96 = some 1 := by kernel_rfl
@[simp] theorem b96 : tyBytes Try.prog 96 = some 8 := by kernel_rfl
@[simp] theorem a96 : tyAgg Try.prog 96 = false := by kernel_rfl
@[simp] theorem c96 : tyScalar Try.prog 96 = true := by kernel_rfl
@[simp] theorem z96 : tyZero Try.prog 96 = some (.nilFunc) := by kernel_rfl
@[simp] theorem s97 : tySize Try.prog 97 = some 2 := by kernel_rfl
@[simp] theorem b97 : tyBytes Try.prog 97 = some 24 := by kernel_rfl
@[simp] theorem a97 : tyAgg Try.prog 97 = true := by kernel_rfl
@[simp] theorem c97 : tyScalar Try.prog 97 = false := by kernel_rfl
@[simp] theorem z97 : tyZero Try.prog 97 = some (.agg [.str [], .int .i64 0]) := by kernel_rfl
@[simp] theorem s98 : tySize Try.prog 98 = some 2 := by kernel_rfl
@[simp] theorem b98 : tyBytes Try.prog 98 = some 24 := by kernel_rfl
@[simp] theorem a98 : tyAgg Try.prog 98 = true := by kernel_rfl
@[simp] theorem c98 : tyScalar Try.prog 98 = false := by kernel_rfl
@[simp] theorem z98 : tyZero Try.prog 98 = some (.agg [.str [], .int .i64 0]) := by kernel_rfl
@[simp] theorem s99 : tySize Try.prog 99 = some 1 := by kernel_rfl
@[simp] theorem b99 : tyBytes Try.prog 99 = some 8 := by kernel_rfl
@[simp] theorem a99 : tyAgg Try.prog 99 = false := by kernel_rfl
@[simp] theorem c99 : tyScalar Try.prog 99 = true := by kernel_rfl
@[simp] theorem z99 : tyZero Try.prog 99 = some (.nilFunc) := by kernel_rfl
@[simp] theorem s100 : tySize Try.prog 100 = some 1 := by kernel_rfl
@[simp] theorem b100 : tyBytes Try.prog 100 = some 8 := by kernel_rfl
@[simp] theorem a100 : tyAgg Try.prog 100 = false := by kernel_rfl
@[simp] theorem c100 : tyScalar Try.prog 100 = true := by kernel_rfl
@[simp] theorem z100 : tyZero Try.prog 100 = some (.nilFunc) := by kernel_rfl
@[simp] theorem s101 : tySize Try.prog 101 = some 1 := by kernel_rfl
@[simp] theorem b101 : tyBytes Try.prog 101 = some 24 := by kernel_rfl
@[simp] theorem a101 : tyAgg Try.prog 101 = false := by kernel_rfl
@[simp] theorem c101 : tyScalar Try.prog 101 = true := by kernel_rfl
@[simp] theorem z101 : tyZero Try.prog 101 = some (.nils) := by kernel_rfl
@[simp] theorem s102 : tySize Try.prog 102 = some 1 := by kernel_rfl
@[simp] theorem b102 : tyBytes Try.prog 102 = some 8 := by kernel_rfl
@[simp] theorem a102 : tyAgg Try.prog 102 = false := by kernel_rfl
@[simp] theorem c102 : tyScalar Try.prog 102 = true := by kernel_rfl
@[simp] theorem z102 : tyZero Try.prog 102 = some (.nilFunc) := by kernel_rfl
@[simp] theorem s103 : tySize Try.prog 103 = some 1 := by kernel_rfl
@[simp] theorem b103 : tyBytes Try.prog 103 = some 8 := by kernel_rfl
@[simp] theorem a103 : tyAgg Try.prog 103 = false := by kernel_rfl
@[simp] theorem c103 : tyScalar Try.prog 103 = true := by kernel_rfl
@[simp] theorem z103 : tyZero Try.prog 103 = some (.nilFunc) := by kernel_rfl
@[simp] theorem s104 : tySize Try.prog 104 = some 1 := by kernel_rfl
@[simp] theorem b104 : tyBytes Try.prog 104 = some 8 := by kernel_rfl
@[simp] theorem a104 : tyAgg Try.prog 104 = false := by kernel_rfl
@[simp] theorem c104 : tyScalar Try.prog 104 = true := by kernel_rfl
@[simp] theorem z104 : tyZero Try.prog 104 = some (.nilp) := by kernel_rfl
@[simp] theorem s105 : tySize Try.prog 105 = some 2 := by kernel_rfl
@[simp] theorem b105 : tyBytes Try.prog 105 = some 24 := by kernel_rfl
@[simp] theorem a105 : tyAgg Try.prog 105 = true := by kernel_rfl
@[simp] theorem c105 : tyScalar Try.prog 105 = false := by kernel_rfl
@[simp] theorem z105 : tyZero Try.prog 105 = some (.agg [.str [], .int .i64 0]) := by kernel_rfl
@[simp] theorem s106 : tySize Try.prog 106 = some 2 := by kernel_rfl
@[simp] theorem b106 : tyBytes Try.prog 106 = some 24 := by kernel_rfl
@[simp] theorem a106 : tyAgg Try.prog 106 = true := by kernel_rfl
@[simp] theorem c106 : tyScalar Try.prog 106 = false := by kernel_rfl
@[simp] theorem z106 : tyZero Try.prog 106 = some (.agg [.str [], .int .i64 0]) := by kernel_rfl
@[simp] theorem s108 : tySize Try.prog 108 = some 1 := by kernel_rfl
@[simp] theorem b108 : tyBytes Try.prog 108 = some 8 := by kernel_rfl
@[simp] theorem a108 : tyAgg Try.prog 108 = false := by kernel_rfl
@[simp] theorem c108 : tyScalar Try.prog 108 = true := by kernel_rfl
@[simp] theorem z108 : tyZero Try.prog 108 = some (.nilFunc) := by kernel_rfl
@[simp] theorem s110 : tySize Try.prog 110 = some 1 := by kernel_rfl
@[simp] theorem b110 : tyBytes Try.prog 110 = some 8 := by kernel_rfl
@[simp] theorem a110 : tyAgg Try.prog 110 = false := by kernel_rfl
@[simp] theorem c110 : tyScalar Try.prog 110 = true := by kernel_rfl
@[simp] theorem z110 : tyZero Try.prog 110 = some (.nilFunc) := by kernel_rfl
@[simp] theorem s111 : tySize Try.prog 111 = some 1 := by kernel_rfl
@[simp] theorem b111 : tyBytes Try.prog 111 = some 8 := by kernel_rfl
@[simp] theorem a111 : tyAgg Try.prog 111 = false := by kernel_rfl
@[simp] theorem c111 : tyScalar Try.prog 111 = true := by kernel_rfl
@[simp] theorem z111 : tyZero Try.prog 111 = some (.nilFunc) := by kernel_rfl
@[simp] theorem s112 : tySize Try.prog 112 = some 2 := by kernel_rfl
@[simp] theorem b112 : tyBytes Try.prog 112 = some 2 := by kernel_rfl
@[simp] theorem a112 : tyAgg Try.prog 112 = true := by kernel_rfl
@[simp] theorem c112 : tyScalar Try.prog 112 = false := by kernel_rfl
@[simp] theorem z112 : tyZero Try.prog 112 = some (.agg [.int .u8 0, .int .u8 0]) := by kernel_rfl
@[simp] theorem s113 : tySize Try.prog 113 = some 2 := by kernel_rfl
@[simp] theorem b113 : tyBytes Try.prog 113 = some 2 := by kernel_rfl
@[simp] theorem a113 : tyAgg Try.prog 113 = true := by kernel_rfl
@[simp] theorem c113 : tyScalar Try.prog 113 = false := by kernel_rfl
@[simp] theorem z113 : tyZero Try.prog 113 = some (.agg [.int .u8 0, .int .u8 0]) := by kernel_rfl
@[simp] theorem s114 : tySize Try.prog 114 = some 1 := by kernel_rfl
@[simp] theorem b114 : tyBytes Try.prog 114 = some 8 := by kernel_rfl
@[simp] theorem a114 : tyAgg Try.prog 114 = false := by kernel_rfl
@[simp] theorem c114 : tyScalar Try.prog 114 = true := by kernel_rfl
@[simp] theorem z114 : tyZero Try.prog 114 = some (.nilp) := by kernel_rfl
@[simp] theorem s115 : tySize Try.prog 115 = some 1 := by kernel_rfl
@[simp] theorem b115 : tyBytes Try.prog 115 = some 8 := by kernel_rfl
@[simp] theorem a115 : tyAgg Try.prog 115 = false := by kernel_rfl
@[simp] theorem c115 : tyScalar Try.prog 115 = true := by kernel_rfl
@[simp] theorem z115 : tyZero Try.prog 115 = some (.nilFunc) := by kernel_rfl
@[simp] theorem s116 : tySize Try.prog 116 = some 20 := by kernel_rfl
@[simp] theorem b116 : tyBytes Try.prog 116 = some 20 := by kernel_rfl
@[simp] theorem a116 : tyAgg Try.prog 116 = true := by kernel_rfl
@[simp] theorem c116 : tyScalar Try.prog 116 = false := by kernel_rfl
@[simp] theorem z116 : tyZero Try.prog 116 = some (.agg [.int .u8 0, .int .u8 0, .int .u8 0, .int .u8 0, .int .u8 0, .int .u8 0, .int .u8 0, .int .u8 0, .int .u8 0, .int .u8 0, .int .u8 0, .int .u8 0, .int .u8 0, .int .u8 0, .int .u8 0, .int .u8 0, .int .u8 0, .int .u8 0, .int .u8 0, .int .u8 0]) := by kernel_rfl
@[simp] theorem s117 : tySize Try.prog 117 = some 1 := by kernel_rfl
@[simp] theorem b117 : tyBytes Try.prog 117 = some 8 := by kernel_rfl
@[simp] theorem a117 : tyAgg Try.prog 117 = false := by kernel_rfl
@[simp] theorem c117 : tyScalar Try.prog 117 = true := by kernel_rfl
@[simp] theorem z117 : tyZero Try.prog 117 = some (.int .u64 0) := by kernel_rfl
@[simp] theorem s118 : tySize Try.prog 118 = some 1 := by kernel_rfl
@[simp] theorem b118 : tyBytes Try.prog 118 = some 8 := by kernel_rfl
@[simp] theorem a118 : tyAgg Try.prog 118 = false := by kernel_rfl
@[simp] theorem c118 : tyScalar Try.prog 118 = true := by kernel_rfl
@[simp] theorem z118 : tyZero Try.prog 118 = some (.nilFunc) := by kernel_rfl
@[simp] theorem s120 : tySize Try.prog 120 = some 1 := by kernel_rfl
@[simp] theorem b120 : tyBytes Try.prog 120 = some 8 := by kernel_rfl
@[simp] theorem a120 : tyAgg Try.prog 120 = false := by kernel_rfl
@[simp] theorem c120 : tyScalar Try.prog 120 = true := by kernel_rfl
@[simp] theorem z120 : tyZero Try.prog 120 = some (.nilFunc) := by kernel_rfl
@[simp] theorem s121 : tySize Try.prog 121 = some 1 := by kernel_rfl
@[simp] theorem b121 : tyBytes Try.prog 121 = some 8 := by kernel_rfl
@[simp] theorem a121 : tyAgg Try.prog 121 = false := by kernel_rfl
@[simp] theorem c121 : tyScalar Try.prog 121 = true := by kernel_rfl
@[simp] theorem z121 : tyZero Try.prog 121 = some (.nilFunc) := by kernel_rfl
@[simp] theorem s123 : tySize Try.prog 123 = some 1 := by kernel_rfl
@[simp] theorem b123 : tyBytes Try.prog 123 = some 8 := by kernel_rfl
@[simp] theorem a123 : tyAgg Try.prog 123 = false := by kernel_rfl
@[simp] theorem c123 : tyScalar Try.prog 123 = true := by kernel_rfl
@[simp] theorem z123 : tyZero Try.prog 123 = some (.nilFunc) := by kernel_rfl
@[simp] theorem s125 : tySize Try.prog 125 = some 1 := by kernel_rfl
@[simp] theorem b125 : tyBytes Try.prog 125 = some 8 := by kernel_rfl
@[simp] theorem a125 : tyAgg Try.prog 125 = false := by kernel_rfl
@[simp] theorem c125 : tyScalar Try.prog 125 = true := by kernel_rfl
@[simp] theorem z125 : tyZero Try.prog 125 = some (.nilFunc) := by kernel_rfl
@[simp] theorem s126 : tySize Try.prog 126 = some 1 := by kernel_rfl
@[simp] theorem b126 : tyBytes Try.prog 126 = some 8 := by kernel_rfl
@[simp] theorem a126 : tyAgg Try.prog 126 = false := by kernel_rfl
@[simp] theorem c126 : tyScalar Try.prog 126 = true := by kernel_rfl
@[simp] theorem z126 : tyZero Try.prog 126 = some (.nilFunc) := by kernel_rfl
@[simp] theorem s127 : tySize Try.prog 127 = some 1 := by kernel_rfl
@[simp] theorem b127 : tyBytes Try.prog 127 = some 8 := by kernel_rfl
@[simp] theorem a127 : tyAgg Try.prog 127 = false := by kernel_rfl
@[simp] theorem c127 : tyScalar Try.prog 127 = true := by kernel_rfl
@[simp] theorem z127 : tyZero Try.prog 127 = some (.nilFunc) := by kernel_rfl
@[simp] theorem s128 : tySize Try.prog 128 = some 1 := by kernel_rfl
@[simp] theorem b128 : tyBytes Try.prog 128 = some 8 := by kernel_rfl
@[simp] theorem a128 : tyAgg Try.prog 128 = false := by kernel_rfl
@[simp] theorem c128 : tyScalar Try.prog 128 = true := by kernel_rfl
@[simp] theorem z128 : tyZero Try.prog 128 = some (.nilFunc) := by kernel_rfl
@[simp] theorem s129 : tySize Try.prog 129 = some 1 := by kernel_rfl
@[simp] theorem b129 : tyBytes Try.prog 129 = some 8 := by kernel_rfl
@[simp] theorem a129 : tyAgg Try.prog 129 = false := by kernel_rfl
@[simp] theorem c129 : tyScalar Try.prog 129 = true := by kernel_rfl
@[simp] theorem z129 : tyZero Try.prog 129 = some (.nilFunc) := by kernel_rfl
@[simp] theorem s130 : tySize Try.prog 130 = some 1 := by kernel_rfl
@[simp] theorem b130 : tyBytes Try.prog 130 = some 8 := by kernel_rfl
@[simp] theorem a130 : tyAgg Try.prog 130 = false := by kernel_rfl
@[simp] theorem c130 : tyScalar Try.prog 130 = true := by kernel_rfl
@[simp] theorem z130 : tyZero Try.prog 130 = some (.int .u64 0) := by kernel_rfl
@[simp] theorem s131 : tySize Try.prog 131 = some 1 := by kernel_rfl
@[simp] theorem b131 : tyBytes Try.prog 131 = some 8 := by kernel_rfl
@[simp] theorem a131 : tyAgg Try.prog 131 = false := by kernel_rfl
@[simp] theorem c131 : tyScalar Try.prog 131 = true := by kernel_rfl
@[simp] theorem z131 : tyZero Try.prog 131 = some (.nilFunc) := by kernel_rfl
@[simp] theorem s132 : tySize Try.prog 132 = some 1 := by kernel_rfl
@[simp] theorem b132 : tyBytes Try.prog 132 = some 8 := by kernel_rfl
@[simp] theorem a132 : tyAgg Try.prog 132 = false := by kernel_rfl
@[simp] theorem c132 : tyScalar Try.prog 132 = true := by kernel_rfl
@[simp] theorem z132 : tyZero Try.prog 132 = some (.nilFunc) := by kernel_rfl
@[simp] theorem s134 : tySize Try.prog 134 = some 1 := by kernel_rfl
@[simp] theorem b134 : tyBytes Try.prog 134 = some 8 := by kernel_rfl
@[simp] theorem a134 : tyAgg Try.prog 134 = false := by kernel_rfl
@[simp] theorem c134 : tyScalar Try.prog 134 = true := by kernel_rfl
@[simp] theorem z134 : tyZero Try.prog 134 = some (.nilFunc) := by kernel_rfl
@[simp] theorem s135 : tySize Try.prog 135 = some 1 := by kernel_rfl
@[simp] theorem b135 : tyBytes Try.prog 135 = some 8 := by kernel_rfl
@[simp] theorem a135 : tyAgg Try.prog 135 = false := by kernel_rfl
@[simp] theorem c135 : tyScalar Try.prog 135 = true := by kernel_rfl
@[simp] theorem z135 : tyZero Try.prog 135 = some (.nilFunc) := by kernel_rfl
@[simp] theorem s137 : tySize Try.prog 137 = some 1 := by kernel_rfl
@[simp] theorem b137 : tyBytes Try.prog 137 = some 8 := by kernel_rfl
@[simp] theorem a137 : tyAgg Try.prog 137 = false := by kernel_rfl
@[simp] theorem c137 : tyScalar Try.prog 137 = true := by kernel_rfl
@[simp] theorem z137 : tyZero Try.prog 137 = some (.nilFunc) := by kernel_rfl
@[simp] theorem s139 : tySize Try.prog 139 = some 1 := by kernel_rfl
@[simp] theorem b139 : tyBytes Try.prog 139 = some 8 := by kernel_rfl
@[simp] theorem a139 : tyAgg Try.prog 139 = false := by kernel_rfl
@[simp] theorem c139 : tyScalar Try.prog 139 = true := by kernel_rfl
@[simp] theorem z139 : tyZero Try.prog 139 = some (.nilFunc) := by kernel_rfl
@[simp] theorem s140 : tySize Try.prog 140 = some 1 := by kernel_rfl
@[simp] theorem b140 : tyBytes Try.prog 140 = some 8 := by kernel_rfl
@[simp] theorem a140 : tyAgg Try.prog 140 = false := by kernel_rfl
@[simp] theorem c140 : tyScalar Try.prog 140 = true := by kernel_rfl
@[simp] theorem z140 : tyZero Try.prog 140 = some (.nilFunc) := by kernel_rfl
@[simp] theorem s141 : tySize Try.prog 141 = some 1 := by kernel_rfl
@[simp] theorem b141 : tyBytes Try.prog 141 = some 8 := by kernel_rfl
@[simp] theorem a141 : tyAgg Try.prog 141 = false := by kernel_rfl
@[simp] theorem c141 : tyScalar Try.prog 141 = true := by kernel_rfl
@[simp] theorem z141 : tyZero Try.prog 141 = some (.nilFunc) := by kernel_rfl
@[simp] theorem s142 : tySize Try.prog 142 = some 1 := by kernel_rfl
@[simp] theorem b142 : tyBytes Try.prog 142 = some 8 := by kernel_rfl
@[simp] theorem a142 : tyAgg Try.prog 142 = false := by kernel_rfl
@[simp] theorem c142 : tyScalar Try.prog 142 = true := by kernel_rfl
@[simp] theorem z142 : tyZero Try.prog 142 = some (.nilFunc) := by kernel_rfl
@[simp] theorem s143 : tySize Try.prog 143 = some 1 := by kernel_rfl
@[simp] theorem b143 : tyBytes Try.prog 143 = some 8 := by kernel_rfl
@[simp] theorem a143 : tyAgg Try.prog 143 = false := by kernel_rfl
@[simp] theorem c143 : tyScalar Try.prog 143 = true := by kernel_rfl
@[simp] theorem z143 : tyZero Try.prog 143 = some (.nilFunc) := by kernel_rfl
@[simp] theorem s145 : tySize Try.prog 145 = some 1 := by kernel_rfl
@[simp] theorem b145 : tyBytes Try.prog 145 = some 8 := by kernel_rfl
@[simp] theorem a145 : tyAgg Try.prog 145 = false := by kernel_rfl
@[simp] theorem c145 : tyScalar Try.prog 145 = true := by kernel_rfl
@[simp] theorem z145 : tyZero Try.prog 145 = some (.nilFunc) := by kernel_rfl
@[simp] theorem s146 : tySize Try.prog 146 = some 1 := by kernel_rfl
@[simp] theorem b146 : tyBytes Try.prog 146 = some 8 := by kernel_rfl
@[simp] theorem a146 : tyAgg Try.prog 146 = false := by kernel_rfl
@[simp] theorem c146 : tyScalar Try.prog 146 = true := by kernel_rfl
@[simp] theorem z146 : tyZero Try.prog 146 = some (.nilFunc) := by kernel_rfl
@[simp] theorem s147 : tySize Try.prog 147 = some 1 := by kernel_rfl
@[simp] theorem b147 : tyBytes Try.prog 147 = some 8 := by kernel_rfl
@[simp] theorem a147 : tyAgg Try.prog 147 = false := by kernel_rfl
@[simp] theorem c147 : tyScalar Try.prog 147 = true := by kernel_rfl
@[simp] theorem z147 : tyZero Try.prog 147 = some (.int .i64 0) := by kernel_rfl
@[simp] theorem s149 : tySize Try.prog 149 = some 1 := by kernel_rfl
@[simp] theorem b149 : tyBytes Try.prog 149 = some 8 := by kernel_rfl
@[simp] theorem a149 : tyAgg Try.prog 149 = false := by kernel_rfl
@[simp] theorem c149 : tyScalar Try.prog 149 = true := by kernel_rfl
@[simp] theorem z149 : tyZero Try.prog 149 = some (.nilFunc) := by kernel_rfl
@[simp] theorem s150 : tySize Try.prog 150 = some 1 := by kernel_rfl
@[simp] theorem b150 : tyBytes Try.prog 150 = some 8 := by kernel_rfl
@[simp] theorem a150 : tyAgg Try.prog 150 = false := by kernel_rfl
@[simp] theorem c150 : tyScalar Try.prog 150 = true := by kernel_rfl
@[simp] theorem z150 : tyZero Try.prog 150 = some (.nilFunc) := by kernel_rfl
@[simp] theorem s151 : tySize Try.prog 151 = some 1 := by kernel_rfl
@[simp] theorem b151 : tyBytes Try.prog 151 = some 8 := by kernel_rfl
@[simp] theorem a151 : tyAgg Try.prog 151 = false := by kernel_rfl
@[simp] theorem c151 : tyScalar Try.prog 151 = true := by kernel_rfl
@[simp] theorem z151 : tyZero Try.prog 151 = some (.nilFunc) := by kernel_rfl
@[simp] theorem s152 : tySize Try.prog 152 = some 1 := by kernel_rfl
@[simp] theorem b152 : tyBytes Try.prog 152 = some 8 := by kernel_rfl
@[simp] theorem a152 : tyAgg Try.prog 152 = false := by kernel_rfl
@[simp] theorem c152 : tyScalar Try.prog 152 = true := by kernel_rfl
@[simp] theorem z152 : tyZero Try.prog 152 = some (.nilFunc) := by kernel_rfl
@[simp] theorem s153 : tySize Try.prog 153 = some 1 := by kernel_rfl
@[simp] theorem b153 : tyBytes Try.prog 153 = some 8 := by kernel_rfl
@[simp] theorem a153 : tyAgg Try.prog 153 = false := by kernel_rfl
@[simp] theorem c153 : tyScalar Try.prog 153 = true := by kernel_rfl
@[simp] theorem z153 : tyZero Try.prog 153 = some (.nilFunc) := by kernel_rfl
@[simp] theorem s154 : tySize Try.prog 154 = some 1 := by kernel_rfl
@[simp] theorem b154 : tyBytes Try.prog 154 = some 4 := by kernel_rfl
@[simp] theorem a154 : tyAgg Try.prog 154 = false := by kernel_rfl
@[simp] theorem c154 : tyScalar Try.prog 154 = true := by kernel_rfl
@[simp] theorem z154 : tyZero Try.prog 154 = some (.int .u32 0) := by kernel_rfl
@[simp] theorem s155 : tySize Try.prog 155 = some 1 := by kernel_rfl
@[simp] theorem b155 : tyBytes Try.prog 155 = some 8 := by kernel_rfl
@[simp] theorem a155 : tyAgg Try.prog 155 = false := by kernel_rfl
@[simp] theorem c155 : tyScalar Try.prog 155 = true := by kernel_rfl
@[simp] theorem z155 : tyZero Try.prog 155 = some (.nilFunc) := by kernel_rfl
@[simp] theorem s156 : tySize Try.prog 156 = some 1 := by kernel_rfl
@[simp] theorem b156 : tyBytes Try.prog 156 = some 8 := by kernel_rfl
@[simp] theorem a156 : tyAgg Try.prog 156 = false := by kernel_rfl
@[simp] theorem c156 : tyScalar Try.prog 156 = true := by kernel_rfl
@[simp] theorem z156 : tyZero Try.prog 156 = some (.nilFunc) := by kernel_rfl
@[simp] theorem s157 : tySize Try.prog 157 = some 1 := by kernel_rfl
@[simp] theorem b157 : tyBytes Try.prog 157 = some 8 := by kernel_rfl
@[simp] theorem a157 : tyAgg Try.prog 157 = false := by kernel_rfl
@[simp] theorem c157 : tyScalar Try.prog 157 = true := by kernel_rfl
@[simp] theorem z157 : tyZero Try.prog 157 = some (.int .u64 0) := by kernel_rfl
@[simp] theorem s158 : tySize Try.prog 158 = some 1 := by kernel_rfl
@[simp] theorem b158 : tyBytes Try.prog 158 = some 8 := by kernel_rfl
@[simp] theorem a158 : tyAgg Try.prog 158 = false := by kernel_rfl
@[simp] theorem c158 : tyScalar Try.prog 158 = true := by kernel_rfl
@[simp] theorem z158 : tyZero Try.prog 158 = some (.nilFunc) := by kernel_rfl
@[simp] theorem s159 : tySize Try.prog 159 = some 1 := by kernel_rfl
@[simp] theorem b159 : tyBytes Try.prog 159 = some 8 := by kernel_rfl
@[simp] theorem a159 : tyAgg Try.prog 159 = false := by kernel_rfl
@[simp] theorem c159 : tyScalar Try.prog 159 = true := by kernel_rfl
@[simp] theorem z159 : tyZero Try.prog 159 = some (.nilFunc) := by kernel_rfl
@[simp] theorem s160 : tySize Try.prog 160 = some 1 := by kernel_rfl
@[simp] theorem b160 : tyBytes Try.prog 160 = some 8 := by kernel_rfl
@[simp] theorem a160 : tyAgg Try.prog 160 = false := by kernel_rfl
@[simp] theorem c160 : tyScalar Try.prog 160 = true := by kernel_rfl
@[simp] theorem z160 : tyZero Try.prog 160 = some (.nilFunc) := by kernel_rfl
@[simp] theorem s161 : tySize Try.prog 161 = some 1 := by kernel_rfl
@[simp] theorem b161 : tyBytes Try.prog 161 = some 8 := by kernel_rfl
@[simp] theorem a161 : tyAgg Try.prog 161 = false := by kernel_rfl
@[simp] theorem c161 : tyScalar Try.prog 161 = true := by kernel_rfl
@[simp] theorem z161 : tyZero Try.prog 161 = some (.nilp) := by kernel_rfl
@[simp] theorem s162 : tySize Try.prog 162 = some 1 := by kernel_rfl
@[simp] theorem b162 : tyBytes Try.prog 162 = some 8 := by kernel_rfl
@[simp] theorem a162 : tyAgg Try.prog 162 = false := by kernel_rfl
@[simp] theorem c162 : tyScalar Try.prog 162 = true := by kernel_rfl
@[simp] theorem z162 : tyZero Try.prog 162 = some (.nilFunc) := by kernel_rfl
@[simp] theorem s163 : tySize Try.prog 163 = some 1 := by kernel_rfl
@[simp] theorem b163 : tyBytes Try.prog 163 = some 8 := by kernel_rfl
@[simp] theorem a163 : tyAgg Try.prog 163 = false := by kernel_rfl
@[simp] theorem c163 : tyScalar Try.prog 163 = true := by kernel_rfl
@[simp] theorem z163 : tyZero Try.prog 163 = some (.nilFunc) := by kernel_rfl
@[simp] theorem s164 : tySize Try.prog 164 = some 1 := by kernel_rfl
@[simp] theorem b164 : tyBytes Try.prog 164 = some 8 := by kernel_rfl
@[simp] theorem a164 : tyAgg Try.prog 164 = false := by kernel_rfl
@[simp] theorem c164 : tyScalar Try.prog 164 = true := by kernel_rfl
@[simp] theorem z164 : tyZero Try.prog 164 = some (.nilp) := by kernel_rfl
@[simp] theorem s166 : tySize Try.prog 166 = some 1 := by kernel_rfl
@[simp] theorem b166 : tyBytes Try.prog 166 = some 8 := by kernel_rfl
@[simp] theorem a166 : tyAgg Try.prog 166 = false := by kernel_rfl
@[simp] theorem c166 : tyScalar Try.prog 166 = true := by kernel_rfl
@[simp] theorem z166 : tyZero Try.prog 166 = some (.nilFunc) := by kernel_rfl
@[simp] theorem s168 : tySize Try.prog 168 = some 1 := by kernel_rfl
@[simp] theorem b168 : tyBytes Try.prog 168 = some 8 := by kernel_rfl
@[simp] theorem a168 : tyAgg Try.prog 168 = false := by kernel_rfl
@[simp] theorem c168 : tyScalar Try.prog 168 = true := by kernel_rfl
@[simp] theorem z168 : tyZero Try.prog 168 = some (.nilFunc) := by kernel_rfl
@[simp] theorem s169 : tySize Try.prog 169 = some 4 := by kernel_rfl
@[simp] theorem b169 : tyBytes Try.prog 169 = some 40 := by kernel_rfl
@[simp] theorem a169 : tyAgg Try.prog 169 = true := by kernel_rfl
@[simp] theorem c169 : tyScalar Try.prog 169 = false := by kernel_rfl
@[simp] theorem z169 : tyZero Try.prog 169 = some (.agg [.nilp, .nilp, .nilp, .str []]) := by kernel_rfl
@[simp] theorem s170 : tySize Try.prog 170 = some 4 := by kernel_rfl
@[simp] theorem b170 : tyBytes Try.prog 170 = some 40 := by kernel_rfl
@[simp] theorem a170 : tyAgg Try.prog 170 = true := by kernel_rfl
@[simp] theorem c170 : tyScalar Try.prog 170 = false := by kernel_rfl
@[simp] theorem z170 : tyZero Try.prog 170 = some (.agg [.nilp, .nilp, .nilp, .str []]) := by kernel_rfl
@[simp] theorem s171 : tySize Try.prog 171 = some 0 := by kernel_rfl
@[simp] theorem b171 : tyBytes Try.prog 171 = some 0 := by kernel_rfl
@[simp] theorem a171 : tyAgg Try.prog 171 = true := by kernel_rfl
@[simp] theorem c171 : tyScalar Try.prog 171 = false := by kernel_rfl
@[simp] theorem z171 : tyZero Try.prog 171 = some (.agg []) := by kernel_rfl
@[simp] theorem s172 : tySize Try.prog 172 = some 0 := by kernel_rfl
@[simp] theorem b172 : tyBytes Try.prog 172 = some 0 := by kernel_rfl
@[simp] theorem a172 : tyAgg Try.prog 172 = true := by kernel_rfl
@[simp] theorem c172 : tyScalar Try.prog 172 = false := by kernel_rfl
@[simp] theorem z172 : tyZero Try.prog 172 = some (.agg []) := by kernel_rfl
@[simp] theorem s173 : tySize Try.prog 173 = some 0 := by kernel_rfl
@[simp] theorem b173 : tyBytes Try.prog 173 = some 0 := by kernel_rfl
@[simp] theorem a173 : tyAgg Try.prog 173 = true := by kernel_rfl
@[simp] theorem c173 : tyScalar Try.prog 173 = false := by kernel_rfl
@[simp] theorem z173 : tyZero Try.prog 173 = some (.agg []) := by kernel_rfl
@[simp] theorem s174 : tySize Try.prog 174 = some 1 := by kernel_rfl
@[simp] theorem b174 : tyBytes Try.prog 174 = some 1 := by kernel_rfl
@[simp] theorem a174 : tyAgg Try.prog 174 = false := by kernel_rfl
@[simp] theorem c174 : tyScalar Try.prog 174 = true := by kernel_rfl
@[simp] theorem z174 : tyZero Try.prog 174 = some (.int .u8 0) := by kernel_rfl
@[simp] theorem s175 : tySize Try.prog 175 = some 1 := by kernel_rfl
@[simp] theorem b175 : tyBytes Try.prog 175 = some 1 := by kernel_rfl
@[simp] theorem a175 : tyAgg Try.prog 175 = false := by kernel_rfl
@[simp] theorem c175 : tyScalar Try.prog 175 = true := by kernel_rfl
@[simp] theorem z175 : tyZero Try.prog 175 = some (.int .u8 0) := by kernel_rfl
@[simp] theorem s176 : tySize Try.prog 176 = some 1 := by kernel_rfl
@[simp] theorem b176 : tyBytes Try.prog 176 = some 8 := by kernel_rfl
@[simp] theorem a176 : tyAgg Try.prog 176 = false := by kernel_rfl
@[simp] theorem c176 : tyScalar Try.prog 176 = true := by kernel_rfl
@[simp] theorem z176 : tyZero Try.prog 176 = some (.nilFunc) := by kernel_rfl
@[simp] theorem s177 : tySize Try.prog 177 = some 1 := by kernel_rfl
@[simp] theorem b177 : tyBytes Try.prog 177 = some 4 := by kernel_rfl
@[simp] theorem a177 : tyAgg Try.prog 177 = false := by kernel_rfl
@[simp] theorem c177 : tyScalar Try.prog 177 = true := by kernel_rfl
@[simp] theorem z177 : tyZero Try.prog 177 = some (.int .i32 0) := by kernel_rfl
@[simp] theorem s178 : tySize Try.prog 178 = some 1 := by kernel_rfl
@[simp] theorem b178 : tyBytes Try.prog 178 = some 4 := by kernel_rfl
@[simp] theorem a178 : tyAgg Try.prog 178 = false := by kernel_rfl
@[simp] theorem c178 : tyScalar Try.prog 178 = true := by kernel_rfl
@[simp] theorem z178 : tyZero Try.prog 178 = some (.int .i32 0) := by kernel_rfl
@[simp] theorem s179 : tySize Try.prog 179 = some 11 := by kernel_rfl
@[simp] theorem b179 : tyBytes Try.prog 179 = some 48 := by kernel_rfl
@[simp] theorem a179 : tyAgg Try.prog 179 = true := by kernel_rfl
@[simp] theorem c179 : tyScalar Try.prog 179 = false := by kernel_rfl
@[simp] theorem z179 : tyZero Try.prog 179 = some (.agg [.int .u64 0, .int .u64 0, .int .u32 0, .int .u8 0, .int .u8 0, .int .u8 0, .int .u8 0, .nilFunc, .nilp, .int .i32 0, .int .i32 0]) := by kernel_rfl
@[simp] theorem s180 : tySize Try.prog 180 = some 11 := by kernel_rfl
@[simp] theorem b180 : tyBytes Try.prog 180 = some 48 := by kernel_rfl
@[simp] theorem a180 : tyAgg Try.prog 180 = true := by kernel_rfl
@[simp] theorem c180 : tyScalar Try.prog 180 = false := by kernel_rfl
@[simp] theorem z180 : tyZero Try.prog 180 = some (.agg [.int .u64 0, .int .u64 0, .int .u32 0, .int .u8 0, .int .u8 0, .int .u8 0, .int .u8 0, .nilFunc, .nilp, .int .i32 0, .int .i32 0]) := by kernel_rfl
end Go.Proofs.Ytnifldbmflkmpaa.Ty
