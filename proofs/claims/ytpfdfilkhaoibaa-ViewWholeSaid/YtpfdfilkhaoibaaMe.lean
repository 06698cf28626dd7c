/-
  Parts, one behind the other: Ty, Cf, Rt, Gd, Ge, Rz.
-/
import Derived.Test.YtpfdfilkhaoibaaProg
import Derived.Test.YtpfdfilkhaoibaaMd
/-
  The types of the seat's program, as the evaluator asks for them. Written by program.
-/
namespace Go.Proofs.Ytpfdfilkhaoibaa.Ty
open Go Ev
attribute [simp] Try.underlying0 Try.underlying1 Try.underlying2 Try.underlying3 Try.underlying4 Try.underlying5 Try.underlying6 Try.underlying7 Try.underlying8 Try.underlying9 Try.underlying10 Try.underlying11 Try.underlying12 Try.underlying13 Try.underlying14 Try.underlying15 Try.underlying16 Try.underlying17 Try.underlying18 Try.underlying19 Try.underlying20 Try.underlying21 Try.underlying22 Try.underlying23 Try.underlying24 Try.underlying25 Try.underlying26 Try.underlying27 Try.underlying28 Try.underlying29 Try.underlying30 Try.underlying31 Try.underlying32 Try.underlying33 Try.underlying34 Try.underlying35 Try.underlying36 Try.underlying37 Try.underlying38 Try.underlying39 Try.underlying40 Try.underlying41 Try.underlying42 Try.underlying43 Try.underlying44 Try.underlying45 Try.underlying46 Try.underlying47 Try.underlying48 Try.underlying49 Try.underlying50 Try.underlying51 Try.underlying52 Try.underlying53 Try.underlying54 Try.underlying55 Try.underlying56 Try.underlying57 Try.underlying58 Try.underlying59 Try.underlying60 Try.underlying61 Try.underlying62 Try.underlying63 Try.underlying64 Try.underlying65 Try.underlying66 Try.underlying67 Try.underlying68 Try.underlying69 Try.underlying70 Try.underlying71 Try.underlying72 Try.underlying73 Try.underlying74 Try.underlying75 Try.underlying76 Try.underlying77 Try.underlying78 Try.underlying79 Try.underlying80 Try.underlying81 Try.underlying82 Try.underlying83 Try.underlying84 Try.underlying85 Try.underlying86 Try.underlying87 Try.underlying88 Try.underlying89 Try.underlying90 Try.underlying91 Try.underlying92 Try.underlying93 Try.underlying94 Try.underlying95 Try.underlying96 Try.underlying97 Try.underlying98 Try.underlying99 Try.underlying100 Try.underlying101 Try.underlying102 Try.underlying103 Try.underlying104 Try.underlying105 Try.underlying106 Try.underlying107 Try.underlying108 Try.underlying109 Try.underlying110 Try.underlying111 Try.underlying112 Try.underlying113 Try.underlying114 Try.underlying115 Try.underlying116 Try.underlying117 Try.underlying118 Try.underlying119 Try.underlying120 Try.underlying121 Try.underlying122 Try.underlying123 Try.underlying124 Try.underlying125 Try.underlying126 Try.underlying127 Try.underlying128 Try.underlying129 Try.underlying130 Try.underlying131 Try.underlying132 Try.underlying133 Try.underlying134 Try.underlying135 Try.underlying136 Try.underlying137 Try.underlying138 Try.underlying139 Try.underlying140 Try.underlying141 Try.underlying142 Try.underlying143 Try.underlying144 Try.underlying145 Try.underlying146 Try.underlying147 Try.underlying148 Try.underlying149 Try.underlying150 Try.underlying151 Try.underlying152 Try.underlying153 Try.underlying154 Try.underlying155 Try.underlying156 Try.underlying157 Try.underlying158 Try.underlying159 Try.underlying160 Try.underlying161 Try.underlying162 Try.underlying163 Try.underlying164 Try.underlying165 Try.underlying166 Try.underlying167 Try.underlying168 Try.underlying169 Try.underlying170 Try.underlying171 Try.underlying172 Try.underlying173 Try.underlying174 Try.underlying175 Try.underlying176 Try.underlying177 Try.underlying178 Try.underlying179 Try.underlying180 Try.underlying181 Try.underlying182 Try.underlying183 Try.underlying184 Try.underlying185 Try.underlying186 Try.underlying187 Try.underlying188 Try.underlying189 Try.underlying190 Try.underlying191 Try.underlying192 Try.underlying193 Try.underlying194 Try.underlying195 Try.underlying196 Try.underlying197 Try.underlying198 Try.underlying199 Try.underlying200 Try.underlying201 Try.underlying202 Try.underlying203 Try.underlying204 Try.underlying205 Try.underlying206 Try.underlying207 Try.underlying208 Try.underlying209 Try.underlying210 Try.underlying211 Try.underlying212 Try.underlying213 Try.underlying214 Try.underlying215 Try.underlying216 Try.underlying217 Try.underlying218 Try.underlying219 Try.underlying220 Try.underlying221 Try.underlying222 Try.underlying223 Try.underlying224 Try.underlying225 Try.underlying226 Try.underlying227 Try.underlying228 Try.underlying229 Try.underlying230 Try.underlying231 Try.underlying232 Try.underlying233 Try.underlying234 Try.underlying235 Try.underlying236 Try.underlying237 Try.underlying238 Try.underlying239 Try.underlying240 Try.underlying241 Try.underlying242 Try.underlying243 Try.underlying244 Try.underlying245 Try.underlying246 Try.underlying247 Try.underlying248 Try.underlying249 Try.underlying250 Try.underlying251 Try.underlying252 Try.underlying253 Try.underlying254 Try.underlying255 Try.underlying256 Try.underlying257 Try.underlying258 Try.underlying259 Try.underlying260 Try.underlying261 Try.underlying262 Try.underlying263 Try.underlying264 Try.underlying265 Try.underlying266 Try.underlying267 Try.underlying268 Try.underlying269 Try.underlying270 Try.underlying271 Try.underlying272 Try.underlying273 Try.underlying274 Try.underlying275 Try.underlying276 Try.underlying277 Try.underlying278 Try.underlying279 Try.underlying280 Try.underlying281 Try.underlying282 Try.underlying283 Try.underlying284 Try.underlying285 Try.underlying286 Try.underlying287 Try.underlying288 Try.underlying289 Try.underlying290 Try.underlying291 Try.underlying292 Try.underlying293 Try.underlying294 Try.underlying295 Try.underlying296 Try.underlying297 Try.underlying298 Try.underlying299 Try.underlying300 Try.underlying301 Try.underlying302 Try.underlying303 Try.underlying304 Try.underlying305 Try.underlying306 Try.underlying307 Try.underlying308 Try.underlying309 Try.underlying310 Try.underlying311 Try.underlying312 Try.underlying313 Try.underlying314 Try.underlying315 Try.underlying316 Try.underlying317 Try.underlying318 Try.underlying319 Try.underlying320 Try.underlying321 Try.underlying322 Try.underlying323 Try.underlying324 Try.underlying325 Try.underlying326 Try.underlying327 Try.underlying328 Try.underlying329 Try.underlying330 Try.underlying331 Try.underlying332 Try.underlying333 Try.underlying334 Try.underlying335 Try.underlying336 Try.underlying337 Try.underlying338 Try.underlying339 Try.underlying340 Try.underlying341 Try.underlying342 Try.underlying343 Try.underlying344 Try.underlying345 Try.underlying346 Try.underlying347 Try.underlying348 Try.underlying349 Try.underlying350 Try.underlying351 Try.underlying352 Try.underlying353 Try.underlying354 Try.underlying355 Try.underlying356 Try.underlying357 Try.underlying358 Try.underlying359 Try.underlying360 Try.underlying361 Try.underlying362
@[simp] theorem s1 : tySize Try.prog 1 = some 1 := by kernel_rfl
@[simp] theorem b1 : tyBytes Try.prog 1 = some 8 := by kernel_rfl
@[simp] theorem a1 : tyAgg Try.prog 1 = false := by kernel_rfl
@[simp] theorem c1 : tyScalar Try.prog 1 = true := by kernel_rfl
@[simp] theorem z1 : tyZero Try.prog 1 = some (.nilFunc) := by kernel_rfl
@[simp] theorem s2 : tySize Try.prog 2 = some 1 := by kernel_rfl
@[simp] theorem b2 : tyBytes Try.prog 2 = some 8 := by kernel_rfl
@[simp] theorem a2 : tyAgg Try.prog 2 = false := by kernel_rfl
@[simp] theorem c2 : tyScalar Try.prog 2 = true := by kernel_rfl
@[simp] theorem z2 : tyZero Try.prog 2 = some (.int .i64 0) := by kernel_rfl
@[simp] theorem s3 : tySize Try.prog 3 = some 1 := by kernel_rfl
@[simp] theorem b3 : tyBytes Try.prog 3 = some 8 := by kernel_rfl
@[simp] theorem a3 : tyAgg Try.prog 3 = false := by kernel_rfl
@[simp] theorem c3 : tyScalar Try.prog 3 = true := by kernel_rfl
@[simp] theorem z3 : tyZero Try.prog 3 = some (.int .i64 0) := by kernel_rfl
@[simp] theorem s4 : tySize Try.prog 4 = some 1 := by kernel_rfl
@[simp] theorem b4 : tyBytes Try.prog 4 = some 1 := by kernel_rfl
@[simp] theorem a4 : tyAgg Try.prog 4 = false := by kernel_rfl
@[simp] theorem c4 : tyScalar Try.prog 4 = true := by kernel_rfl
@[simp] theorem z4 : tyZero Try.prog 4 = some (.bool false) := by kernel_rfl
@[simp] theorem s5 : tySize Try.prog 5 = some 1 := by kernel_rfl
@[simp] theorem b5 : tyBytes Try.prog 5 = some 1 := by kernel_rfl
@[simp] theorem a5 : tyAgg Try.prog 5 = false := by kernel_rfl
@[simp] theorem c5 : tyScalar Try.prog 5 = true := by kernel_rfl
@[simp] theorem z5 : tyZero Try.prog 5 = some (.int .u8 0) := by kernel_rfl
@[simp] theorem s6 : tySize Try.prog 6 = some 1 := by kernel_rfl
@[simp] theorem b6 : tyBytes Try.prog 6 = some 1 := by kernel_rfl
@[simp] theorem a6 : tyAgg Try.prog 6 = false := by kernel_rfl
@[simp] theorem c6 : tyScalar Try.prog 6 = true := by kernel_rfl
@[simp] theorem z6 : tyZero Try.prog 6 = some (.int .u8 0) := by kernel_rfl
@[simp] theorem s7 : tySize Try.prog 7 = some 4 := by kernel_rfl
@[simp] theorem b7 : tyBytes Try.prog 7 = some 24 := by kernel_rfl
@[simp] theorem a7 : tyAgg Try.prog 7 = true := by kernel_rfl
@[simp] theorem c7 : tyScalar Try.prog 7 = false := by kernel_rfl
@[simp] theorem z7 : tyZero Try.prog 7 = some (.agg [.int .i64 0, .int .i64 0, .bool false, .int .u8 0]) := by kernel_rfl
@[simp] theorem s8 : tySize Try.prog 8 = some 4 := by kernel_rfl
@[simp] theorem b8 : tyBytes Try.prog 8 = some 24 := by kernel_rfl
@[simp] theorem a8 : tyAgg Try.prog 8 = true := by kernel_rfl
@[simp] theorem c8 : tyScalar Try.prog 8 = false := by kernel_rfl
@[simp] theorem z8 : tyZero Try.prog 8 = some (.agg [.int .i64 0, .int .i64 0, .bool false, .int .u8 0]) := by kernel_rfl
@[simp] theorem s9 : tySize Try.prog 9 = some 1 := by kernel_rfl
@[simp] theorem b9 : tyBytes Try.prog 9 = some 16 := by kernel_rfl
@[simp] theorem a9 : tyAgg Try.prog 9 = false := by kernel_rfl
@[simp] theorem c9 : tyScalar Try.prog 9 = true := by kernel_rfl
@[simp] theorem z9 : tyZero Try.prog 9 = some (.str []) := by kernel_rfl
@[simp] theorem s10 : tySize Try.prog 10 = some 1 := by kernel_rfl
@[simp] theorem b10 : tyBytes Try.prog 10 = some 16 := by kernel_rfl
@[simp] theorem a10 : tyAgg Try.prog 10 = false := by kernel_rfl
@[simp] theorem c10 : tyScalar Try.prog 10 = true := by kernel_rfl
@[simp] theorem z10 : tyZero Try.prog 10 = some (.str []) := by kernel_rfl
@[simp] theorem s11 : tySize Try.prog 11 = some 1 := by kernel_rfl
@[simp] theorem b11 : tyBytes Try.prog 11 = some 16 := by kernel_rfl
@[simp] theorem a11 : tyAgg Try.prog 11 = false := by kernel_rfl
@[simp] theorem c11 : tyScalar Try.prog 11 = true := by kernel_rfl
@[simp] theorem z11 : tyZero Try.prog 11 = some (.str []) := by kernel_rfl
@[simp] theorem s12 : tySize Try.prog 12 = some 1 := by kernel_rfl
@[simp] theorem b12 : tyBytes Try.prog 12 = some 8 := by kernel_rfl
@[simp] theorem a12 : tyAgg Try.prog 12 = false := by kernel_rfl
@[simp] theorem c12 : tyScalar Try.prog 12 = true := by kernel_rfl
@[simp] theorem z12 : tyZero Try.prog 12 = some (.int .u64 0) := by kernel_rfl
@[simp] theorem s13 : tySize Try.prog 13 = some 2 := by kernel_rfl
@[simp] theorem b13 : tyBytes Try.prog 13 = some 24 := by kernel_rfl
@[simp] theorem a13 : tyAgg Try.prog 13 = true := by kernel_rfl
@[simp] theorem c13 : tyScalar Try.prog 13 = false := by kernel_rfl
@[simp] theorem z13 : tyZero Try.prog 13 = some (.agg [.str [], .int .u64 0]) := by kernel_rfl
@[simp] theorem s14 : tySize Try.prog 14 = some 2 := by kernel_rfl
@[simp] theorem b14 : tyBytes Try.prog 14 = some 24 := by kernel_rfl
@[simp] theorem a14 : tyAgg Try.prog 14 = true := by kernel_rfl
@[simp] theorem c14 : tyScalar Try.prog 14 = false := by kernel_rfl
@[simp] theorem z14 : tyZero Try.prog 14 = some (.agg [.str [], .int .u64 0]) := by kernel_rfl
@[simp] theorem s15 : tySize Try.prog 15 = some 1 := by kernel_rfl
@[simp] theorem b15 : tyBytes Try.prog 15 = some 8 := by kernel_rfl
@[simp] theorem a15 : tyAgg Try.prog 15 = false := by kernel_rfl
@[simp] theorem c15 : tyScalar Try.prog 15 = true := by kernel_rfl
@[simp] theorem z15 : tyZero Try.prog 15 = some (.nilp) := by kernel_rfl
@[simp] theorem s16 : tySize Try.prog 16 = some 1 := by kernel_rfl
@[simp] theorem b16 : tyBytes Try.prog 16 = some 8 := by kernel_rfl
@[simp] theorem a16 : tyAgg Try.prog 16 = false := by kernel_rfl
@[simp] theorem c16 : tyScalar Try.prog 16 = true := by kernel_rfl
@[simp] theorem z16 : tyZero Try.prog 16 = some (.nilp) := by kernel_rfl
@[simp] theorem s17 : tySize Try.prog 17 = some 1 := by kernel_rfl
@[simp] theorem b17 : tyBytes Try.prog 17 = some 8 := by kernel_rfl
@[simp] theorem a17 : tyAgg Try.prog 17 = false := by kernel_rfl
@[simp] theorem c17 : tyScalar Try.prog 17 = true := by kernel_rfl
@[simp] theorem z17 : tyZero Try.prog 17 = some (.nilp) := by kernel_rfl
@[simp] theorem s18 : tySize Try.prog 18 = some 1 := by kernel_rfl
@[simp] theorem b18 : tyBytes Try.prog 18 = some 8 := by kernel_rfl
@[simp] theorem a18 : tyAgg Try.prog 18 = true := by kernel_rfl
@[simp] theorem c18 : tyScalar Try.prog 18 = false := by kernel_rfl
@[simp] theorem z18 : tyZero Try.prog 18 = some (.agg [.nilp]) := by kernel_rfl
@[simp] theorem s19 : tySize Try.prog 19 = some 1 := by kernel_rfl
@[simp] theorem b19 : tyBytes Try.prog 19 = some 8 := by kernel_rfl
@[simp] theorem a19 : tyAgg Try.prog 19 = true := by kernel_rfl
@[simp] theorem c19 : tyScalar Try.prog 19 = false := by kernel_rfl
@[simp] theorem z19 : tyZero Try.prog 19 = some (.agg [.nilp]) := by kernel_rfl
@[simp] theorem s20 : tySize Try.prog 20 = some 1 := by kernel_rfl
@[simp] theorem b20 : tyBytes Try.prog 20 = some 16 := by kernel_rfl
@[simp] theorem a20 : tyAgg Try.prog 20 = false := by kernel_rfl
@[simp] theorem c20 : tyScalar Try.prog 20 = true := by kernel_rfl
@[simp] theorem z20 : tyZero Try.prog 20 = some (.nilIface) := by kernel_rfl
@[simp] theorem s21 : tySize Try.prog 21 = some 1 := by kernel_rfl
@[simp] theorem b21 : tyBytes Try.prog 21 = some 4 := by kernel_rfl
@[simp] theorem a21 : tyAgg Try.prog 21 = false := by kernel_rfl
@[simp] theorem c21 : tyScalar Try.prog 21 = true := by kernel_rfl
@[simp] theorem z21 : tyZero Try.prog 21 = some (.int .i32 0) := by kernel_rfl
@[simp] theorem s22 : tySize Try.prog 22 = some 1 := by kernel_rfl
@[simp] theorem b22 : tyBytes Try.prog 22 = some 8 := by kernel_rfl
@[simp] theorem a22 : tyAgg Try.prog 22 = false := by kernel_rfl
@[simp] theorem c22 : tyScalar Try.prog 22 = true := by kernel_rfl
@[simp] theorem z22 : tyZero Try.prog 22 = some (.nilFunc) := by kernel_rfl
@[simp] theorem s23 : tySize Try.prog 23 = some 1 := by kernel_rfl
@[simp] theorem b23 : tyBytes Try.prog 23 = some 24 := by kernel_rfl
@[simp] theorem a23 : tyAgg Try.prog 23 = false := by kernel_rfl
@[simp] theorem c23 : tyScalar Try.prog 23 = true := by kernel_rfl
@[simp] theorem z23 : tyZero Try.prog 23 = some (.nils) := by kernel_rfl
@[simp] theorem s24 : tySize Try.prog 24 = some 4 := by kernel_rfl
@[simp] theorem b24 : tyBytes Try.prog 24 = some 40 := by kernel_rfl
@[simp] theorem a24 : tyAgg Try.prog 24 = true := by kernel_rfl
@[simp] theorem c24 : tyScalar Try.prog 24 = false := by kernel_rfl
@[simp] theorem z24 : tyZero Try.prog 24 = some (.agg [.int .i64 0, .int .i64 0, .int .i64 0, .str []]) := by kernel_rfl
@[simp] theorem s25 : tySize Try.prog 25 = some 4 := by kernel_rfl
@[simp] theorem b25 : tyBytes Try.prog 25 = some 40 := by kernel_rfl
@[simp] theorem a25 : tyAgg Try.prog 25 = true := by kernel_rfl
@[simp] theorem c25 : tyScalar Try.prog 25 = false := by kernel_rfl
@[simp] theorem z25 : tyZero Try.prog 25 = some (.agg [.int .i64 0, .int .i64 0, .int .i64 0, .str []]) := by kernel_rfl
@[simp] theorem s26 : tySize Try.prog 26 = some 1 := by kernel_rfl
@[simp] theorem b26 : tyBytes Try.prog 26 = some 8 := by kernel_rfl
@[simp] theorem a26 : tyAgg Try.prog 26 = false := by kernel_rfl
@[simp] theorem c26 : tyScalar Try.prog 26 = true := by kernel_rfl
@[simp] theorem z26 : tyZero Try.prog 26 = some (.int .i64 0) := by kernel_rfl
@[simp] theorem s28 : tySize Try.prog 28 = some 1 := by kernel_rfl
@[simp] theorem b28 : tyBytes Try.prog 28 = some 8 := by kernel_rfl
@[simp] theorem a28 : tyAgg Try.prog 28 = false := by kernel_rfl
@[simp] theorem c28 : tyScalar Try.prog 28 = true := by kernel_rfl
@[simp] theorem z28 : tyZero Try.prog 28 = some (.nilFunc) := by kernel_rfl
@[simp] theorem s29 : tySize Try.prog 29 = some 1 := by kernel_rfl
@[simp] theorem b29 : tyBytes Try.prog 29 = some 8 := by kernel_rfl
@[simp] theorem a29 : tyAgg Try.prog 29 = false := by kernel_rfl
@[simp] theorem c29 : tyScalar Try.prog 29 = true := by kernel_rfl
@[simp] theorem z29 : tyZero Try.prog 29 = some (.nilFunc) := by kernel_rfl
@[simp] theorem s30 : tySize Try.prog 30 = some 1 := by kernel_rfl
@[simp] theorem b30 : tyBytes Try.prog 30 = some 8 := by kernel_rfl
@[simp] theorem a30 : tyAgg Try.prog 30 = false := by kernel_rfl
@[simp] theorem c30 : tyScalar Try.prog 30 = true := by kernel_rfl
@[simp] theorem z30 : tyZero Try.prog 30 = some (.nilFunc) := by kernel_rfl
@[simp] theorem s31 : tySize Try.prog 31 = some 4 := by kernel_rfl
@[simp] theorem b31 : tyBytes Try.prog 31 = some 64 := by kernel_rfl
@[simp] theorem a31 : tyAgg Try.prog 31 = true := by kernel_rfl
@[simp] theorem c31 : tyScalar Try.prog 31 = false := by kernel_rfl
@[simp] theorem z31 : tyZero Try.prog 31 = some (.agg [.int .i64 0, .nils, .nils, .bool false]) := by kernel_rfl
@[simp] theorem s32 : tySize Try.prog 32 = some 4 := by kernel_rfl
@[simp] theorem b32 : tyBytes Try.prog 32 = some 64 := by kernel_rfl
@[simp] theorem a32 : tyAgg Try.prog 32 = true := by kernel_rfl
@[simp] theorem c32 : tyScalar Try.prog 32 = false := by kernel_rfl
@[simp] theorem z32 : tyZero Try.prog 32 = some (.agg [.int .i64 0, .nils, .nils, .bool false]) := by kernel_rfl
@[simp] theorem s33 : tySize Try.prog 33 = some 1 := by kernel_rfl
@[simp] theorem b33 : tyBytes Try.prog 33 = some 24 := by kernel_rfl
@[simp] theorem a33 : tyAgg Try.prog 33 = false := by kernel_rfl
@[simp] theorem c33 : tyScalar Try.prog 33 = true := by kernel_rfl
@[simp] theorem z33 : tyZero Try.prog 33 = some (.nils) := by kernel_rfl
@[simp] theorem s35 : tySize Try.prog 35 = some 1 := by kernel_rfl
@[simp] theorem b35 : tyBytes Try.prog 35 = some 8 := by kernel_rfl
@[simp] theorem a35 : tyAgg Try.prog 35 = false := by kernel_rfl
@[simp] theorem c35 : tyScalar Try.prog 35 = true := by kernel_rfl
@[simp] theorem z35 : tyZero Try.prog 35 = some (.nilFunc) := by kernel_rfl
@[simp] theorem s36 : tySize Try.prog 36 = some 1 := by kernel_rfl
@[simp] theorem b36 : tyBytes Try.prog 36 = some 8 := by kernel_rfl
@[simp] theorem a36 : tyAgg Try.prog 36 = false := by kernel_rfl
@[simp] theorem c36 : tyScalar Try.prog 36 = true := by kernel_rfl
@[simp] theorem z36 : tyZero Try.prog 36 = some (.nilFunc) := by kernel_rfl
@[simp] theorem s37 : tySize Try.prog 37 = some 4 := by kernel_rfl
@[simp] theorem b37 : tyBytes Try.prog 37 = some 56 := by kernel_rfl
@[simp] theorem a37 : tyAgg Try.prog 37 = true := by kernel_rfl
@[simp] theorem c37 : tyScalar Try.prog 37 = false := by kernel_rfl
@[simp] theorem z37 : tyZero Try.prog 37 = some (.agg [.int .i64 0, .str [], .int .i64 0, .nils]) := by kernel_rfl
@[simp] theorem s38 : tySize Try.prog 38 = some 4 := by kernel_rfl
@[simp] theorem b38 : tyBytes Try.prog 38 = some 56 := by kernel_rfl
@[simp] theorem a38 : tyAgg Try.prog 38 = true := by kernel_rfl
@[simp] theorem c38 : tyScalar Try.prog 38 = false := by kernel_rfl
@[simp] theorem z38 : tyZero Try.prog 38 = some (.agg [.int .i64 0, .str [], .int .i64 0, .nils]) := by kernel_rfl
@[simp] theorem s39 : tySize Try.prog 39 = some 1 := by kernel_rfl
@[simp] theorem b39 : tyBytes Try.prog 39 = some 24 := by kernel_rfl
@[simp] theorem a39 : tyAgg Try.prog 39 = false := by kernel_rfl
@[simp] theorem c39 : tyScalar Try.prog 39 = true := by kernel_rfl
@[simp] theorem z39 : tyZero Try.prog 39 = some (.nils) := by kernel_rfl
@[simp] theorem s40 : tySize Try.prog 40 = some 1 := by kernel_rfl
@[simp] theorem b40 : tyBytes Try.prog 40 = some 8 := by kernel_rfl
@[simp] theorem a40 : tyAgg Try.prog 40 = false := by kernel_rfl
@[simp] theorem c40 : tyScalar Try.prog 40 = true := by kernel_rfl
@[simp] theorem z40 : tyZero Try.prog 40 = some (.nilFunc) := by kernel_rfl
@[simp] theorem s41 : tySize Try.prog 41 = some 1 := by kernel_rfl
@[simp] theorem b41 : tyBytes Try.prog 41 = some 8 := by kernel_rfl
@[simp] theorem a41 : tyAgg Try.prog 41 = false := by kernel_rfl
@[simp] theorem c41 : tyScalar Try.prog 41 = true := by kernel_rfl
@[simp] theorem z41 : tyZero Try.prog 41 = some (.nilFunc) := by kernel_rfl
@[simp] theorem s42 : tySize Try.prog 42 = some 1 := by kernel_rfl
@[simp] theorem b42 : tyBytes Try.prog 42 = some 8 := by kernel_rfl
@[simp] theorem a42 : tyAgg Try.prog 42 = false := by kernel_rfl
@[simp] theorem c42 : tyScalar Try.prog 42 = true := by kernel_rfl
@[simp] theorem z42 : tyZero Try.prog 42 = some (.nilFunc) := by kernel_rfl
@[simp] theorem s43 : tySize Try.prog 43 = some 1 := by kernel_rfl
@[simp] theorem b43 : tyBytes Try.prog 43 = some 8 := by kernel_rfl
@[simp] theorem a43 : tyAgg Try.prog 43 = false := by kernel_rfl
@[simp] theorem c43 : tyScalar Try.prog 43 = true := by kernel_rfl
@[simp] theorem z43 : tyZero Try.prog 43 = some (.nilFunc) := by kernel_rfl
@[simp] theorem s44 : tySize Try.prog 44 = some 1 := by kernel_rfl
@[simp] theorem b44 : tyBytes Try.prog 44 = some 24 := by kernel_rfl
@[simp] theorem a44 : tyAgg Try.prog 44 = false := by kernel_rfl
@[simp] theorem c44 : tyScalar Try.prog 44 = true := by kernel_rfl
@[simp] theorem z44 : tyZero Try.prog 44 = some (.nils) := by kernel_rfl
@[simp] theorem s45 : tySize Try.prog 45 = some 3 := by kernel_rfl
@[simp] theorem b45 : tyBytes Try.prog 45 = some 24 := by kernel_rfl
@[simp] theorem a45 : tyAgg Try.prog 45 = true := by kernel_rfl
@[simp] theorem c45 : tyScalar Try.prog 45 = false := by kernel_rfl
@[simp] theorem z45 : tyZero Try.prog 45 = some (.agg [.int .i64 0, .int .i64 0, .int .i64 0]) := by kernel_rfl
@[simp] theorem s47 : tySize Try.prog 47 = some 1 := by kernel_rfl
@[simp] theorem b47 : tyBytes Try.prog 47 = some 8 := by kernel_rfl
@[simp] theorem a47 : tyAgg Try.prog 47 = false := by kernel_rfl
@[simp] theorem c47 : tyScalar Try.prog 47 = true := by kernel_rfl
@[simp] theorem z47 : tyZero Try.prog 47 = some (.nilFunc) := by kernel_rfl
@[simp] theorem s48 : tySize Try.prog 48 = some 1 := by kernel_rfl
@[simp] theorem b48 : tyBytes Try.prog 48 = some 8 := by kernel_rfl
@[simp] theorem a48 : tyAgg Try.prog 48 = false := by kernel_rfl
@[simp] theorem c48 : tyScalar Try.prog 48 = true := by kernel_rfl
@[simp] theorem z48 : tyZero Try.prog 48 = some (.nilFunc) := by kernel_rfl
@[simp] theorem s49 : tySize Try.prog 49 = some 1 := by kernel_rfl
@[simp] theorem b49 : tyBytes Try.prog 49 = some 8 := by kernel_rfl
@[simp] theorem a49 : tyAgg Try.prog 49 = false := by kernel_rfl
@[simp] theorem c49 : tyScalar Try.prog 49 = true := by kernel_rfl
@[simp] theorem z49 : tyZero Try.prog 49 = some (.nilFunc) := by kernel_rfl
@[simp] theorem s50 : tySize Try.prog 50 = some 1 := by kernel_rfl
@[simp] theorem b50 : tyBytes Try.prog 50 = some 8 := by kernel_rfl
@[simp] theorem a50 : tyAgg Try.prog 50 = false := by kernel_rfl
@[simp] theorem c50 : tyScalar Try.prog 50 = true := by kernel_rfl
@[simp] theorem z50 : tyZero Try.prog 50 = some (.nilFunc) := by kernel_rfl
@[simp] theorem s51 : tySize Try.prog 51 = some 1 := by kernel_rfl
@[simp] theorem b51 : tyBytes Try.prog 51 = some 24 := by kernel_rfl
@[simp] theorem a51 : tyAgg Try.prog 51 = false := by kernel_rfl
@[simp] theorem c51 : tyScalar Try.prog 51 = true := by kernel_rfl
@[simp] theorem z51 : tyZero Try.prog 51 = some (.nils) := by kernel_rfl
@[simp] theorem s52 : tySize Try.prog 52 = some 1 := by kernel_rfl
@[simp] theorem b52 : tyBytes Try.prog 52 = some 8 := by kernel_rfl
@[simp] theorem a52 : tyAgg Try.prog 52 = false := by kernel_rfl
@[simp] theorem c52 : tyScalar Try.prog 52 = true := by kernel_rfl
@[simp] theorem z52 : tyZero Try.prog 52 = some (.nilp) := by kernel_rfl
@[simp] theorem s54 : tySize Try.prog 54 = some 1 := by kernel_rfl
@[simp] theorem b54 : tyBytes Try.prog 54 = some 8 := by kernel_rfl
@[simp] theorem a54 : tyAgg Try.prog 54 = false := by kernel_rfl
@[simp] theorem c54 : tyScalar Try.prog 54 = true := by kernel_rfl
@[simp] theorem z54 : tyZero Try.prog 54 = some (.nilFunc) := by kernel_rfl
@[simp] theorem s55 : tySize Try.prog 55 = some 1 := by kernel_rfl
@[simp] theorem b55 : tyBytes Try.prog 55 = some 8 := by kernel_rfl
@[simp] theorem a55 : tyAgg Try.prog 55 = false := by kernel_rfl
@[simp] theorem c55 : tyScalar Try.prog 55 = true := by kernel_rfl
@[simp] theorem z55 : tyZero Try.prog 55 = some (.nilp) := by kernel_rfl
@[simp] theorem s56 : tySize Try.prog 56 = some 1 := by kernel_rfl
@[simp] theorem b56 : tyBytes Try.prog 56 = some 8 := by kernel_rfl
@[simp] theorem a56 : tyAgg Try.prog 56 = false := by kernel_rfl
@[simp] theorem c56 : tyScalar Try.prog 56 = true := by kernel_rfl
@[simp] theorem z56 : tyZero Try.prog 56 = some (.nilFunc) := by kernel_rfl
@[simp] theorem s57 : tySize Try.prog 57 = some 1 := by kernel_rfl
@[simp] theorem b57 : tyBytes Try.prog 57 = some 8 := by kernel_rfl
@[simp] theorem a57 : tyAgg Try.prog 57 = false := by kernel_rfl
@[simp] theorem c57 : tyScalar Try.prog 57 = true := by kernel_rfl
@[simp] theorem z57 : tyZero Try.prog 57 = some (.nilp) := by kernel_rfl
@[simp] theorem s58 : tySize Try.prog 58 = some 1 := by kernel_rfl
@[simp] theorem b58 : tyBytes Try.prog 58 = some 24 := by kernel_rfl
@[simp] theorem a58 : tyAgg Try.prog 58 = false := by kernel_rfl
@[simp] theorem c58 : tyScalar Try.prog 58 = true := by kernel_rfl
@[simp] theorem z58 : tyZero Try.prog 58 = some (.nils) := by kernel_rfl
@[simp] theorem s59 : tySize Try.prog 59 = some 4 := by kernel_rfl
@[simp] theorem b59 : tyBytes Try.prog 59 = some 48 := by kernel_rfl
@[simp] theorem a59 : tyAgg Try.prog 59 = true := by kernel_rfl
@[simp] theorem c59 : tyScalar Try.prog 59 = false := by kernel_rfl
@[simp] theorem z59 : tyZero Try.prog 59 = some (.agg [.int .i64 0, .int .i64 0, .nils, .int .i64 0]) := by kernel_rfl
@[simp] theorem s60 : tySize Try.prog 60 = some 4 := by kernel_rfl
@[simp] theorem b60 : tyBytes Try.prog 60 = some 48 := by kernel_rfl
@[simp] theorem a60 : tyAgg Try.prog 60 = true := by kernel_rfl
@[simp] theorem c60 : tyScalar Try.prog 60 = false := by kernel_rfl
@[simp] theorem z60 : tyZero Try.prog 60 = some (.agg [.int .i64 0, .int .i64 0, .nils, .int .i64 0]) := by kernel_rfl
@[simp] theorem s61 : tySize Try.prog 61 = some 1 := by kernel_rfl
@[simp] theorem b61 : tyBytes Try.prog 61 = some 24 := by kernel_rfl
@[simp] theorem a61 : tyAgg Try.prog 61 = false := by kernel_rfl
@[simp] theorem c61 : tyScalar Try.prog 61 = true := by kernel_rfl
@[simp] theorem z61 : tyZero Try.prog 61 = some (.nils) := by kernel_rfl
@[simp] theorem s62 : tySize Try.prog 62 = some 1 := by kernel_rfl
@[simp] theorem b62 : tyBytes Try.prog 62 = some 8 := by kernel_rfl
@[simp] theorem a62 : tyAgg Try.prog 62 = false := by kernel_rfl
@[simp] theorem c62 : tyScalar Try.prog 62 = true := by kernel_rfl
@[simp] theorem z62 : tyZero Try.prog 62 = some (.nilp) := by kernel_rfl
@[simp] theorem s64 : tySize Try.prog 64 = some 1 := by kernel_rfl
@[simp] theorem b64 : tyBytes Try.prog 64 = some 8 := by kernel_rfl
@[simp] theorem a64 : tyAgg Try.prog 64 = false := by kernel_rfl
@[simp] theorem c64 : tyScalar Try.prog 64 = true := by kernel_rfl
@[simp] theorem z64 : tyZero Try.prog 64 = some (.nilFunc) := by kernel_rfl
@[simp] theorem s65 : tySize Try.prog 65 = some 1 := by kernel_rfl
@[simp] theorem b65 : tyBytes Try.prog 65 = some 8 := by kernel_rfl
@[simp] theorem a65 : tyAgg Try.prog 65 = false := by kernel_rfl
@[simp] theorem c65 : tyScalar Try.prog 65 = true := by kernel_rfl
@[simp] theorem z65 : tyZero Try.prog 65 = some (.nilFunc) := by kernel_rfl
@[simp] theorem s66 : tySize Try.prog 66 = some 1 := by kernel_rfl
@[simp] theorem b66 : tyBytes Try.prog 66 = some 24 := by kernel_rfl
@[simp] theorem a66 : tyAgg Try.prog 66 = false := by kernel_rfl
@[simp] theorem c66 : tyScalar Try.prog 66 = true := by kernel_rfl
@[simp] theorem z66 : tyZero Try.prog 66 = some (.nils) := by kernel_rfl
@[simp] theorem s67 : tySize Try.prog 67 = some 1 := by kernel_rfl
@[simp] theorem b67 : tyBytes Try.prog 67 = some 24 := by kernel_rfl
@[simp] theorem a67 : tyAgg Try.prog 67 = false := by kernel_rfl
@[simp] theorem c67 : tyScalar Try.prog 67 = true := by kernel_rfl
@[simp] theorem z67 : tyZero Try.prog 67 = some (.nils) := by kernel_rfl
@[simp] theorem s68 : tySize Try.prog 68 = some 5 := by kernel_rfl
@[simp] theorem b68 : tyBytes Try.prog 68 = some 96 := by kernel_rfl
@[simp] theorem a68 : tyAgg Try.prog 68 = true := by kernel_rfl
@[simp] theorem c68 : tyScalar Try.prog 68 = false := by kernel_rfl
@[simp] theorem z68 : tyZero Try.prog 68 = some (.agg [.int .i64 0, .str [], .nils, .nils, .nils]) := by kernel_rfl
@[simp] theorem s69 : tySize Try.prog 69 = some 5 := by kernel_rfl
@[simp] theorem b69 : tyBytes Try.prog 69 = some 96 := by kernel_rfl
@[simp] theorem a69 : tyAgg Try.prog 69 = true := by kernel_rfl
@[simp] theorem c69 : tyScalar Try.prog 69 = false := by kernel_rfl
@[simp] theorem z69 : tyZero Try.prog 69 = some (.agg [.int .i64 0, .str [], .nils, .nils, .nils]) := by kernel_rfl
@[simp] theorem s70 : tySize Try.prog 70 = some 1 := by kernel_rfl
@[simp] theorem b70 : tyBytes Try.prog 70 = some 8 := by kernel_rfl
@[simp] theorem a70 : tyAgg Try.prog 70 = false := by kernel_rfl
@[simp] theorem c70 : tyScalar Try.prog 70 = true := by kernel_rfl
@[simp] theorem z70 : tyZero Try.prog 70 = some (.nilFunc) := by kernel_rfl
@[simp] theorem s71 : tySize Try.prog 71 = some 6 := by kernel_rfl
@[simp] theorem b71 : tyBytes Try.prog 71 = some 6 := by kernel_rfl
@[simp] theorem a71 : tyAgg Try.prog 71 = true := by kernel_rfl
@[simp] theorem c71 : tyScalar Try.prog 71 = false := by kernel_rfl
@[simp] theorem z71 : tyZero Try.prog 71 = some (.agg [.bool false, .bool false, .bool false, .bool false, .bool false, .bool false]) := by kernel_rfl
@[simp] theorem s73 : tySize Try.prog 73 = some 1 := by kernel_rfl
@[simp] theorem b73 : tyBytes Try.prog 73 = some 8 := by kernel_rfl
@[simp] theorem a73 : tyAgg Try.prog 73 = false := by kernel_rfl
@[simp] theorem c73 : tyScalar Try.prog 73 = true := by kernel_rfl
@[simp] theorem z73 : tyZero Try.prog 73 = some (.nilFunc) := by kernel_rfl
@[simp] theorem s74 : tySize Try.prog 74 = some 1 := by kernel_rfl
@[simp] theorem b74 : tyBytes Try.prog 74 = some 8 := by kernel_rfl
@[simp] theorem a74 : tyAgg Try.prog 74 = false := by kernel_rfl
@[simp] theorem c74 : tyScalar Try.prog 74 = true := by kernel_rfl
@[simp] theorem z74 : tyZero Try.prog 74 = some (.nilFunc) := by kernel_rfl
@[simp] theorem s75 : tySize Try.prog 75 = some 1 := by kernel_rfl
@[simp] theorem b75 : tyBytes Try.prog 75 = some 16 := by kernel_rfl
@[simp] theorem a75 : tyAgg Try.prog 75 = false := by kernel_rfl
@[simp] theorem c75 : tyScalar Try.prog 75 = true := by kernel_rfl
@[simp] theorem z75 : tyZero Try.prog 75 = some (.nilIface) := by kernel_rfl
@[simp] theorem s76 : tySize Try.prog 76 = some 1 := by kernel_rfl
@[simp] theorem b76 : tyBytes Try.prog 76 = some 16 := by kernel_rfl
@[simp] theorem a76 : tyAgg Try.prog 76 = false := by kernel_rfl
@[simp] theorem c76 : tyScalar Try.prog 76 = true := by kernel_rfl
@[simp] theorem z76 : tyZero Try.prog 76 = some (.nilIface) := by kernel_rfl
@[simp] theorem s77 : tySize Try.prog 77 = some 4 := by kernel_rfl
@[simp] theorem b77 : tyBytes Try.prog 77 = some 56 := by kernel_rfl
@[simp] theorem a77 : tyAgg Try.prog 77 = true := by kernel_rfl
@[simp] theorem c77 : tyScalar Try.prog 77 = false := by kernel_rfl
@[simp] theorem z77 : tyZero Try.prog 77 = some (.agg [.nilp, .nilIface, .int .i64 0, .nils]) := by kernel_rfl
@[simp] theorem s78 : tySize Try.prog 78 = some 4 := by kernel_rfl
@[simp] theorem b78 : tyBytes Try.prog 78 = some 56 := by kernel_rfl
@[simp] theorem a78 : tyAgg Try.prog 78 = true := by kernel_rfl
@[simp] theorem c78 : tyScalar Try.prog 78 = false := by kernel_rfl
@[simp] theorem z78 : tyZero Try.prog 78 = some (.agg [.nilp, .nilIface, .int .i64 0, .nils]) := by kernel_rfl
@[simp] theorem s79 : tySize Try.prog 79 = some 1 := by kernel_rfl
@[simp] theorem b79 : tyBytes Try.prog 79 = some 8 := by kernel_rfl
@[simp] theorem a79 : tyAgg Try.prog 79 = false := by kernel_rfl
@[simp] theorem c79 : tyScalar Try.prog 79 = true := by kernel_rfl
@[simp] theorem z79 : tyZero Try.prog 79 = some (.nilFunc) := by kernel_rfl
@[simp] theorem s80 : tySize Try.prog 80 = some 1 := by kernel_rfl
@[simp] theorem b80 : tyBytes Try.prog 80 = some 24 := by kernel_rfl
@[simp] theorem a80 : tyAgg Try.prog 80 = false := by kernel_rfl
@[simp] theorem c80 : tyScalar Try.prog 80 = true := by kernel_rfl
@[simp] theorem z80 : tyZero Try.prog 80 = some (.nils) := by kernel_rfl
@[simp] theorem s81 : tySize Try.prog 81 = some 4 := by kernel_rfl
@[simp] theorem b81 : tyBytes Try.prog 81 = some 48 := by kernel_rfl
@[simp] theorem a81 : tyAgg Try.prog 81 = true := by kernel_rfl
@[simp] theorem c81 : tyScalar Try.prog 81 = false := by kernel_rfl
@[simp] theorem z81 : tyZero Try.prog 81 = some (.agg [.bool false, .str [], .str [], .bool false]) := by kernel_rfl
@[simp] theorem s82 : tySize Try.prog 82 = some 4 := by kernel_rfl
@[simp] theorem b82 : tyBytes Try.prog 82 = some 48 := by kernel_rfl
@[simp] theorem a82 : tyAgg Try.prog 82 = true := by kernel_rfl
@[simp] theorem c82 : tyScalar Try.prog 82 = false := by kernel_rfl
@[simp] theorem z82 : tyZero Try.prog 82 = some (.agg [.bool false, .str [], .str [], .bool false]) := by kernel_rfl
@[simp] theorem s83 : tySize Try.prog 83 = some 1 := by kernel_rfl
@[simp] theorem b83 : tyBytes Try.prog 83 = some 24 := by kernel_rfl
@[simp] theorem a83 : tyAgg Try.prog 83 = false := by kernel_rfl
@[simp] theorem c83 : tyScalar Try.prog 83 = true := by kernel_rfl
@[simp] theorem z83 : tyZero Try.prog 83 = some (.nils) := by kernel_rfl
@[simp] theorem s84 : tySize Try.prog 84 = some 4 := by kernel_rfl
@[simp] theorem b84 : tyBytes Try.prog 84 = some 48 := by kernel_rfl
@[simp] theorem a84 : tyAgg Try.prog 84 = true := by kernel_rfl
@[simp] theorem c84 : tyScalar Try.prog 84 = false := by kernel_rfl
@[simp] theorem z84 : tyZero Try.prog 84 = some (.agg [.int .i64 0, .int .i64 0, .int .i64 0, .nils]) := by kernel_rfl
@[simp] theorem s85 : tySize Try.prog 85 = some 4 := by kernel_rfl
@[simp] theorem b85 : tyBytes Try.prog 85 = some 48 := by kernel_rfl
@[simp] theorem a85 : tyAgg Try.prog 85 = true := by kernel_rfl
@[simp] theorem c85 : tyScalar Try.prog 85 = false := by kernel_rfl
@[simp] theorem z85 : tyZero Try.prog 85 = some (.agg [.int .i64 0, .int .i64 0, .int .i64 0, .nils]) := by kernel_rfl
@[simp] theorem s86 : tySize Try.prog 86 = some 1 := by kernel_rfl
@[simp] theorem b86 : tyBytes Try.prog 86 = some 8 := by kernel_rfl
@[simp] theorem a86 : tyAgg Try.prog 86 = false := by kernel_rfl
@[simp] theorem c86 : tyScalar Try.prog 86 = true := by kernel_rfl
@[simp] theorem z86 : tyZero Try.prog 86 = some (.nilFunc) := by kernel_rfl
@[simp] theorem s87 : tySize Try.prog 87 = some 1 := by kernel_rfl
@[simp] theorem b87 : tyBytes Try.prog 87 = some 8 := by kernel_rfl
@[simp] theorem a87 : tyAgg Try.prog 87 = false := by kernel_rfl
@[simp] theorem c87 : tyScalar Try.prog 87 = true := by kernel_rfl
@[simp] theorem z87 : tyZero Try.prog 87 = some (.nilFunc) := by kernel_rfl
@[simp] theorem s88 : tySize Try.prog 88 = some 2 := by kernel_rfl
@[simp] theorem b88 : tyBytes Try.prog 88 = some 32 := by kernel_rfl
@[simp] theorem a88 : tyAgg Try.prog 88 = true := by kernel_rfl
@[simp] theorem c88 : tyScalar Try.prog 88 = false := by kernel_rfl
@[simp] theorem z88 : tyZero Try.prog 88 = some (.agg [.str [], .str []]) := by kernel_rfl
@[simp] theorem s89 : tySize Try.prog 89 = some 2 := by kernel_rfl
@[simp] theorem b89 : tyBytes Try.prog 89 = some 32 := by kernel_rfl
@[simp] theorem a89 : tyAgg Try.prog 89 = true := by kernel_rfl
@[simp] theorem c89 : tyScalar Try.prog 89 = false := by kernel_rfl
@[simp] theorem z89 : tyZero Try.prog 89 = some (.agg [.str [], .str []]) := by kernel_rfl
@[simp] theorem s90 : tySize Try.prog 90 = some 1 := by kernel_rfl
@[simp] theorem b90 : tyBytes Try.prog 90 = some 8 := by kernel_rfl
@[simp] theorem a90 : tyAgg Try.prog 90 = false := by kernel_rfl
@[simp] theorem c90 : tyScalar Try.prog 90 = true := by kernel_rfl
@[simp] theorem z90 : tyZero Try.prog 90 = some (.nilFunc) := by kernel_rfl
@[simp] theorem s91 : tySize Try.prog 91 = some 1 := by kernel_rfl
@[simp] theorem b91 : tyBytes Try.prog 91 = some 8 := by kernel_rfl
@[simp] theorem a91 : tyAgg Try.prog 91 = false := by kernel_rfl
@[simp] theorem c91 : tyScalar Try.prog 91 = true := by kernel_rfl
@[simp] theorem z91 : tyZero Try.prog 91 = some (.nilp) := by kernel_rfl
@[simp] theorem s93 : tySize Try.prog 93 = some 1 := by kernel_rfl
@[simp] theorem b93 : tyBytes Try.prog 93 = some 8 := by kernel_rfl
@[simp] theorem a93 : tyAgg Try.prog 93 = false := by kernel_rfl
@[simp] theorem c93 : tyScalar Try.prog 93 = true := by kernel_rfl
@[simp] theorem z93 : tyZero Try.prog 93 = some (.nilFunc) := by kernel_rfl
@[simp] theorem s94 : tySize Try.prog 94 = some 8 := by kernel_rfl
@[simp] theorem b94 : tyBytes Try.prog 94 = some 120 := by kernel_rfl
@[simp] theorem a94 : tyAgg Try.prog 94 = true := by kernel_rfl
@[simp] theorem c94 : tyScalar Try.prog 94 = false := by kernel_rfl
@[simp] theorem z94 : tyZero Try.prog 94 = some (.agg [.int .i64 0, .bool false, .int .i64 0, .int .i64 0, .str [], .nils, .nils, .nils]) := by kernel_rfl
@[simp] theorem s95 : tySize Try.prog 95 = some 8 := by kernel_rfl
@[simp] theorem b95 : tyBytes Try.prog 95 = some 120 := by kernel_rfl
@[simp] theorem a95 : tyAgg Try.prog 95 = true := by kernel_rfl
@[simp] theorem c95 : tyScalar Try.prog 95 = false := by kernel_rfl
@[simp] theorem z95 : tyZero Try.prog 95 = some (.agg [.int .i64 0, .bool false, .int .i64 0, .int .i64 0, .str [], .nils, .nils, .nils]) := by kernel_rfl
@[simp] theorem s97 : tySize Try.prog 97 = some 1 := by kernel_rfl
@[simp] theorem b97 : tyBytes Try.prog 97 = some 8 := by kernel_rfl
@[simp] theorem a97 : tyAgg Try.prog 97 = false := by kernel_rfl
@[simp] theorem c97 : tyScalar Try.prog 97 = true := by kernel_rfl
@[simp] theorem z97 : tyZero Try.prog 97 = some (.nilFunc) := by kernel_rfl
@[simp] theorem s98 : tySize Try.prog 98 = some 1 := by kernel_rfl
@[simp] theorem b98 : tyBytes Try.prog 98 = some 8 := by kernel_rfl
@[simp] theorem a98 : tyAgg Try.prog 98 = false := by kernel_rfl
@[simp] theorem c98 : tyScalar Try.prog 98 = true := by kernel_rfl
@[simp] theorem z98 : tyZero Try.prog 98 = some (.nilFunc) := by kernel_rfl
@[simp] theorem s99 : tySize Try.prog 99 = some 4 := by kernel_rfl
@[simp] theorem b99 : tyBytes Try.prog 99 = some 40 := by kernel_rfl
@[simp] theorem a99 : tyAgg Try.prog 99 = true := by kernel_rfl
@[simp] theorem c99 : tyScalar Try.prog 99 = false := by kernel_rfl
@[simp] theorem z99 : tyZero Try.prog 99 = some (.agg [.str [], .str [], .bool false, .bool false]) := by kernel_rfl
@[simp] theorem s100 : tySize Try.prog 100 = some 4 := by kernel_rfl
@[simp] theorem b100 : tyBytes Try.prog 100 = some 40 := by kernel_rfl
@[simp] theorem a100 : tyAgg Try.prog 100 = true := by kernel_rfl
@[simp] theorem c100 : tyScalar Try.prog 100 = false := by kernel_rfl
@[simp] theorem z100 : tyZero Try.prog 100 = some (.agg [.str [], .str [], .bool false, .bool false]) := by kernel_rfl
@[simp] theorem s102 : tySize Try.prog 102 = some 1 := by kernel_rfl
@[simp] theorem b102 : tyBytes Try.prog 102 = some 8 := by kernel_rfl
@[simp] theorem a102 : tyAgg Try.prog 102 = false := by kernel_rfl
@[simp] theorem c102 : tyScalar Try.prog 102 = true := by kernel_rfl
@[simp] theorem z102 : tyZero Try.prog 102 = some (.nilFunc) := by kernel_rfl
@[simp] theorem s103 : tySize Try.prog 103 = some 1 := by kernel_rfl
@[simp] theorem b103 : tyBytes Try.prog 103 = some 24 := by kernel_rfl
@[simp] theorem a103 : tyAgg Try.prog 103 = false := by kernel_rfl
@[simp] theorem c103 : tyScalar Try.prog 103 = true := by kernel_rfl
@[simp] theorem z103 : tyZero Try.prog 103 = some (.nils) := by kernel_rfl
@[simp] theorem s105 : tySize Try.prog 105 = some 1 := by kernel_rfl
@[simp] theorem b105 : tyBytes Try.prog 105 = some 8 := by kernel_rfl
@[simp] theorem a105 : tyAgg Try.prog 105 = false := by kernel_rfl
@[simp] theorem c105 : tyScalar Try.prog 105 = true := by kernel_rfl
@[simp] theorem z105 : tyZero Try.prog 105 = some (.nilFunc) := by kernel_rfl
@[simp] theorem s106 : tySize Try.prog 106 = some 6 := by kernel_rfl
@[simp] theorem b106 : tyBytes Try.prog 106 = some 88 := by kernel_rfl
@[simp] theorem a106 : tyAgg Try.prog 106 = true := by kernel_rfl
@[simp] theorem c106 : tyScalar Try.prog 106 = false := by kernel_rfl
@[simp] theorem z106 : tyZero Try.prog 106 = some (.agg [.nils, .int .i64 0, .str [], .int .i64 0, .nils, .bool false]) := by kernel_rfl
@[simp] theorem s107 : tySize Try.prog 107 = some 6 := by kernel_rfl
@[simp] theorem b107 : tyBytes Try.prog 107 = some 88 := by kernel_rfl
@[simp] theorem a107 : tyAgg Try.prog 107 = true := by kernel_rfl
@[simp] theorem c107 : tyScalar Try.prog 107 = false := by kernel_rfl
@[simp] theorem z107 : tyZero Try.prog 107 = some (.agg [.nils, .int .i64 0, .str [], .int .i64 0, .nils, .bool false]) := by kernel_rfl
@[simp] theorem s109 : tySize Try.prog 109 = some 1 := by kernel_rfl
@[simp] theorem b109 : tyBytes Try.prog 109 = some 8 := by kernel_rfl
@[simp] theorem a109 : tyAgg Try.prog 109 = false := by kernel_rfl
@[simp] theorem c109 : tyScalar Try.prog 109 = true := by kernel_rfl
@[simp] theorem z109 : tyZero Try.prog 109 = some (.nilFunc) := by kernel_rfl
@[simp] theorem s111 : tySize Try.prog 111 = some 1 := by kernel_rfl
@[simp] theorem b111 : tyBytes Try.prog 111 = some 8 := by kernel_rfl
@[simp] theorem a111 : tyAgg Try.prog 111 = false := by kernel_rfl
@[simp] theorem c111 : tyScalar Try.prog 111 = true := by kernel_rfl
@[simp] theorem z111 : tyZero Try.prog 111 = some (.nilFunc) := by kernel_rfl
@[simp] theorem s112 : tySize Try.prog 112 = some 1 := by kernel_rfl
@[simp] theorem b112 : tyBytes Try.prog 112 = some 24 := by kernel_rfl
@[simp] theorem a112 : tyAgg Try.prog 112 = false := by kernel_rfl
@[simp] theorem c112 : tyScalar Try.prog 112 = true := by kernel_rfl
@[simp] theorem z112 : tyZero Try.prog 112 = some (.nils) := by kernel_rfl
@[simp] theorem s114 : tySize Try.prog 114 = some 1 := by kernel_rfl
@[simp] theorem b114 : tyBytes Try.prog 114 = some 8 := by kernel_rfl
@[simp] theorem a114 : tyAgg Try.prog 114 = false := by kernel_rfl
@[simp] theorem c114 : tyScalar Try.prog 114 = true := by kernel_rfl
@[simp] theorem z114 : tyZero Try.prog 114 = some (.nilp) := by kernel_rfl
@[simp] theorem s115 : tySize Try.prog 115 = some 1 := by kernel_rfl
@[simp] theorem b115 : tyBytes Try.prog 115 = some 8 := by kernel_rfl
@[simp] theorem a115 : tyAgg Try.prog 115 = false := by kernel_rfl
@[simp] theorem c115 : tyScalar Try.prog 115 = true := by kernel_rfl
@[simp] theorem z115 : tyZero Try.prog 115 = some (.nilFunc) := by kernel_rfl
@[simp] theorem s116 : tySize Try.prog 116 = some 1 := by kernel_rfl
@[simp] theorem b116 : tyBytes Try.prog 116 = some 8 := by kernel_rfl
@[simp] theorem a116 : tyAgg Try.prog 116 = false := by kernel_rfl
@[simp] theorem c116 : tyScalar Try.prog 116 = true := by kernel_rfl
@[simp] theorem z116 : tyZero Try.prog 116 = some (.nilFunc) := by kernel_rfl
@[simp] theorem s117 : tySize Try.prog 117 = some 1 := by kernel_rfl
@[simp] theorem b117 : tyBytes Try.prog 117 = some 8 := by kernel_rfl
@[simp] theorem a117 : tyAgg Try.prog 117 = false := by kernel_rfl
@[simp] theorem c117 : tyScalar Try.prog 117 = true := by kernel_rfl
@[simp] theorem z117 : tyZero Try.prog 117 = some (.nilFunc) := by kernel_rfl
@[simp] theorem s119 : tySize Try.prog 119 = some 1 := by kernel_rfl
@[simp] theorem b119 : tyBytes Try.prog 119 = some 8 := by kernel_rfl
@[simp] theorem a119 : tyAgg Try.prog 119 = false := by kernel_rfl
@[simp] theorem c119 : tyScalar Try.prog 119 = true := by kernel_rfl
@[simp] theorem z119 : tyZero Try.prog 119 = some (.nilFunc) := by kernel_rfl
@[simp] theorem s121 : tySize Try.prog 121 = some 1 := by kernel_rfl
@[simp] theorem b121 : tyBytes Try.prog 121 = some 8 := by kernel_rfl
@[simp] theorem a121 : tyAgg Try.prog 121 = false := by kernel_rfl
@[simp] theorem c121 : tyScalar Try.prog 121 = true := by kernel_rfl
@[simp] theorem z121 : tyZero Try.prog 121 = some (.nilFunc) := by kernel_rfl
@[simp] theorem s122 : tySize Try.prog 122 = some 1 := by kernel_rfl
@[simp] theorem b122 : tyBytes Try.prog 122 = some 8 := by kernel_rfl
@[simp] theorem a122 : tyAgg Try.prog 122 = false := by kernel_rfl
@[simp] theorem c122 : tyScalar Try.prog 122 = true := by kernel_rfl
@[simp] theorem z122 : tyZero Try.prog 122 = some (.nilFunc) := by kernel_rfl
@[simp] theorem s124 : tySize Try.prog 124 = some 1 := by kernel_rfl
@[simp] theorem b124 : tyBytes Try.prog 124 = some 8 := by kernel_rfl
@[simp] theorem a124 : tyAgg Try.prog 124 = false := by kernel_rfl
@[simp] theorem c124 : tyScalar Try.prog 124 = true := by kernel_rfl
@[simp] theorem z124 : tyZero Try.prog 124 = some (.nilFunc) := by kernel_rfl
@[simp] theorem s125 : tySize Try.prog 125 = some 1 := by kernel_rfl
@[simp] theorem b125 : tyBytes Try.prog 125 = some 8 := by kernel_rfl
@[simp] theorem a125 : tyAgg Try.prog 125 = false := by kernel_rfl
@[simp] theorem c125 : tyScalar Try.prog 125 = true := by kernel_rfl
@[simp] theorem z125 : tyZero Try.prog 125 = some (.nilFunc) := by kernel_rfl
@[simp] theorem s126 : tySize Try.prog 126 = some 1 := by kernel_rfl
@[simp] theorem b126 : tyBytes Try.prog 126 = some 8 := by kernel_rfl
@[simp] theorem a126 : tyAgg Try.prog 126 = false := by kernel_rfl
@[simp] theorem c126 : tyScalar Try.prog 126 = true := by kernel_rfl
@[simp] theorem z126 : tyZero Try.prog 126 = some (.nilFunc) := by kernel_rfl
@[simp] theorem s127 : tySize Try.prog 127 = some 1 := by kernel_rfl
@[simp] theorem b127 : tyBytes Try.prog 127 = some 8 := by kernel_rfl
@[simp] theorem a127 : tyAgg Try.prog 127 = false := by kernel_rfl
@[simp] theorem c127 : tyScalar Try.prog 127 = true := by kernel_rfl
@[simp] theorem z127 : tyZero Try.prog 127 = some (.nilFunc) := by kernel_rfl
@[simp] theorem s128 : tySize Try.prog 128 = some 1 := by kernel_rfl
@[simp] theorem b128 : tyBytes Try.prog 128 = some 8 := by kernel_rfl
@[simp] theorem a128 : tyAgg Try.prog 128 = false := by kernel_rfl
@[simp] theorem c128 : tyScalar Try.prog 128 = true := by kernel_rfl
@[simp] theorem z128 : tyZero Try.prog 128 = some (.nilFunc) := by kernel_rfl
@[simp] theorem s129 : tySize Try.prog 129 = some 1 := by kernel_rfl
@[simp] theorem b129 : tyBytes Try.prog 129 = some 8 := by kernel_rfl
@[simp] theorem a129 : tyAgg Try.prog 129 = false := by kernel_rfl
@[simp] theorem c129 : tyScalar Try.prog 129 = true := by kernel_rfl
@[simp] theorem z129 : tyZero Try.prog 129 = some (.nilFunc) := by kernel_rfl
@[simp] theorem s131 : tySize Try.prog 131 = some 1 := by kernel_rfl
@[simp] theorem b131 : tyBytes Try.prog 131 = some 8 := by kernel_rfl
@[simp] theorem a131 : tyAgg Try.prog 131 = false := by kernel_rfl
@[simp] theorem c131 : tyScalar Try.prog 131 = true := by kernel_rfl
@[simp] theorem z131 : tyZero Try.prog 131 = some (.nilFunc) := by kernel_rfl
@[simp] theorem s132 : tySize Try.prog 132 = some 1 := by kernel_rfl
@[simp] theorem b132 : tyBytes Try.prog 132 = some 8 := by kernel_rfl
@[simp] theorem a132 : tyAgg Try.prog 132 = false := by kernel_rfl
@[simp] theorem c132 : tyScalar Try.prog 132 = true := by kernel_rfl
@[simp] theorem z132 : tyZero Try.prog 132 = some (.nilp) := by kernel_rfl
@[simp] theorem s133 : tySize Try.prog 133 = some 1 := by kernel_rfl
@[simp] theorem b133 : tyBytes Try.prog 133 = some 8 := by kernel_rfl
@[simp] theorem a133 : tyAgg Try.prog 133 = false := by kernel_rfl
@[simp] theorem c133 : tyScalar Try.prog 133 = true := by kernel_rfl
@[simp] theorem z133 : tyZero Try.prog 133 = some (.nilFunc) := by kernel_rfl
@[simp] theorem s134 : tySize Try.prog 134 = some 3 := by kernel_rfl
@[simp] theorem b134 : tyBytes Try.prog 134 = some 24 := by kernel_rfl
@[simp] theorem a134 : tyAgg Try.prog 134 = true := by kernel_rfl
@[simp] theorem c134 : tyScalar Try.prog 134 = false := by kernel_rfl
@[simp] theorem z134 : tyZero Try.prog 134 = some (.agg [.nilp, .int .i64 0, .int .i64 0]) := by kernel_rfl
@[simp] theorem s135 : tySize Try.prog 135 = some 3 := by kernel_rfl
@[simp] theorem b135 : tyBytes Try.prog 135 = some 24 := by kernel_rfl
@[simp] theorem a135 : tyAgg Try.prog 135 = true := by kernel_rfl
@[simp] theorem c135 : tyScalar Try.prog 135 = false := by kernel_rfl
@[simp] theorem z135 : tyZero Try.prog 135 = some (.agg [.nilp, .int .i64 0, .int .i64 0]) := by kernel_rfl
@[simp] theorem s136 : tySize Try.prog 136 = some 1 := by kernel_rfl
@[simp] theorem b136 : tyBytes Try.prog 136 = some 8 := by kernel_rfl
@[simp] theorem a136 : tyAgg Try.prog 136 = false := by kernel_rfl
@[simp] theorem c136 : tyScalar Try.prog 136 = true := by kernel_rfl
@[simp] theorem z136 : tyZero Try.prog 136 = some (.nilFunc) := by kernel_rfl
@[simp] theorem s137 : tySize Try.prog 137 = some 1 := by kernel_rfl
@[simp] theorem b137 : tyBytes Try.prog 137 = some 8 := by kernel_rfl
@[simp] theorem a137 : tyAgg Try.prog 137 = false := by kernel_rfl
@[simp] theorem c137 : tyScalar Try.prog 137 = true := by kernel_rfl
@[simp] theorem z137 : tyZero Try.prog 137 = some (.nilFunc) := by kernel_rfl
@[simp] theorem s138 : tySize Try.prog 138 = some 1 := by kernel_rfl
@[simp] theorem b138 : tyBytes Try.prog 138 = some 8 := by kernel_rfl
@[simp] theorem a138 : tyAgg Try.prog 138 = false := by kernel_rfl
@[simp] theorem c138 : tyScalar Try.prog 138 = true := by kernel_rfl
@[simp] theorem z138 : tyZero Try.prog 138 = some (.nilFunc) := by kernel_rfl
@[simp] theorem s139 : tySize Try.prog 139 = some 1 := by kernel_rfl
@[simp] theorem b139 : tyBytes Try.prog 139 = some 8 := by kernel_rfl
@[simp] theorem a139 : tyAgg Try.prog 139 = false := by kernel_rfl
@[simp] theorem c139 : tyScalar Try.prog 139 = true := by kernel_rfl
@[simp] theorem z139 : tyZero Try.prog 139 = some (.nilFunc) := by kernel_rfl
@[simp] theorem s140 : tySize Try.prog 140 = some 1 := by kernel_rfl
@[simp] theorem b140 : tyBytes Try.prog 140 = some 8 := by kernel_rfl
@[simp] theorem a140 : tyAgg Try.prog 140 = false := by kernel_rfl
@[simp] theorem c140 : tyScalar Try.prog 140 = true := by kernel_rfl
@[simp] theorem z140 : tyZero Try.prog 140 = some (.nilFunc) := by kernel_rfl
@[simp] theorem s141 : tySize Try.prog 141 = some 9 := by kernel_rfl
@[simp] theorem b141 : tyBytes Try.prog 141 = some 136 := by kernel_rfl
@[simp] theorem a141 : tyAgg Try.prog 141 = true := by kernel_rfl
@[simp] theorem c141 : tyScalar Try.prog 141 = false := by kernel_rfl
@[simp] theorem z141 : tyZero Try.prog 141 = some (.agg [.str [], .int .i64 0, .bool false, .int .i64 0, .int .i64 0, .str [], .nils, .nils, .nils]) := by kernel_rfl
@[simp] theorem s142 : tySize Try.prog 142 = some 9 := by kernel_rfl
@[simp] theorem b142 : tyBytes Try.prog 142 = some 136 := by kernel_rfl
@[simp] theorem a142 : tyAgg Try.prog 142 = true := by kernel_rfl
@[simp] theorem c142 : tyScalar Try.prog 142 = false := by kernel_rfl
@[simp] theorem z142 : tyZero Try.prog 142 = some (.agg [.str [], .int .i64 0, .bool false, .int .i64 0, .int .i64 0, .str [], .nils, .nils, .nils]) := by kernel_rfl
@[simp] theorem s143 : tySize Try.prog 143 = some 1 := by kernel_rfl
@[simp] theorem b143 : tyBytes Try.prog 143 = some 8 := by kernel_rfl
@[simp] theorem a143 : tyAgg Try.prog 143 = false := by kernel_rfl
@[simp] theorem c143 : tyScalar Try.prog 143 = true := by kernel_rfl
@[simp] theorem z143 : tyZero Try.prog 143 = some (.nilFunc) := by kernel_rfl
@[simp] theorem s144 : tySize Try.prog 144 = some 6 := by kernel_rfl
@[simp] theorem b144 : tyBytes Try.prog 144 = some 56 := by kernel_rfl
@[simp] theorem a144 : tyAgg Try.prog 144 = true := by kernel_rfl
@[simp] theorem c144 : tyScalar Try.prog 144 = false := by kernel_rfl
@[simp] theorem z144 : tyZero Try.prog 144 = some (.agg [.nilp, .int .i64 0, .int .i64 0, .bool false, .bool false, .nils]) := by kernel_rfl
@[simp] theorem s145 : tySize Try.prog 145 = some 6 := by kernel_rfl
@[simp] theorem b145 : tyBytes Try.prog 145 = some 56 := by kernel_rfl
@[simp] theorem a145 : tyAgg Try.prog 145 = true := by kernel_rfl
@[simp] theorem c145 : tyScalar Try.prog 145 = false := by kernel_rfl
@[simp] theorem z145 : tyZero Try.prog 145 = some (.agg [.nilp, .int .i64 0, .int .i64 0, .bool false, .bool false, .nils]) := by kernel_rfl
@[simp] theorem s146 : tySize Try.prog 146 = some 1 := by kernel_rfl
@[simp] theorem b146 : tyBytes Try.prog 146 = some 8 := by kernel_rfl
@[simp] theorem a146 : tyAgg Try.prog 146 = false := by kernel_rfl
@[simp] theorem c146 : tyScalar Try.prog 146 = true := by kernel_rfl
@[simp] theorem z146 : tyZero Try.prog 146 = some (.nilFunc) := by kernel_rfl
@[simp] theorem s147 : tySize Try.prog 147 = some 1 := by kernel_rfl
@[simp] theorem b147 : tyBytes Try.prog 147 = some 8 := by kernel_rfl
@[simp] theorem a147 : tyAgg Try.prog 147 = false := by kernel_rfl
@[simp] theorem c147 : tyScalar Try.prog 147 = true := by kernel_rfl
@[simp] theorem z147 : tyZero Try.prog 147 = some (.nilFunc) := by kernel_rfl
@[simp] theorem s148 : tySize Try.prog 148 = some 1 := by kernel_rfl
@[simp] theorem b148 : tyBytes Try.prog 148 = some 8 := by kernel_rfl
@[simp] theorem a148 : tyAgg Try.prog 148 = false := by kernel_rfl
@[simp] theorem c148 : tyScalar Try.prog 148 = true := by kernel_rfl
@[simp] theorem z148 : tyZero Try.prog 148 = some (.nilFunc) := by kernel_rfl
@[simp] theorem s149 : tySize Try.prog 149 = some 1 := by kernel_rfl
@[simp] theorem b149 : tyBytes Try.prog 149 = some 8 := by kernel_rfl
@[simp] theorem a149 : tyAgg Try.prog 149 = false := by kernel_rfl
@[simp] theorem c149 : tyScalar Try.prog 149 = true := by kernel_rfl
@[simp] theorem z149 : tyZero Try.prog 149 = some (.nilFunc) := by kernel_rfl
@[simp] theorem s150 : tySize Try.prog 150 = some 1 := by kernel_rfl
@[simp] theorem b150 : tyBytes Try.prog 150 = some 8 := by kernel_rfl
@[simp] theorem a150 : tyAgg Try.prog 150 = false := by kernel_rfl
@[simp] theorem c150 : tyScalar Try.prog 150 = true := by kernel_rfl
@[simp] theorem z150 : tyZero Try.prog 150 = some (.nilFunc) := by kernel_rfl
@[simp] theorem s151 : tySize Try.prog 151 = some 1 := by kernel_rfl
@[simp] theorem b151 : tyBytes Try.prog 151 = some 8 := by kernel_rfl
@[simp] theorem a151 : tyAgg Try.prog 151 = false := by kernel_rfl
@[simp] theorem c151 : tyScalar Try.prog 151 = true := by kernel_rfl
@[simp] theorem z151 : tyZero Try.prog 151 = some (.nilFunc) := by kernel_rfl
@[simp] theorem s152 : tySize Try.prog 152 = some 1 := by kernel_rfl
@[simp] theorem b152 : tyBytes Try.prog 152 = some 8 := by kernel_rfl
@[simp] theorem a152 : tyAgg Try.prog 152 = false := by kernel_rfl
@[simp] theorem c152 : tyScalar Try.prog 152 = true := by kernel_rfl
@[simp] theorem z152 : tyZero Try.prog 152 = some (.nilFunc) := by kernel_rfl
@[simp] theorem s153 : tySize Try.prog 153 = some 1 := by kernel_rfl
@[simp] theorem b153 : tyBytes Try.prog 153 = some 8 := by kernel_rfl
@[simp] theorem a153 : tyAgg Try.prog 153 = false := by kernel_rfl
@[simp] theorem c153 : tyScalar Try.prog 153 = true := by kernel_rfl
@[simp] theorem z153 : tyZero Try.prog 153 = some (.nilp) := by kernel_rfl
@[simp] theorem s154 : tySize Try.prog 154 = some 1 := by kernel_rfl
@[simp] theorem b154 : tyBytes Try.prog 154 = some 8 := by kernel_rfl
@[simp] theorem a154 : tyAgg Try.prog 154 = false := by kernel_rfl
@[simp] theorem c154 : tyScalar Try.prog 154 = true := by kernel_rfl
@[simp] theorem z154 : tyZero Try.prog 154 = some (.nilFunc) := by kernel_rfl
@[simp] theorem s155 : tySize Try.prog 155 = some 1 := by kernel_rfl
@[simp] theorem b155 : tyBytes Try.prog 155 = some 8 := by kernel_rfl
@[simp] theorem a155 : tyAgg Try.prog 155 = false := by kernel_rfl
@[simp] theorem c155 : tyScalar Try.prog 155 = true := by kernel_rfl
@[simp] theorem z155 : tyZero Try.prog 155 = some (.nilFunc) := by kernel_rfl
@[simp] theorem s156 : tySize Try.prog 156 = some 1 := by kernel_rfl
@[simp] theorem b156 : tyBytes Try.prog 156 = some 8 := by kernel_rfl
@[simp] theorem a156 : tyAgg Try.prog 156 = false := by kernel_rfl
@[simp] theorem c156 : tyScalar Try.prog 156 = true := by kernel_rfl
@[simp] theorem z156 : tyZero Try.prog 156 = some (.nilFunc) := by kernel_rfl
@[simp] theorem s157 : tySize Try.prog 157 = some 2 := by kernel_rfl
@[simp] theorem b157 : tyBytes Try.prog 157 = some 48 := by kernel_rfl
@[simp] theorem a157 : tyAgg Try.prog 157 = true := by kernel_rfl
@[simp] theorem c157 : tyScalar Try.prog 157 = false := by kernel_rfl
@[simp] theorem z157 : tyZero Try.prog 157 = some (.agg [.nils, .nils]) := by kernel_rfl
@[simp] theorem s158 : tySize Try.prog 158 = some 2 := by kernel_rfl
@[simp] theorem b158 : tyBytes Try.prog 158 = some 48 := by kernel_rfl
@[simp] theorem a158 : tyAgg Try.prog 158 = true := by kernel_rfl
@[simp] theorem c158 : tyScalar Try.prog 158 = false := by kernel_rfl
@[simp] theorem z158 : tyZero Try.prog 158 = some (.agg [.nils, .nils]) := by kernel_rfl
@[simp] theorem s159 : tySize Try.prog 159 = some 1 := by kernel_rfl
@[simp] theorem b159 : tyBytes Try.prog 159 = some 8 := by kernel_rfl
@[simp] theorem a159 : tyAgg Try.prog 159 = false := by kernel_rfl
@[simp] theorem c159 : tyScalar Try.prog 159 = true := by kernel_rfl
@[simp] theorem z159 : tyZero Try.prog 159 = some (.nilp) := by kernel_rfl
@[simp] theorem s160 : tySize Try.prog 160 = some 1 := by kernel_rfl
@[simp] theorem b160 : tyBytes Try.prog 160 = some 8 := by kernel_rfl
@[simp] theorem a160 : tyAgg Try.prog 160 = false := by kernel_rfl
@[simp] theorem c160 : tyScalar Try.prog 160 = true := by kernel_rfl
@[simp] theorem z160 : tyZero Try.prog 160 = some (.nilFunc) := by kernel_rfl
@[simp] theorem s161 : tySize Try.prog 161 = some 0 := by kernel_rfl
@[simp] theorem b161 : tyBytes Try.prog 161 = some 0 := by kernel_rfl
@[simp] theorem a161 : tyAgg Try.prog 161 = true := by kernel_rfl
@[simp] theorem c161 : tyScalar Try.prog 161 = false := by kernel_rfl
@[simp] theorem z161 : tyZero Try.prog 161 = some (.agg []) := by kernel_rfl
@[simp] theorem s162 : tySize Try.prog 162 = some 0 := by kernel_rfl
@[simp] theorem b162 : tyBytes Try.prog 162 = some 0 := by kernel_rfl
@[simp] theorem a162 : tyAgg Try.prog 162 = true := by kernel_rfl
@[simp] theorem c162 : tyScalar Try.prog 162 = false := by kernel_rfl
@[simp] theorem z162 : tyZero Try.prog 162 = some (.agg []) := by kernel_rfl
@[simp] theorem s163 : tySize Try.prog 163 = some 1 := by kernel_rfl
@[simp] theorem b163 : tyBytes Try.prog 163 = some 8 := by kernel_rfl
@[simp] theorem a163 : tyAgg Try.prog 163 = false := by kernel_rfl
@[simp] theorem c163 : tyScalar Try.prog 163 = true := by kernel_rfl
@[simp] theorem z163 : tyZero Try.prog 163 = some (.nilFunc) := by kernel_rfl
@[simp] theorem s165 : tySize Try.prog 165 = some 1 := by kernel_rfl
@[simp] theorem b165 : tyBytes Try.prog 165 = some 8 := by kernel_rfl
@[simp] theorem a165 : tyAgg Try.prog 165 = false := by kernel_rfl
@[simp] theorem c165 : tyScalar Try.prog 165 = true := by kernel_rfl
@[simp] theorem z165 : tyZero Try.prog 165 = some (.nilFunc) := by kernel_rfl
@[simp] theorem s166 : tySize Try.prog 166 = some 1 := by kernel_rfl
@[simp] theorem b166 : tyBytes Try.prog 166 = some 8 := by kernel_rfl
@[simp] theorem a166 : tyAgg Try.prog 166 = false := by kernel_rfl
@[simp] theorem c166 : tyScalar Try.prog 166 = true := by kernel_rfl
@[simp] theorem z166 : tyZero Try.prog 166 = some (.nilFunc) := by kernel_rfl
@[simp] theorem s167 : tySize Try.prog 167 = some 1 := by kernel_rfl
@[simp] theorem b167 : tyBytes Try.prog 167 = some 8 := by kernel_rfl
@[simp] theorem a167 : tyAgg Try.prog 167 = false := by kernel_rfl
@[simp] theorem c167 : tyScalar Try.prog 167 = true := by kernel_rfl
@[simp] theorem z167 : tyZero Try.prog 167 = some (.nilFunc) := by kernel_rfl
@[simp] theorem s169 : tySize Try.prog 169 = some 1 := by kernel_rfl
@[simp] theorem b169 : tyBytes Try.prog 169 = some 8 := by kernel_rfl
@[simp] theorem a169 : tyAgg Try.prog 169 = false := by kernel_rfl
@[simp] theorem c169 : tyScalar Try.prog 169 = true := by kernel_rfl
@[simp] theorem z169 : tyZero Try.prog 169 = some (.nilFunc) := by kernel_rfl
@[simp] theorem s170 : tySize Try.prog 170 = some 1 := by kernel_rfl
@[simp] theorem b170 : tyBytes Try.prog 170 = some 8 := by kernel_rfl
@[simp] theorem a170 : tyAgg Try.prog 170 = false := by kernel_rfl
@[simp] theorem c170 : tyScalar Try.prog 170 = true := by kernel_rfl
@[simp] theorem z170 : tyZero Try.prog 170 = some (.nilp) := by kernel_rfl
@[simp] theorem s171 : tySize Try.prog 171 = some 2 := by kernel_rfl
@[simp] theorem b171 : tyBytes Try.prog 171 = some 24 := by kernel_rfl
@[simp] theorem a171 : tyAgg Try.prog 171 = true := by kernel_rfl
@[simp] theorem c171 : tyScalar Try.prog 171 = false := by kernel_rfl
@[simp] theorem z171 : tyZero Try.prog 171 = some (.agg [.str [], .int .i64 0]) := by kernel_rfl
@[simp] theorem s172 : tySize Try.prog 172 = some 2 := by kernel_rfl
@[simp] theorem b172 : tyBytes Try.prog 172 = some 24 := by kernel_rfl
@[simp] theorem a172 : tyAgg Try.prog 172 = true := by kernel_rfl
@[simp] theorem c172 : tyScalar Try.prog 172 = false := by kernel_rfl
@[simp] theorem z172 : tyZero Try.prog 172 = some (.agg [.str [], .int .i64 0]) := by kernel_rfl
@[simp] theorem s174 : tySize Try.prog 174 = some 1 := by kernel_rfl
@[simp] theorem b174 : tyBytes Try.prog 174 = some 8 := by kernel_rfl
@[simp] theorem a174 : tyAgg Try.prog 174 = false := by kernel_rfl
@[simp] theorem c174 : tyScalar Try.prog 174 = true := by kernel_rfl
@[simp] theorem z174 : tyZero Try.prog 174 = some (.nilFunc) := by kernel_rfl
@[simp] theorem s175 : tySize Try.prog 175 = some 1 := by kernel_rfl
@[simp] theorem b175 : tyBytes Try.prog 175 = some 8 := by kernel_rfl
@[simp] theorem a175 : tyAgg Try.prog 175 = false := by kernel_rfl
@[simp] theorem c175 : tyScalar Try.prog 175 = true := by kernel_rfl
@[simp] theorem z175 : tyZero Try.prog 175 = some (.nilFunc) := by kernel_rfl
@[simp] theorem s176 : tySize Try.prog 176 = some 1 := by kernel_rfl
@[simp] theorem b176 : tyBytes Try.prog 176 = some 8 := by kernel_rfl
@[simp] theorem a176 : tyAgg Try.prog 176 = false := by kernel_rfl
@[simp] theorem c176 : tyScalar Try.prog 176 = true := by kernel_rfl
@[simp] theorem z176 : tyZero Try.prog 176 = some (.nilFunc) := by kernel_rfl
@[simp] theorem s177 : tySize Try.prog 177 = some 2 := by kernel_rfl
@[simp] theorem b177 : tyBytes Try.prog 177 = some 24 := by kernel_rfl
@[simp] theorem a177 : tyAgg Try.prog 177 = true := by kernel_rfl
@[simp] theorem c177 : tyScalar Try.prog 177 = false := by kernel_rfl
@[simp] theorem z177 : tyZero Try.prog 177 = some (.agg [.str [], .int .i64 0]) := by kernel_rfl
@[simp] theorem s178 : tySize Try.prog 178 = some 2 := by kernel_rfl
@[simp] theorem b178 : tyBytes Try.prog 178 = some 24 := by kernel_rfl
@[simp] theorem a178 : tyAgg Try.prog 178 = true := by kernel_rfl
@[simp] theorem c178 : tyScalar Try.prog 178 = false := by kernel_rfl
@[simp] theorem z178 : tyZero Try.prog 178 = some (.agg [.str [], .int .i64 0]) := by kernel_rfl
@[simp] theorem s179 : tySize Try.prog 179 = some 1 := by kernel_rfl
@[simp] theorem b179 : tyBytes Try.prog 179 = some 8 := by kernel_rfl
@[simp] theorem a179 : tyAgg Try.prog 179 = false := by kernel_rfl
@[simp] theorem c179 : tyScalar Try.prog 179 = true := by kernel_rfl
@[simp] theorem z179 : tyZero Try.prog 179 = some (.nilFunc) := by kernel_rfl
@[simp] theorem s181 : tySize Try.prog 181 = some 1 := by kernel_rfl
@[simp] theorem b181 : tyBytes Try.prog 181 = some 8 := by kernel_rfl
@[simp] theorem a181 : tyAgg Try.prog 181 = false := by kernel_rfl
@[simp] theorem c181 : tyScalar Try.prog 181 = true := by kernel_rfl
@[simp] theorem z181 : tyZero Try.prog 181 = some (.nilFunc) := by kernel_rfl
@[simp] theorem s183 : tySize Try.prog 183 = some 1 := by kernel_rfl
@[simp] theorem b183 : tyBytes Try.prog 183 = some 8 := by kernel_rfl
@[simp] theorem a183 : tyAgg Try.prog 183 = false := by kernel_rfl
@[simp] theorem c183 : tyScalar Try.prog 183 = true := by kernel_rfl
@[simp] theorem z183 : tyZero Try.prog 183 = some (.nilFunc) := by kernel_rfl
@[simp] theorem s184 : tySize Try.prog 184 = some 1 := by kernel_rfl
@[simp] theorem b184 : tyBytes Try.prog 184 = some 8 := by kernel_rfl
@[simp] theorem a184 : tyAgg Try.prog 184 = false := by kernel_rfl
@[simp] theorem c184 : tyScalar Try.prog 184 = true := by kernel_rfl
@[simp] theorem z184 : tyZero Try.prog 184 = some (.nilFunc) := by kernel_rfl
@[simp] theorem s186 : tySize Try.prog 186 = some 1 := by kernel_rfl
@[simp] theorem b186 : tyBytes Try.prog 186 = some 8 := by kernel_rfl
@[simp] theorem a186 : tyAgg Try.prog 186 = false := by kernel_rfl
@[simp] theorem c186 : tyScalar Try.prog 186 = true := by kernel_rfl
@[simp] theorem z186 : tyZero Try.prog 186 = some (.nilFunc) := by kernel_rfl
@[simp] theorem s187 : tySize Try.prog 187 = some 1 := by kernel_rfl
@[simp] theorem b187 : tyBytes Try.prog 187 = some 8 := by kernel_rfl
@[simp] theorem a187 : tyAgg Try.prog 187 = false := by kernel_rfl
@[simp] theorem c187 : tyScalar Try.prog 187 = true := by kernel_rfl
@[simp] theorem z187 : tyZero Try.prog 187 = some (.nilFunc) := by kernel_rfl
@[simp] theorem s188 : tySize Try.prog 188 = some 1 := by kernel_rfl
@[simp] theorem b188 : tyBytes Try.prog 188 = some 8 := by kernel_rfl
@[simp] theorem a188 : tyAgg Try.prog 188 = false := by kernel_rfl
@[simp] theorem c188 : tyScalar Try.prog 188 = true := by kernel_rfl
@[simp] theorem z188 : tyZero Try.prog 188 = some (.nilFunc) := by kernel_rfl
@[simp] theorem s189 : tySize Try.prog 189 = some 1 := by kernel_rfl
@[simp] theorem b189 : tyBytes Try.prog 189 = some 8 := by kernel_rfl
@[simp] theorem a189 : tyAgg Try.prog 189 = false := by kernel_rfl
@[simp] theorem c189 : tyScalar Try.prog 189 = true := by kernel_rfl
@[simp] theorem z189 : tyZero Try.prog 189 = some (.nilFunc) := by kernel_rfl
@[simp] theorem s190 : tySize Try.prog 190 = some 1 := by kernel_rfl
@[simp] theorem b190 : tyBytes Try.prog 190 = some 24 := by kernel_rfl
@[simp] theorem a190 : tyAgg Try.prog 190 = false := by kernel_rfl
@[simp] theorem c190 : tyScalar Try.prog 190 = true := by kernel_rfl
@[simp] theorem z190 : tyZero Try.prog 190 = some (.nils) := by kernel_rfl
@[simp] theorem s191 : tySize Try.prog 191 = some 1 := by kernel_rfl
@[simp] theorem b191 : tyBytes Try.prog 191 = some 8 := by kernel_rfl
@[simp] theorem a191 : tyAgg Try.prog 191 = false := by kernel_rfl
@[simp] theorem c191 : tyScalar Try.prog 191 = true := by kernel_rfl
@[simp] theorem z191 : tyZero Try.prog 191 = some (.nilFunc) := by kernel_rfl
@[simp] theorem s192 : tySize Try.prog 192 = some 1 := by kernel_rfl
@[simp] theorem b192 : tyBytes Try.prog 192 = some 24 := by kernel_rfl
@[simp] theorem a192 : tyAgg Try.prog 192 = false := by kernel_rfl
@[simp] theorem c192 : tyScalar Try.prog 192 = true := by kernel_rfl
@[simp] theorem z192 : tyZero Try.prog 192 = some (.nils) := by kernel_rfl
@[simp] theorem s193 : tySize Try.prog 193 = some 4 := by kernel_rfl
@[simp] theorem b193 : tyBytes Try.prog 193 = some 48 := by kernel_rfl
@[simp] theorem a193 : tyAgg Try.prog 193 = true := by kernel_rfl
@[simp] theorem c193 : tyScalar Try.prog 193 = false := by kernel_rfl
@[simp] theorem z193 : tyZero Try.prog 193 = some (.agg [.bool false, .nils, .bool false, .int .i64 0]) := by kernel_rfl
@[simp] theorem s194 : tySize Try.prog 194 = some 4 := by kernel_rfl
@[simp] theorem b194 : tyBytes Try.prog 194 = some 48 := by kernel_rfl
@[simp] theorem a194 : tyAgg Try.prog 194 = true := by kernel_rfl
@[simp] theorem c194 : tyScalar Try.prog 194 = false := by kernel_rfl
@[simp] theorem z194 : tyZero Try.prog 194 = some (.agg [.bool false, .nils, .bool false, .int .i64 0]) := by kernel_rfl
@[simp] theorem s195 : tySize Try.prog 195 = some 1 := by kernel_rfl
@[simp] theorem b195 : tyBytes Try.prog 195 = some 8 := by kernel_rfl
@[simp] theorem a195 : tyAgg Try.prog 195 = false := by kernel_rfl
@[simp] theorem c195 : tyScalar Try.prog 195 = true := by kernel_rfl
@[simp] theorem z195 : tyZero Try.prog 195 = some (.nilFunc) := by kernel_rfl
@[simp] theorem s196 : tySize Try.prog 196 = some 1 := by kernel_rfl
@[simp] theorem b196 : tyBytes Try.prog 196 = some 24 := by kernel_rfl
@[simp] theorem a196 : tyAgg Try.prog 196 = false := by kernel_rfl
@[simp] theorem c196 : tyScalar Try.prog 196 = true := by kernel_rfl
@[simp] theorem z196 : tyZero Try.prog 196 = some (.nils) := by kernel_rfl
@[simp] theorem s197 : tySize Try.prog 197 = some 1 := by kernel_rfl
@[simp] theorem b197 : tyBytes Try.prog 197 = some 8 := by kernel_rfl
@[simp] theorem a197 : tyAgg Try.prog 197 = false := by kernel_rfl
@[simp] theorem c197 : tyScalar Try.prog 197 = true := by kernel_rfl
@[simp] theorem z197 : tyZero Try.prog 197 = some (.nilFunc) := by kernel_rfl
@[simp] theorem s198 : tySize Try.prog 198 = some 1 := by kernel_rfl
@[simp] theorem b198 : tyBytes Try.prog 198 = some 8 := by kernel_rfl
@[simp] theorem a198 : tyAgg Try.prog 198 = false := by kernel_rfl
@[simp] theorem c198 : tyScalar Try.prog 198 = true := by kernel_rfl
@[simp] theorem z198 : tyZero Try.prog 198 = some (.nilFunc) := by kernel_rfl
@[simp] theorem s199 : tySize Try.prog 199 = some 1 := by kernel_rfl
@[simp] theorem b199 : tyBytes Try.prog 199 = some 24 := by kernel_rfl
@[simp] theorem a199 : tyAgg Try.prog 199 = false := by kernel_rfl
@[simp] theorem c199 : tyScalar Try.prog 199 = true := by kernel_rfl
@[simp] theorem z199 : tyZero Try.prog 199 = some (.nils) := by kernel_rfl
@[simp] theorem s200 : tySize Try.prog 200 = some 2 := by kernel_rfl
@[simp] theorem b200 : tyBytes Try.prog 200 = some 32 := by kernel_rfl
@[simp] theorem a200 : tyAgg Try.prog 200 = true := by kernel_rfl
@[simp] theorem c200 : tyScalar Try.prog 200 = false := by kernel_rfl
@[simp] theorem z200 : tyZero Try.prog 200 = some (.agg [.nils, .int .i64 0]) := by kernel_rfl
@[simp] theorem s201 : tySize Try.prog 201 = some 2 := by kernel_rfl
@[simp] theorem b201 : tyBytes Try.prog 201 = some 32 := by kernel_rfl
@[simp] theorem a201 : tyAgg Try.prog 201 = true := by kernel_rfl
@[simp] theorem c201 : tyScalar Try.prog 201 = false := by kernel_rfl
@[simp] theorem z201 : tyZero Try.prog 201 = some (.agg [.nils, .int .i64 0]) := by kernel_rfl
@[simp] theorem s202 : tySize Try.prog 202 = some 1 := by kernel_rfl
@[simp] theorem b202 : tyBytes Try.prog 202 = some 8 := by kernel_rfl
@[simp] theorem a202 : tyAgg Try.prog 202 = false := by kernel_rfl
@[simp] theorem c202 : tyScalar Try.prog 202 = true := by kernel_rfl
@[simp] theorem z202 : tyZero Try.prog 202 = some (.nilFunc) := by kernel_rfl
@[simp] theorem s203 : tySize Try.prog 203 = some 1 := by kernel_rfl
@[simp] theorem b203 : tyBytes Try.prog 203 = some 8 := by kernel_rfl
@[simp] theorem a203 : tyAgg Try.prog 203 = false := by kernel_rfl
@[simp] theorem c203 : tyScalar Try.prog 203 = true := by kernel_rfl
@[simp] theorem z203 : tyZero Try.prog 203 = some (.nilFunc) := by kernel_rfl
@[simp] theorem s204 : tySize Try.prog 204 = some 1 := by kernel_rfl
@[simp] theorem b204 : tyBytes Try.prog 204 = some 8 := by kernel_rfl
@[simp] theorem a204 : tyAgg Try.prog 204 = false := by kernel_rfl
@[simp] theorem c204 : tyScalar Try.prog 204 = true := by kernel_rfl
@[simp] theorem z204 : tyZero Try.prog 204 = some (.nilFunc) := by kernel_rfl
@[simp] theorem s205 : tySize Try.prog 205 = some 1 := by kernel_rfl
@[simp] theorem b205 : tyBytes Try.prog 205 = some 8 := by kernel_rfl
@[simp] theorem a205 : tyAgg Try.prog 205 = false := by kernel_rfl
@[simp] theorem c205 : tyScalar Try.prog 205 = true := by kernel_rfl
@[simp] theorem z205 : tyZero Try.prog 205 = some (.nilFunc) := by kernel_rfl
@[simp] theorem s206 : tySize Try.prog 206 = some 1 := by kernel_rfl
@[simp] theorem b206 : tyBytes Try.prog 206 = some 8 := by kernel_rfl
@[simp] theorem a206 : tyAgg Try.prog 206 = false := by kernel_rfl
@[simp] theorem c206 : tyScalar Try.prog 206 = true := by kernel_rfl
@[simp] theorem z206 : tyZero Try.prog 206 = some (.nilFunc) := by kernel_rfl
@[simp] theorem s207 : tySize Try.prog 207 = some 1 := by kernel_rfl
@[simp] theorem b207 : tyBytes Try.prog 207 = some 8 := by kernel_rfl
@[simp] theorem a207 : tyAgg Try.prog 207 = false := by kernel_rfl
@[simp] theorem c207 : tyScalar Try.prog 207 = true := by kernel_rfl
@[simp] theorem z207 : tyZero Try.prog 207 = some (.nilFunc) := by kernel_rfl
@[simp] theorem s208 : tySize Try.prog 208 = some 1 := by kernel_rfl
@[simp] theorem b208 : tyBytes Try.prog 208 = some 8 := by kernel_rfl
@[simp] theorem a208 : tyAgg Try.prog 208 = false := by kernel_rfl
@[simp] theorem c208 : tyScalar Try.prog 208 = true := by kernel_rfl
@[simp] theorem z208 : tyZero Try.prog 208 = some (.nilFunc) := by kernel_rfl
@[simp] theorem s209 : tySize Try.prog 209 = some 1 := by kernel_rfl
@[simp] theorem b209 : tyBytes Try.prog 209 = some 8 := by kernel_rfl
@[simp] theorem a209 : tyAgg Try.prog 209 = false := by kernel_rfl
@[simp] theorem c209 : tyScalar Try.prog 209 = true := by kernel_rfl
@[simp] theorem z209 : tyZero Try.prog 209 = some (.nilFunc) := by kernel_rfl
@[simp] theorem s210 : tySize Try.prog 210 = some 1 := by kernel_rfl
@[simp] theorem b210 : tyBytes Try.prog 210 = some 8 := by kernel_rfl
@[simp] theorem a210 : tyAgg Try.prog 210 = false := by kernel_rfl
@[simp] theorem c210 : tyScalar Try.prog 210 = true := by kernel_rfl
@[simp] theorem z210 : tyZero Try.prog 210 = some (.nilFunc) := by kernel_rfl
@[simp] theorem s211 : tySize Try.prog 211 = some 2 := by kernel_rfl
@[simp] theorem b211 : tyBytes Try.prog 211 = some 24 := by kernel_rfl
@[simp] theorem a211 : tyAgg Try.prog 211 = true := by kernel_rfl
@[simp] theorem c211 : tyScalar Try.prog 211 = false := by kernel_rfl
@[simp] theorem z211 : tyZero Try.prog 211 = some (.agg [.int .i64 0, .str []]) := by kernel_rfl
@[simp] theorem s212 : tySize Try.prog 212 = some 2 := by kernel_rfl
@[simp] theorem b212 : tyBytes Try.prog 212 = some 24 := by kernel_rfl
@[simp] theorem a212 : tyAgg Try.prog 212 = true := by kernel_rfl
@[simp] theorem c212 : tyScalar Try.prog 212 = false := by kernel_rfl
@[simp] theorem z212 : tyZero Try.prog 212 = some (.agg [.int .i64 0, .str []]) := by kernel_rfl
@[simp] theorem s213 : tySize Try.prog 213 = some 1 := by kernel_rfl
@[simp] theorem b213 : tyBytes Try.prog 213 = some 8 := by kernel_rfl
@[simp] theorem a213 : tyAgg Try.prog 213 = false := by kernel_rfl
@[simp] theorem c213 : tyScalar Try.prog 213 = true := by kernel_rfl
@[simp] theorem z213 : tyZero Try.prog 213 = some (.nilFunc) := by kernel_rfl
@[simp] theorem s214 : tySize Try.prog 214 = some 1 := by kernel_rfl
@[simp] theorem b214 : tyBytes Try.prog 214 = some 8 := by kernel_rfl
@[simp] theorem a214 : tyAgg Try.prog 214 = false := by kernel_rfl
@[simp] theorem c214 : tyScalar Try.prog 214 = true := by kernel_rfl
@[simp] theorem z214 : tyZero Try.prog 214 = some (.nilFunc) := by kernel_rfl
@[simp] theorem s215 : tySize Try.prog 215 = some 1 := by kernel_rfl
@[simp] theorem b215 : tyBytes Try.prog 215 = some 8 := by kernel_rfl
@[simp] theorem a215 : tyAgg Try.prog 215 = false := by kernel_rfl
@[simp] theorem c215 : tyScalar Try.prog 215 = true := by kernel_rfl
@[simp] theorem z215 : tyZero Try.prog 215 = some (.nilFunc) := by kernel_rfl
@[simp] theorem s216 : tySize Try.prog 216 = some 1 := by kernel_rfl
@[simp] theorem b216 : tyBytes Try.prog 216 = some 8 := by kernel_rfl
@[simp] theorem a216 : tyAgg Try.prog 216 = false := by kernel_rfl
@[simp] theorem c216 : tyScalar Try.prog 216 = true := by kernel_rfl
@[simp] theorem z216 : tyZero Try.prog 216 = some (.nilFunc) := by kernel_rfl
@[simp] theorem s217 : tySize Try.prog 217 = some 1 := by kernel_rfl
@[simp] theorem b217 : tyBytes Try.prog 217 = some 24 := by kernel_rfl
@[simp] theorem a217 : tyAgg Try.prog 217 = false := by kernel_rfl
@[simp] theorem c217 : tyScalar Try.prog 217 = true := by kernel_rfl
@[simp] theorem z217 : tyZero Try.prog 217 = some (.nils) := by kernel_rfl
@[simp] theorem s218 : tySize Try.prog 218 = some 1 := by kernel_rfl
@[simp] theorem b218 : tyBytes Try.prog 218 = some 8 := by kernel_rfl
@[simp] theorem a218 : tyAgg Try.prog 218 = false := by kernel_rfl
@[simp] theorem c218 : tyScalar Try.prog 218 = true := by kernel_rfl
@[simp] theorem z218 : tyZero Try.prog 218 = some (.nilFunc) := by kernel_rfl
@[simp] theorem s219 : tySize Try.prog 219 = some 1 := by kernel_rfl
@[simp] theorem b219 : tyBytes Try.prog 219 = some 24 := by kernel_rfl
@[simp] theorem a219 : tyAgg Try.prog 219 = false := by kernel_rfl
@[simp] theorem c219 : tyScalar Try.prog 219 = true := by kernel_rfl
@[simp] theorem z219 : tyZero Try.prog 219 = some (.nils) := by kernel_rfl
@[simp] theorem s221 : tySize Try.prog 221 = some 1 := by kernel_rfl
@[simp] theorem b221 : tyBytes Try.prog 221 = some 8 := by kernel_rfl
@[simp] theorem a221 : tyAgg Try.prog 221 = false := by kernel_rfl
@[simp] theorem c221 : tyScalar Try.prog 221 = true := by kernel_rfl
@[simp] theorem z221 : tyZero Try.prog 221 = some (.nilFunc) := by kernel_rfl
@[simp] theorem s222 : tySize Try.prog 222 = some 1 := by kernel_rfl
@[simp] theorem b222 : tyBytes Try.prog 222 = some 8 := by kernel_rfl
@[simp] theorem a222 : tyAgg Try.prog 222 = false := by kernel_rfl
@[simp] theorem c222 : tyScalar Try.prog 222 = true := by kernel_rfl
@[simp] theorem z222 : tyZero Try.prog 222 = some (.nilFunc) := by kernel_rfl
@[simp] theorem s223 : tySize Try.prog 223 = some 1 := by kernel_rfl
@[simp] theorem b223 : tyBytes Try.prog 223 = some 8 := by kernel_rfl
@[simp] theorem a223 : tyAgg Try.prog 223 = false := by kernel_rfl
@[simp] theorem c223 : tyScalar Try.prog 223 = true := by kernel_rfl
@[simp] theorem z223 : tyZero Try.prog 223 = some (.nilFunc) := by kernel_rfl
@[simp] theorem s224 : tySize Try.prog 224 = some 2 := by kernel_rfl
@[simp] theorem b224 : tyBytes Try.prog 224 = some 48 := by kernel_rfl
@[simp] theorem a224 : tyAgg Try.prog 224 = true := by kernel_rfl
@[simp] theorem c224 : tyScalar Try.prog 224 = false := by kernel_rfl
@[simp] theorem z224 : tyZero Try.prog 224 = some (.agg [.nils, .nils]) := by kernel_rfl
@[simp] theorem s225 : tySize Try.prog 225 = some 2 := by kernel_rfl
@[simp] theorem b225 : tyBytes Try.prog 225 = some 48 := by kernel_rfl
@[simp] theorem a225 : tyAgg Try.prog 225 = true := by kernel_rfl
@[simp] theorem c225 : tyScalar Try.prog 225 = false := by kernel_rfl
@[simp] theorem z225 : tyZero Try.prog 225 = some (.agg [.nils, .nils]) := by kernel_rfl
@[simp] theorem s226 : tySize Try.prog 226 = some 1 := by kernel_rfl
@[simp] theorem b226 : tyBytes Try.prog 226 = some 8 := by kernel_rfl
@[simp] theorem a226 : tyAgg Try.prog 226 = false := by kernel_rfl
@[simp] theorem c226 : tyScalar Try.prog 226 = true := by kernel_rfl
@[simp] theorem z226 : tyZero Try.prog 226 = some (.nilFunc) := by kernel_rfl
@[simp] theorem s227 : tySize Try.prog 227 = some 1 := by kernel_rfl
@[simp] theorem b227 : tyBytes Try.prog 227 = some 8 := by kernel_rfl
@[simp] theorem a227 : tyAgg Try.prog 227 = false := by kernel_rfl
@[simp] theorem c227 : tyScalar Try.prog 227 = true := by kernel_rfl
@[simp] theorem z227 : tyZero Try.prog 227 = some (.nilFunc) := by kernel_rfl
@[simp] theorem s228 : tySize Try.prog 228 = some 1 := by kernel_rfl
@[simp] theorem b228 : tyBytes Try.prog 228 = some 8 := by kernel_rfl
@[simp] theorem a228 : tyAgg Try.prog 228 = false := by kernel_rfl
@[simp] theorem c228 : tyScalar Try.prog 228 = true := by kernel_rfl
@[simp] theorem z228 : tyZero Try.prog 228 = some (.nilFunc) := by kernel_rfl
@[simp] theorem s229 : tySize Try.prog 229 = some 1 := by kernel_rfl
@[simp] theorem b229 : tyBytes Try.prog 229 = some 8 := by kernel_rfl
@[simp] theorem a229 : tyAgg Try.prog 229 = false := by kernel_rfl
@[simp] theorem c229 : tyScalar Try.prog 229 = true := by kernel_rfl
@[simp] theorem z229 : tyZero Try.prog 229 = some (.nilFunc) := by kernel_rfl
@[simp] theorem s230 : tySize Try.prog 230 = some 1 := by kernel_rfl
@[simp] theorem b230 : tyBytes Try.prog 230 = some 8 := by kernel_rfl
@[simp] theorem a230 : tyAgg Try.prog 230 = false := by kernel_rfl
@[simp] theorem c230 : tyScalar Try.prog 230 = true := by kernel_rfl
@[simp] theorem z230 : tyZero Try.prog 230 = some (.nilFunc) := by kernel_rfl
@[simp] theorem s231 : tySize Try.prog 231 = some 1 := by kernel_rfl
@[simp] theorem b231 : tyBytes Try.prog 231 = some 8 := by kernel_rfl
@[simp] theorem a231 : tyAgg Try.prog 231 = false := by kernel_rfl
@[simp] theorem c231 : tyScalar Try.prog 231 = true := by kernel_rfl
@[simp] theorem z231 : tyZero Try.prog 231 = some (.nilFunc) := by kernel_rfl
@[simp] theorem s233 : tySize Try.prog 233 = some 1 := by kernel_rfl
@[simp] theorem b233 : tyBytes Try.prog 233 = some 8 := by kernel_rfl
@[simp] theorem a233 : tyAgg Try.prog 233 = false := by kernel_rfl
@[simp] theorem c233 : tyScalar Try.prog 233 = true := by kernel_rfl
@[simp] theorem z233 : tyZero Try.prog 233 = some (.nilFunc) := by kernel_rfl
@[simp] theorem s234 : tySize Try.prog 234 = some 1 := by kernel_rfl
@[simp] theorem b234 : tyBytes Try.prog 234 = some 8 := by kernel_rfl
@[simp] theorem a234 : tyAgg Try.prog 234 = false := by kernel_rfl
@[simp] theorem c234 : tyScalar Try.prog 234 = true := by kernel_rfl
@[simp] theorem z234 : tyZero Try.prog 234 = some (.nilFunc) := by kernel_rfl
@[simp] theorem s235 : tySize Try.prog 235 = some 1 := by kernel_rfl
@[simp] theorem b235 : tyBytes Try.prog 235 = some 8 := by kernel_rfl
@[simp] theorem a235 : tyAgg Try.prog 235 = false := by kernel_rfl
@[simp] theorem c235 : tyScalar Try.prog 235 = true := by kernel_rfl
@[simp] theorem z235 : tyZero Try.prog 235 = some (.nilFunc) := by kernel_rfl
@[simp] theorem s236 : tySize Try.prog 236 = some 1 := by kernel_rfl
@[simp] theorem b236 : tyBytes Try.prog 236 = some 8 := by kernel_rfl
@[simp] theorem a236 : tyAgg Try.prog 236 = false := by kernel_rfl
@[simp] theorem c236 : tyScalar Try.prog 236 = true := by kernel_rfl
@[simp] theorem z236 : tyZero Try.prog 236 = some (.nilFunc) := by kernel_rfl
@[simp] theorem s237 : tySize Try.prog 237 = some 1 := by kernel_rfl
@[simp] theorem b237 : tyBytes Try.prog 237 = some 16 := by kernel_rfl
@[simp] theorem a237 : tyAgg Try.prog 237 = false := by kernel_rfl
@[simp] theorem c237 : tyScalar Try.prog 237 = true := by kernel_rfl
@[simp] theorem z237 : tyZero Try.prog 237 = some (.nilIface) := by kernel_rfl
@[simp] theorem s238 : tySize Try.prog 238 = some 1 := by kernel_rfl
@[simp] theorem b238 : tyBytes Try.prog 238 = some 16 := by kernel_rfl
@[simp] theorem a238 : tyAgg Try.prog 238 = false := by kernel_rfl
@[simp] theorem c238 : tyScalar Try.prog 238 = true := by kernel_rfl
@[simp] theorem z238 : tyZero Try.prog 238 = some (.nilIface) := by kernel_rfl
@[simp] theorem s239 : tySize Try.prog 239 = some 1 := by kernel_rfl
@[simp] theorem b239 : tyBytes Try.prog 239 = some 16 := by kernel_rfl
@[simp] theorem a239 : tyAgg Try.prog 239 = true := by kernel_rfl
@[simp] theorem c239 : tyScalar Try.prog 239 = false := by kernel_rfl
@[simp] theorem z239 : tyZero Try.prog 239 = some (.agg [.nilIface]) := by kernel_rfl
@[simp] theorem s240 : tySize Try.prog 240 = some 1 := by kernel_rfl
@[simp] theorem b240 : tyBytes Try.prog 240 = some 16 := by kernel_rfl
@[simp] theorem a240 : tyAgg Try.prog 240 = true := by kernel_rfl
@[simp] theorem c240 : tyScalar Try.prog 240 = false := by kernel_rfl
@[simp] theorem z240 : tyZero Try.prog 240 = some (.agg [.nilIface]) := by kernel_rfl
@[simp] theorem s242 : tySize Try.prog 242 = some 1 := by kernel_rfl
@[simp] theorem b242 : tyBytes Try.prog 242 = some 8 := by kernel_rfl
@[simp] theorem a242 : tyAgg Try.prog 242 = false := by kernel_rfl
@[simp] theorem c242 : tyScalar Try.prog 242 = true := by kernel_rfl
@[simp] theorem z242 : tyZero Try.prog 242 = some (.nilFunc) := by kernel_rfl
@[simp] theorem s244 : tySize Try.prog 244 = some 1 := by kernel_rfl
@[simp] theorem b244 : tyBytes Try.prog 244 = some 8 := by kernel_rfl
@[simp] theorem a244 : tyAgg Try.prog 244 = false := by kernel_rfl
@[simp] theorem c244 : tyScalar Try.prog 244 = true := by kernel_rfl
@[simp] theorem z244 : tyZero Try.prog 244 = some (.nilFunc) := by kernel_rfl
@[simp] theorem s245 : tySize Try.prog 245 = some 1 := by kernel_rfl
@[simp] theorem b245 : tyBytes Try.prog 245 = some 8 := by kernel_rfl
@[simp] theorem a245 : tyAgg Try.prog 245 = false := by kernel_rfl
@[simp] theorem c245 : tyScalar Try.prog 245 = true := by kernel_rfl
@[simp] theorem z245 : tyZero Try.prog 245 = some (.nilFunc) := by kernel_rfl
@[simp] theorem s246 : tySize Try.prog 246 = some 1 := by kernel_rfl
@[simp] theorem b246 : tyBytes Try.prog 246 = some 8 := by kernel_rfl
@[simp] theorem a246 : tyAgg Try.prog 246 = false := by kernel_rfl
@[simp] theorem c246 : tyScalar Try.prog 246 = true := by kernel_rfl
@[simp] theorem z246 : tyZero Try.prog 246 = some (.nilFunc) := by kernel_rfl
@[simp] theorem s247 : tySize Try.prog 247 = some 1 := by kernel_rfl
@[simp] theorem b247 : tyBytes Try.prog 247 = some 8 := by kernel_rfl
@[simp] theorem a247 : tyAgg Try.prog 247 = false := by kernel_rfl
@[simp] theorem c247 : tyScalar Try.prog 247 = true := by kernel_rfl
@[simp] theorem z247 : tyZero Try.prog 247 = some (.nilFunc) := by kernel_rfl
@[simp] theorem s248 : tySize Try.prog 248 = some 1 := by kernel_rfl
@[simp] theorem b248 : tyBytes Try.prog 248 = some 8 := by kernel_rfl
@[simp] theorem a248 : tyAgg Try.prog 248 = false := by kernel_rfl
@[simp] theorem c248 : tyScalar Try.prog 248 = true := by kernel_rfl
@[simp] theorem z248 : tyZero Try.prog 248 = some (.nilFunc) := by kernel_rfl
@[simp] theorem s249 : tySize Try.prog 249 = some 1 := by kernel_rfl
@[simp] theorem b249 : tyBytes Try.prog 249 = some 8 := by kernel_rfl
@[simp] theorem a249 : tyAgg Try.prog 249 = false := by kernel_rfl
@[simp] theorem c249 : tyScalar Try.prog 249 = true := by kernel_rfl
@[simp] theorem z249 : tyZero Try.prog 249 = some (.int .u64 0) := by kernel_rfl
@[simp] theorem s250 : tySize Try.prog 250 = some 1 := by kernel_rfl
@[simp] theorem b250 : tyBytes Try.prog 250 = some 8 := by kernel_rfl
@[simp] theorem a250 : tyAgg Try.prog 250 = false := by kernel_rfl
@[simp] theorem c250 : tyScalar Try.prog 250 = true := by kernel_rfl
@[simp] theorem z250 : tyZero Try.prog 250 = some (.nilFunc) := by kernel_rfl
@[simp] theorem s252 : tySize Try.prog 252 = some 1 := by kernel_rfl
@[simp] theorem b252 : tyBytes Try.prog 252 = some 8 := by kernel_rfl
@[simp] theorem a252 : tyAgg Try.prog 252 = false := by kernel_rfl
@[simp] theorem c252 : tyScalar Try.prog 252 = true := by kernel_rfl
@[simp] theorem z252 : tyZero Try.prog 252 = some (.nilFunc) := by kernel_rfl
@[simp] theorem s254 : tySize Try.prog 254 = some 1 := by kernel_rfl
@[simp] theorem b254 : tyBytes Try.prog 254 = some 8 := by kernel_rfl
@[simp] theorem a254 : tyAgg Try.prog 254 = false := by kernel_rfl
@[simp] theorem c254 : tyScalar Try.prog 254 = true := by kernel_rfl
@[simp] theorem z254 : tyZero Try.prog 254 = some (.nilFunc) := by kernel_rfl
@[simp] theorem s255 : tySize Try.prog 255 = some 1 := by kernel_rfl
@[simp] theorem b255 : tyBytes Try.prog 255 = some 8 := by kernel_rfl
@[simp] theorem a255 : tyAgg Try.prog 255 = false := by kernel_rfl
@[simp] theorem c255 : tyScalar Try.prog 255 = true := by kernel_rfl
@[simp] theorem z255 : tyZero Try.prog 255 = some (.nilFunc) := by kernel_rfl
@[simp] theorem s256 : tySize Try.prog 256 = some 1 := by kernel_rfl
@[simp] theorem b256 : tyBytes Try.prog 256 = some 8 := by kernel_rfl
@[simp] theorem a256 : tyAgg Try.prog 256 = false := by kernel_rfl
@[simp] theorem c256 : tyScalar Try.prog 256 = true := by kernel_rfl
@[simp] theorem z256 : tyZero Try.prog 256 = some (.nilFunc) := by kernel_rfl
@[simp] theorem s257 : tySize Try.prog 257 = some 2 := by kernel_rfl
@[simp] theorem b257 : tyBytes Try.prog 257 = some 2 := by kernel_rfl
@[simp] theorem a257 : tyAgg Try.prog 257 = true := by kernel_rfl
@[simp] theorem c257 : tyScalar Try.prog 257 = false := by kernel_rfl
@[simp] theorem z257 : tyZero Try.prog 257 = some (.agg [.int .u8 0, .int .u8 0]) := by kernel_rfl
@[simp] theorem s258 : tySize Try.prog 258 = some 2 := by kernel_rfl
@[simp] theorem b258 : tyBytes Try.prog 258 = some 2 := by kernel_rfl
@[simp] theorem a258 : tyAgg Try.prog 258 = true := by kernel_rfl
@[simp] theorem c258 : tyScalar Try.prog 258 = false := by kernel_rfl
@[simp] theorem z258 : tyZero Try.prog 258 = some (.agg [.int .u8 0, .int .u8 0]) := by kernel_rfl
@[simp] theorem s259 : tySize Try.prog 259 = some 1 := by kernel_rfl
@[simp] theorem b259 : tyBytes Try.prog 259 = some 8 := by kernel_rfl
@[simp] theorem a259 : tyAgg Try.prog 259 = false := by kernel_rfl
@[simp] theorem c259 : tyScalar Try.prog 259 = true := by kernel_rfl
@[simp] theorem z259 : tyZero Try.prog 259 = some (.nilFunc) := by kernel_rfl
@[simp] theorem s260 : tySize Try.prog 260 = some 1 := by kernel_rfl
@[simp] theorem b260 : tyBytes Try.prog 260 = some 8 := by kernel_rfl
@[simp] theorem a260 : tyAgg Try.prog 260 = false := by kernel_rfl
@[simp] theorem c260 : tyScalar Try.prog 260 = true := by kernel_rfl
@[simp] theorem z260 : tyZero Try.prog 260 = some (.nilFunc) := by kernel_rfl
@[simp] theorem s261 : tySize Try.prog 261 = some 1 := by kernel_rfl
@[simp] theorem b261 : tyBytes Try.prog 261 = some 8 := by kernel_rfl
@[simp] theorem a261 : tyAgg Try.prog 261 = false := by kernel_rfl
@[simp] theorem c261 : tyScalar Try.prog 261 = true := by kernel_rfl
@[simp] theorem z261 : tyZero Try.prog 261 = some (.nilFunc) := by kernel_rfl
@[simp] theorem s262 : tySize Try.prog 262 = some 1 := by kernel_rfl
@[simp] theorem b262 : tyBytes Try.prog 262 = some 8 := by kernel_rfl
@[simp] theorem a262 : tyAgg Try.prog 262 = false := by kernel_rfl
@[simp] theorem c262 : tyScalar Try.prog 262 = true := by kernel_rfl
@[simp] theorem z262 : tyZero Try.prog 262 = some (.nilFunc) := by kernel_rfl
@[simp] theorem s263 : tySize Try.prog 263 = some 1 := by kernel_rfl
@[simp] theorem b263 : tyBytes Try.prog 263 = some 8 := by kernel_rfl
@[simp] theorem a263 : tyAgg Try.prog 263 = false := by kernel_rfl
@[simp] theorem c263 : tyScalar Try.prog 263 = true := by kernel_rfl
@[simp] theorem z263 : tyZero Try.prog 263 = some (.nilFunc) := by kernel_rfl
@[simp] theorem s264 : tySize Try.prog 264 = some 1 := by kernel_rfl
@[simp] theorem b264 : tyBytes Try.prog 264 = some 8 := by kernel_rfl
@[simp] theorem a264 : tyAgg Try.prog 264 = false := by kernel_rfl
@[simp] theorem c264 : tyScalar Try.prog 264 = true := by kernel_rfl
@[simp] theorem z264 : tyZero Try.prog 264 = some (.nilFunc) := by kernel_rfl
@[simp] theorem s265 : tySize Try.prog 265 = some 1 := by kernel_rfl
@[simp] theorem b265 : tyBytes Try.prog 265 = some 8 := by kernel_rfl
@[simp] theorem a265 : tyAgg Try.prog 265 = false := by kernel_rfl
@[simp] theorem c265 : tyScalar Try.prog 265 = true := by kernel_rfl
@[simp] theorem z265 : tyZero Try.prog 265 = some (.nilFunc) := by kernel_rfl
@[simp] theorem s266 : tySize Try.prog 266 = some 1 := by kernel_rfl
@[simp] theorem b266 : tyBytes Try.prog 266 = some 8 := by kernel_rfl
@[simp] theorem a266 : tyAgg Try.prog 266 = false := by kernel_rfl
@[simp] theorem c266 : tyScalar Try.prog 266 = true := by kernel_rfl
@[simp] theorem z266 : tyZero Try.prog 266 = some (.nilFunc) := by kernel_rfl
@[simp] theorem s267 : tySize Try.prog 267 = some 1 := by kernel_rfl
@[simp] theorem b267 : tyBytes Try.prog 267 = some 8 := by kernel_rfl
@[simp] theorem a267 : tyAgg Try.prog 267 = false := by kernel_rfl
@[simp] theorem c267 : tyScalar Try.prog 267 = true := by kernel_rfl
@[simp] theorem z267 : tyZero Try.prog 267 = some (.nilFunc) := by kernel_rfl
@[simp] theorem s268 : tySize Try.prog 268 = some 1 := by kernel_rfl
@[simp] theorem b268 : tyBytes Try.prog 268 = some 8 := by kernel_rfl
@[simp] theorem a268 : tyAgg Try.prog 268 = false := by kernel_rfl
@[simp] theorem c268 : tyScalar Try.prog 268 = true := by kernel_rfl
@[simp] theorem z268 : tyZero Try.prog 268 = some (.nilFunc) := by kernel_rfl
@[simp] theorem s270 : tySize Try.prog 270 = some 1 := by kernel_rfl
@[simp] theorem b270 : tyBytes Try.prog 270 = some 8 := by kernel_rfl
@[simp] theorem a270 : tyAgg Try.prog 270 = false := by kernel_rfl
@[simp] theorem c270 : tyScalar Try.prog 270 = true := by kernel_rfl
@[simp] theorem z270 : tyZero Try.prog 270 = some (.nilFunc) := by kernel_rfl
@[simp] theorem s271 : tySize Try.prog 271 = some 1 := by kernel_rfl
@[simp] theorem b271 : tyBytes Try.prog 271 = some 8 := by kernel_rfl
@[simp] theorem a271 : tyAgg Try.prog 271 = false := by kernel_rfl
@[simp] theorem c271 : tyScalar Try.prog 271 = true := by kernel_rfl
@[simp] theorem z271 : tyZero Try.prog 271 = some (.nilFunc) := by kernel_rfl
@[simp] theorem s272 : tySize Try.prog 272 = some 2 := by kernel_rfl
@[simp] theorem b272 : tyBytes Try.prog 272 = some 40 := by kernel_rfl
@[simp] theorem a272 : tyAgg Try.prog 272 = true := by kernel_rfl
@[simp] theorem c272 : tyScalar Try.prog 272 = false := by kernel_rfl
@[simp] theorem z272 : tyZero Try.prog 272 = some (.agg [.str [], .nils]) := by kernel_rfl
@[simp] theorem s273 : tySize Try.prog 273 = some 2 := by kernel_rfl
@[simp] theorem b273 : tyBytes Try.prog 273 = some 40 := by kernel_rfl
@[simp] theorem a273 : tyAgg Try.prog 273 = true := by kernel_rfl
@[simp] theorem c273 : tyScalar Try.prog 273 = false := by kernel_rfl
@[simp] theorem z273 : tyZero Try.prog 273 = some (.agg [.str [], .nils]) := by kernel_rfl
@[simp] theorem s274 : tySize Try.prog 274 = some 1 := by kernel_rfl
@[simp] theorem b274 : tyBytes Try.prog 274 = some 24 := by kernel_rfl
@[simp] theorem a274 : tyAgg Try.prog 274 = false := by kernel_rfl
@[simp] theorem c274 : tyScalar Try.prog 274 = true := by kernel_rfl
@[simp] theorem z274 : tyZero Try.prog 274 = some (.nils) := by kernel_rfl
@[simp] theorem s275 : tySize Try.prog 275 = some 1 := by kernel_rfl
@[simp] theorem b275 : tyBytes Try.prog 275 = some 24 := by kernel_rfl
@[simp] theorem a275 : tyAgg Try.prog 275 = false := by kernel_rfl
@[simp] theorem c275 : tyScalar Try.prog 275 = true := by kernel_rfl
@[simp] theorem z275 : tyZero Try.prog 275 = some (.nils) := by kernel_rfl
@[simp] theorem s276 : tySize Try.prog 276 = some 1 := by kernel_rfl
@[simp] theorem b276 : tyBytes Try.prog 276 = some 8 := by kernel_rfl
@[simp] theorem a276 : tyAgg Try.prog 276 = false := by kernel_rfl
@[simp] theorem c276 : tyScalar Try.prog 276 = true := by kernel_rfl
@[simp] theorem z276 : tyZero Try.prog 276 = some (.nilFunc) := by kernel_rfl
@[simp] theorem s277 : tySize Try.prog 277 = some 1 := by kernel_rfl
@[simp] theorem b277 : tyBytes Try.prog 277 = some 8 := by kernel_rfl
@[simp] theorem a277 : tyAgg Try.prog 277 = false := by kernel_rfl
@[simp] theorem c277 : tyScalar Try.prog 277 = true := by kernel_rfl
@[simp] theorem z277 : tyZero Try.prog 277 = some (.nilFunc) := by kernel_rfl
@[simp] theorem s279 : tySize Try.prog 279 = some 1 := by kernel_rfl
@[simp] theorem b279 : tyBytes Try.prog 279 = some 8 := by kernel_rfl
@[simp] theorem a279 : tyAgg Try.prog 279 = false := by kernel_rfl
@[simp] theorem c279 : tyScalar Try.prog 279 = true := by kernel_rfl
@[simp] theorem z279 : tyZero Try.prog 279 = some (.nilFunc) := by kernel_rfl
@[simp] theorem s280 : tySize Try.prog 280 = some 1 := by kernel_rfl
@[simp] theorem b280 : tyBytes Try.prog 280 = some 8 := by kernel_rfl
@[simp] theorem a280 : tyAgg Try.prog 280 = false := by kernel_rfl
@[simp] theorem c280 : tyScalar Try.prog 280 = true := by kernel_rfl
@[simp] theorem z280 : tyZero Try.prog 280 = some (.nilFunc) := by kernel_rfl
@[simp] theorem s281 : tySize Try.prog 281 = some 1 := by kernel_rfl
@[simp] theorem b281 : tyBytes Try.prog 281 = some 8 := by kernel_rfl
@[simp] theorem a281 : tyAgg Try.prog 281 = false := by kernel_rfl
@[simp] theorem c281 : tyScalar Try.prog 281 = true := by kernel_rfl
@[simp] theorem z281 : tyZero Try.prog 281 = some (.nilFunc) := by kernel_rfl
@[simp] theorem s282 : tySize Try.prog 282 = some 1 := by kernel_rfl
@[simp] theorem b282 : tyBytes Try.prog 282 = some 8 := by kernel_rfl
@[simp] theorem a282 : tyAgg Try.prog 282 = false := by kernel_rfl
@[simp] theorem c282 : tyScalar Try.prog 282 = true := by kernel_rfl
@[simp] theorem z282 : tyZero Try.prog 282 = some (.nilFunc) := by kernel_rfl
@[simp] theorem s283 : tySize Try.prog 283 = some 1 := by kernel_rfl
@[simp] theorem b283 : tyBytes Try.prog 283 = some 8 := by kernel_rfl
@[simp] theorem a283 : tyAgg Try.prog 283 = false := by kernel_rfl
@[simp] theorem c283 : tyScalar Try.prog 283 = true := by kernel_rfl
@[simp] theorem z283 : tyZero Try.prog 283 = some (.nilFunc) := by kernel_rfl
@[simp] theorem s284 : tySize Try.prog 284 = some 1 := by kernel_rfl
@[simp] theorem b284 : tyBytes Try.prog 284 = some 8 := by kernel_rfl
@[simp] theorem a284 : tyAgg Try.prog 284 = false := by kernel_rfl
@[simp] theorem c284 : tyScalar Try.prog 284 = true := by kernel_rfl
@[simp] theorem z284 : tyZero Try.prog 284 = some (.nilFunc) := by kernel_rfl
@[simp] theorem s285 : tySize Try.prog 285 = some 1 := by kernel_rfl
@[simp] theorem b285 : tyBytes Try.prog 285 = some 8 := by kernel_rfl
@[simp] theorem a285 : tyAgg Try.prog 285 = false := by kernel_rfl
@[simp] theorem c285 : tyScalar Try.prog 285 = true := by kernel_rfl
@[simp] theorem z285 : tyZero Try.prog 285 = some (.nilFunc) := by kernel_rfl
@[simp] theorem s286 : tySize Try.prog 286 = some 1 := by kernel_rfl
@[simp] theorem b286 : tyBytes Try.prog 286 = some 8 := by kernel_rfl
@[simp] theorem a286 : tyAgg Try.prog 286 = false := by kernel_rfl
@[simp] theorem c286 : tyScalar Try.prog 286 = true := by kernel_rfl
@[simp] theorem z286 : tyZero Try.prog 286 = some (.nilFunc) := by kernel_rfl
@[simp] theorem s287 : tySize Try.prog 287 = some 1 := by kernel_rfl
@[simp] theorem b287 : tyBytes Try.prog 287 = some 8 := by kernel_rfl
@[simp] theorem a287 : tyAgg Try.prog 287 = false := by kernel_rfl
@[simp] theorem c287 : tyScalar Try.prog 287 = true := by kernel_rfl
@[simp] theorem z287 : tyZero Try.prog 287 = some (.nilFunc) := by kernel_rfl
@[simp] theorem s288 : tySize Try.prog 288 = some 2 := by kernel_rfl
@[simp] theorem b288 : tyBytes Try.prog 288 = some 24 := by kernel_rfl
@[simp] theorem a288 : tyAgg Try.prog 288 = true := by kernel_rfl
@[simp] theorem c288 : tyScalar Try.prog 288 = false := by kernel_rfl
@[simp] theorem z288 : tyZero Try.prog 288 = some (.agg [.bool false, .str []]) := by kernel_rfl
@[simp] theorem s289 : tySize Try.prog 289 = some 2 := by kernel_rfl
@[simp] theorem b289 : tyBytes Try.prog 289 = some 24 := by kernel_rfl
@[simp] theorem a289 : tyAgg Try.prog 289 = true := by kernel_rfl
@[simp] theorem c289 : tyScalar Try.prog 289 = false := by kernel_rfl
@[simp] theorem z289 : tyZero Try.prog 289 = some (.agg [.bool false, .str []]) := by kernel_rfl
@[simp] theorem s290 : tySize Try.prog 290 = some 20 := by kernel_rfl
@[simp] theorem b290 : tyBytes Try.prog 290 = some 20 := by kernel_rfl
@[simp] theorem a290 : tyAgg Try.prog 290 = true := by kernel_rfl
@[simp] theorem c290 : tyScalar Try.prog 290 = false := by kernel_rfl
@[simp] theorem z290 : tyZero Try.prog 290 = some (.agg [.int .u8 0, .int .u8 0, .int .u8 0, .int .u8 0, .int .u8 0, .int .u8 0, .int .u8 0, .int .u8 0, .int .u8 0, .int .u8 0, .int .u8 0, .int .u8 0, .int .u8 0, .int .u8 0, .int .u8 0, .int .u8 0, .int .u8 0, .int .u8 0, .int .u8 0, .int .u8 0]) := by kernel_rfl
@[simp] theorem s292 : tySize Try.prog 292 = some 1 := by kernel_rfl
@[simp] theorem b292 : tyBytes Try.prog 292 = some 8 := by kernel_rfl
@[simp] theorem a292 : tyAgg Try.prog 292 = false := by kernel_rfl
@[simp] theorem c292 : tyScalar Try.prog 292 = true := by kernel_rfl
@[simp] theorem z292 : tyZero Try.prog 292 = some (.nilFunc) := by kernel_rfl
@[simp] theorem s293 : tySize Try.prog 293 = some 1 := by kernel_rfl
@[simp] theorem b293 : tyBytes Try.prog 293 = some 8 := by kernel_rfl
@[simp] theorem a293 : tyAgg Try.prog 293 = false := by kernel_rfl
@[simp] theorem c293 : tyScalar Try.prog 293 = true := by kernel_rfl
@[simp] theorem z293 : tyZero Try.prog 293 = some (.nilFunc) := by kernel_rfl
@[simp] theorem s294 : tySize Try.prog 294 = some 1 := by kernel_rfl
@[simp] theorem b294 : tyBytes Try.prog 294 = some 8 := by kernel_rfl
@[simp] theorem a294 : tyAgg Try.prog 294 = false := by kernel_rfl
@[simp] theorem c294 : tyScalar Try.prog 294 = true := by kernel_rfl
@[simp] theorem z294 : tyZero Try.prog 294 = some (.nilFunc) := by kernel_rfl
@[simp] theorem s295 : tySize Try.prog 295 = some 1 := by kernel_rfl
@[simp] theorem b295 : tyBytes Try.prog 295 = some 8 := by kernel_rfl
@[simp] theorem a295 : tyAgg Try.prog 295 = false := by kernel_rfl
@[simp] theorem c295 : tyScalar Try.prog 295 = true := by kernel_rfl
@[simp] theorem z295 : tyZero Try.prog 295 = some (.nilFunc) := by kernel_rfl
@[simp] theorem s296 : tySize Try.prog 296 = some 1 := by kernel_rfl
@[simp] theorem b296 : tyBytes Try.prog 296 = some 8 := by kernel_rfl
@[simp] theorem a296 : tyAgg Try.prog 296 = false := by kernel_rfl
@[simp] theorem c296 : tyScalar Try.prog 296 = true := by kernel_rfl
@[simp] theorem z296 : tyZero Try.prog 296 = some (.nilFunc) := by kernel_rfl
@[simp] theorem s297 : tySize Try.prog 297 = some 1 := by kernel_rfl
@[simp] theorem b297 : tyBytes Try.prog 297 = some 8 := by kernel_rfl
@[simp] theorem a297 : tyAgg Try.prog 297 = false := by kernel_rfl
@[simp] theorem c297 : tyScalar Try.prog 297 = true := by kernel_rfl
@[simp] theorem z297 : tyZero Try.prog 297 = some (.nilFunc) := by kernel_rfl
@[simp] theorem s299 : tySize Try.prog 299 = some 1 := by kernel_rfl
@[simp] theorem b299 : tyBytes Try.prog 299 = some 8 := by kernel_rfl
@[simp] theorem a299 : tyAgg Try.prog 299 = false := by kernel_rfl
@[simp] theorem c299 : tyScalar Try.prog 299 = true := by kernel_rfl
@[simp] theorem z299 : tyZero Try.prog 299 = some (.nilFunc) := by kernel_rfl
@[simp] theorem s300 : tySize Try.prog 300 = some 1 := by kernel_rfl
@[simp] theorem b300 : tyBytes Try.prog 300 = some 8 := by kernel_rfl
@[simp] theorem a300 : tyAgg Try.prog 300 = false := by kernel_rfl
@[simp] theorem c300 : tyScalar Try.prog 300 = true := by kernel_rfl
@[simp] theorem z300 : tyZero Try.prog 300 = some (.nilFunc) := by kernel_rfl
@[simp] theorem s301 : tySize Try.prog 301 = some 1 := by kernel_rfl
@[simp] theorem b301 : tyBytes Try.prog 301 = some 8 := by kernel_rfl
@[simp] theorem a301 : tyAgg Try.prog 301 = false := by kernel_rfl
@[simp] theorem c301 : tyScalar Try.prog 301 = true := by kernel_rfl
@[simp] theorem z301 : tyZero Try.prog 301 = some (.nilFunc) := by kernel_rfl
@[simp] theorem s302 : tySize Try.prog 302 = some 1 := by kernel_rfl
@[simp] theorem b302 : tyBytes Try.prog 302 = some 8 := by kernel_rfl
@[simp] theorem a302 : tyAgg Try.prog 302 = false := by kernel_rfl
@[simp] theorem c302 : tyScalar Try.prog 302 = true := by kernel_rfl
@[simp] theorem z302 : tyZero Try.prog 302 = some (.int .u64 0) := by kernel_rfl
@[simp] theorem s303 : tySize Try.prog 303 = some 1 := by kernel_rfl
@[simp] theorem b303 : tyBytes Try.prog 303 = some 8 := by kernel_rfl
@[simp] theorem a303 : tyAgg Try.prog 303 = false := by kernel_rfl
@[simp] theorem c303 : tyScalar Try.prog 303 = true := by kernel_rfl
@[simp] theorem z303 : tyZero Try.prog 303 = some (.nilFunc) := by kernel_rfl
@[simp] theorem s304 : tySize Try.prog 304 = some 1 := by kernel_rfl
@[simp] theorem b304 : tyBytes Try.prog 304 = some 8 := by kernel_rfl
@[simp] theorem a304 : tyAgg Try.prog 304 = false := by kernel_rfl
@[simp] theorem c304 : tyScalar Try.prog 304 = true := by kernel_rfl
@[simp] theorem z304 : tyZero Try.prog 304 = some (.nilFunc) := by kernel_rfl
@[simp] theorem s305 : tySize Try.prog 305 = some 1 := by kernel_rfl
@[simp] theorem b305 : tyBytes Try.prog 305 = some 8 := by kernel_rfl
@[simp] theorem a305 : tyAgg Try.prog 305 = false := by kernel_rfl
@[simp] theorem c305 : tyScalar Try.prog 305 = true := by kernel_rfl
@[simp] theorem z305 : tyZero Try.prog 305 = some (.nilFunc) := by kernel_rfl
@[simp] theorem s306 : tySize Try.prog 306 = some 1 := by kernel_rfl
@[simp] theorem b306 : tyBytes Try.prog 306 = some 8 := by kernel_rfl
@[simp] theorem a306 : tyAgg Try.prog 306 = false := by kernel_rfl
@[simp] theorem c306 : tyScalar Try.prog 306 = true := by kernel_rfl
@[simp] theorem z306 : tyZero Try.prog 306 = some (.nilFunc) := by kernel_rfl
@[simp] theorem s307 : tySize Try.prog 307 = some 1 := by kernel_rfl
@[simp] theorem b307 : tyBytes Try.prog 307 = some 8 := by kernel_rfl
@[simp] theorem a307 : tyAgg Try.prog 307 = false := by kernel_rfl
@[simp] theorem c307 : tyScalar Try.prog 307 = true := by kernel_rfl
@[simp] theorem s308 : tySize Try.prog 308 = some 1 := by kernel_rfl
@[simp] theorem b308 : tyBytes Try.prog 308 = some 8 := by kernel_rfl
@[simp] theorem a308 : tyAgg Try.prog 308 = false := by kernel_rfl
@[simp] theorem c308 : tyScalar Try.prog 308 = true := by kernel_rfl
@[simp] theorem z308 : tyZero Try.prog 308 = some (.nilFunc) := by kernel_rfl
@[simp] theorem s309 : tySize Try.prog 309 = some 1 := by kernel_rfl
@[simp] theorem b309 : tyBytes Try.prog 309 = some 8 := by kernel_rfl
@[simp] theorem a309 : tyAgg Try.prog 309 = false := by kernel_rfl
@[simp] theorem c309 : tyScalar Try.prog 309 = true := by kernel_rfl
@[simp] theorem z309 : tyZero Try.prog 309 = some (.nilFunc) := by kernel_rfl
@[simp] theorem s310 : tySize Try.prog 310 = some 1 := by kernel_rfl
@[simp] theorem b310 : tyBytes Try.prog 310 = some 8 := by kernel_rfl
@[simp] theorem a310 : tyAgg Try.prog 310 = false := by kernel_rfl
@[simp] theorem c310 : tyScalar Try.prog 310 = true := by kernel_rfl
@[simp] theorem z310 : tyZero Try.prog 310 = some (.nilFunc) := by kernel_rfl
@[simp] theorem s311 : tySize Try.prog 311 = some 1 := by kernel_rfl
@[simp] theorem b311 : tyBytes Try.prog 311 = some 8 := by kernel_rfl
@[simp] theorem a311 : tyAgg Try.prog 311 = false := by kernel_rfl
@[simp] theorem c311 : tyScalar Try.prog 311 = true := by kernel_rfl
@[simp] theorem z311 : tyZero Try.prog 311 = some (.nilFunc) := by kernel_rfl
@[simp] theorem s312 : tySize Try.prog 312 = some 1 := by kernel_rfl
@[simp] theorem b312 : tyBytes Try.prog 312 = some 8 := by kernel_rfl
@[simp] theorem a312 : tyAgg Try.prog 312 = false := by kernel_rfl
@[simp] theorem c312 : tyScalar Try.prog 312 = true := by kernel_rfl
@[simp] theorem z312 : tyZero Try.prog 312 = some (.nilFunc) := by kernel_rfl
@[simp] theorem s313 : tySize Try.prog 313 = some 1 := by kernel_rfl
@[simp] theorem b313 : tyBytes Try.prog 313 = some 8 := by kernel_rfl
@[simp] theorem a313 : tyAgg Try.prog 313 = false := by kernel_rfl
@[simp] theorem c313 : tyScalar Try.prog 313 = true := by kernel_rfl
@[simp] theorem z313 : tyZero Try.prog 313 = some (.nilFunc) := by kernel_rfl
@[simp] theorem s314 : tySize Try.prog 314 = some 1 := by kernel_rfl
@[simp] theorem b314 : tyBytes Try.prog 314 = some 8 := by kernel_rfl
@[simp] theorem a314 : tyAgg Try.prog 314 = false := by kernel_rfl
@[simp] theorem c314 : tyScalar Try.prog 314 = true := by kernel_rfl
@[simp] theorem z314 : tyZero Try.prog 314 = some (.nilFunc) := by kernel_rfl
@[simp] theorem s315 : tySize Try.prog 315 = some 1 := by kernel_rfl
@[simp] theorem b315 : tyBytes Try.prog 315 = some 8 := by kernel_rfl
@[simp] theorem a315 : tyAgg Try.prog 315 = false := by kernel_rfl
@[simp] theorem c315 : tyScalar Try.prog 315 = true := by kernel_rfl
@[simp] theorem z315 : tyZero Try.prog 315 = some (.nilFunc) := by kernel_rfl
@[simp] theorem s316 : tySize Try.prog 316 = some 1 := by kernel_rfl
@[simp] theorem b316 : tyBytes Try.prog 316 = some 8 := by kernel_rfl
@[simp] theorem a316 : tyAgg Try.prog 316 = false := by kernel_rfl
@[simp] theorem c316 : tyScalar Try.prog 316 = true := by kernel_rfl
@[simp] theorem z316 : tyZero Try.prog 316 = some (.nilFunc) := by kernel_rfl
@[simp] theorem s317 : tySize Try.prog 317 = some 1 := by kernel_rfl
@[simp] theorem b317 : tyBytes Try.prog 317 = some 8 := by kernel_rfl
@[simp] theorem a317 : tyAgg Try.prog 317 = false := by kernel_rfl
@[simp] theorem c317 : tyScalar Try.prog 317 = true := by kernel_rfl
@[simp] theorem z317 : tyZero Try.prog 317 = some (.nilFunc) := by kernel_rfl
@[simp] theorem s318 : tySize Try.prog 318 = some 1 := by kernel_rfl
@[simp] theorem b318 : tyBytes Try.prog 318 = some 8 := by kernel_rfl
@[simp] theorem a318 : tyAgg Try.prog 318 = false := by kernel_rfl
@[simp] theorem c318 : tyScalar Try.prog 318 = true := by kernel_rfl
@[simp] theorem z318 : tyZero Try.prog 318 = some (.nilFunc) := by kernel_rfl
@[simp] theorem s319 : tySize Try.prog 319 = some 1 := by kernel_rfl
@[simp] theorem b319 : tyBytes Try.prog 319 = some 8 := by kernel_rfl
@[simp] theorem a319 : tyAgg Try.prog 319 = false := by kernel_rfl
@[simp] theorem c319 : tyScalar Try.prog 319 = true := by kernel_rfl
@[simp] theorem z319 : tyZero Try.prog 319 = some (.nilFunc) := by kernel_rfl
@[simp] theorem s320 : tySize Try.prog 320 = some 1 := by kernel_rfl
@[simp] theorem b320 : tyBytes Try.prog 320 = some 8 := by kernel_rfl
@[simp] theorem a320 : tyAgg Try.prog 320 = false := by kernel_rfl
@[simp] theorem c320 : tyScalar Try.prog 320 = true := by kernel_rfl
@[simp] theorem z320 : tyZero Try.prog 320 = some (.nilFunc) := by kernel_rfl
@[simp] theorem s321 : tySize Try.prog 321 = some 1 := by kernel_rfl
@[simp] theorem b321 : tyBytes Try.prog 321 = some 8 := by kernel_rfl
@[simp] theorem a321 : tyAgg Try.prog 321 = false := by kernel_rfl
@[simp] theorem c321 : tyScalar Try.prog 321 = true := by kernel_rfl
@[simp] theorem z321 : tyZero Try.prog 321 = some (.nilFunc) := by kernel_rfl
@[simp] theorem s323 : tySize Try.prog 323 = some 1 := by kernel_rfl
@[simp] theorem b323 : tyBytes Try.prog 323 = some 8 := by kernel_rfl
@[simp] theorem a323 : tyAgg Try.prog 323 = false := by kernel_rfl
@[simp] theorem c323 : tyScalar Try.prog 323 = true := by kernel_rfl
@[simp] theorem z323 : tyZero Try.prog 323 = some (.nilFunc) := by kernel_rfl
@[simp] theorem s324 : tySize Try.prog 324 = some 1 := by kernel_rfl
@[simp] theorem b324 : tyBytes Try.prog 324 = some 8 := by kernel_rfl
@[simp] theorem a324 : tyAgg Try.prog 324 = false := by kernel_rfl
@[simp] theorem c324 : tyScalar Try.prog 324 = true := by kernel_rfl
@[simp] theorem z324 : tyZero Try.prog 324 = some (.nilFunc) := by kernel_rfl
@[simp] theorem s325 : tySize Try.prog 325 = some 1 := by kernel_rfl
@[simp] theorem b325 : tyBytes Try.prog 325 = some 8 := by kernel_rfl
@[simp] theorem a325 : tyAgg Try.prog 325 = false := by kernel_rfl
@[simp] theorem c325 : tyScalar Try.prog 325 = true := by kernel_rfl
@[simp] theorem z325 : tyZero Try.prog 325 = some (.nilFunc) := by kernel_rfl
@[simp] theorem s326 : tySize Try.prog 326 = some 1 := by kernel_rfl
@[simp] theorem b326 : tyBytes Try.prog 326 = some 8 := by kernel_rfl
@[simp] theorem a326 : tyAgg Try.prog 326 = false := by kernel_rfl
@[simp] theorem c326 : tyScalar Try.prog 326 = true := by kernel_rfl
@[simp] theorem z326 : tyZero Try.prog 326 = some (.nilFunc) := by kernel_rfl
@[simp] theorem s327 : tySize Try.prog 327 = some 1 := by kernel_rfl
@[simp] theorem b327 : tyBytes Try.prog 327 = some 8 := by kernel_rfl
@[simp] theorem a327 : tyAgg Try.prog 327 = false := by kernel_rfl
@[simp] theorem c327 : tyScalar Try.prog 327 = true := by kernel_rfl
@[simp] theorem z327 : tyZero Try.prog 327 = some (.nilFunc) := by kernel_rfl
@[simp] theorem s328 : tySize Try.prog 328 = some 1 := by kernel_rfl
@[simp] theorem b328 : tyBytes Try.prog 328 = some 8 := by kernel_rfl
@[simp] theorem a328 : tyAgg Try.prog 328 = false := by kernel_rfl
@[simp] theorem c328 : tyScalar Try.prog 328 = true := by kernel_rfl
@[simp] theorem z328 : tyZero Try.prog 328 = some (.nilFunc) := by kernel_rfl
@[simp] theorem s329 : tySize Try.prog 329 = some 1 := by kernel_rfl
@[simp] theorem b329 : tyBytes Try.prog 329 = some 8 := by kernel_rfl
@[simp] theorem a329 : tyAgg Try.prog 329 = false := by kernel_rfl
@[simp] theorem c329 : tyScalar Try.prog 329 = true := by kernel_rfl
@[simp] theorem z329 : tyZero Try.prog 329 = some (.nilFunc) := by kernel_rfl
@[simp] theorem s330 : tySize Try.prog 330 = some 1 := by kernel_rfl
@[simp] theorem b330 : tyBytes Try.prog 330 = some 8 := by kernel_rfl
@[simp] theorem a330 : tyAgg Try.prog 330 = false := by kernel_rfl
@[simp] theorem c330 : tyScalar Try.prog 330 = true := by kernel_rfl
@[simp] theorem z330 : tyZero Try.prog 330 = some (.nilFunc) := by kernel_rfl
@[simp] theorem s331 : tySize Try.prog 331 = some 1 := by kernel_rfl
@[simp] theorem b331 : tyBytes Try.prog 331 = some 8 := by kernel_rfl
@[simp] theorem a331 : tyAgg Try.prog 331 = false := by kernel_rfl
@[simp] theorem c331 : tyScalar Try.prog 331 = true := by kernel_rfl
@[simp] theorem z331 : tyZero Try.prog 331 = some (.nilFunc) := by kernel_rfl
@[simp] theorem s332 : tySize Try.prog 332 = some 1 := by kernel_rfl
@[simp] theorem b332 : tyBytes Try.prog 332 = some 8 := by kernel_rfl
@[simp] theorem a332 : tyAgg Try.prog 332 = false := by kernel_rfl
@[simp] theorem c332 : tyScalar Try.prog 332 = true := by kernel_rfl
@[simp] theorem z332 : tyZero Try.prog 332 = some (.nilFunc) := by kernel_rfl
@[simp] theorem s333 : tySize Try.prog 333 = some 1 := by kernel_rfl
@[simp] theorem b333 : tyBytes Try.prog 333 = some 8 := by kernel_rfl
@[simp] theorem a333 : tyAgg Try.prog 333 = false := by kernel_rfl
@[simp] theorem c333 : tyScalar Try.prog 333 = true := by kernel_rfl
@[simp] theorem z333 : tyZero Try.prog 333 = some (.nilFunc) := by kernel_rfl
@[simp] theorem s334 : tySize Try.prog 334 = some 1 := by kernel_rfl
@[simp] theorem b334 : tyBytes Try.prog 334 = some 8 := by kernel_rfl
@[simp] theorem a334 : tyAgg Try.prog 334 = false := by kernel_rfl
@[simp] theorem c334 : tyScalar Try.prog 334 = true := by kernel_rfl
@[simp] theorem z334 : tyZero Try.prog 334 = some (.nilFunc) := by kernel_rfl
@[simp] theorem s335 : tySize Try.prog 335 = some 1 := by kernel_rfl
@[simp] theorem b335 : tyBytes Try.prog 335 = some 8 := by kernel_rfl
@[simp] theorem a335 : tyAgg Try.prog 335 = false := by kernel_rfl
@[simp] theorem c335 : tyScalar Try.prog 335 = true := by kernel_rfl
@[simp] theorem z335 : tyZero Try.prog 335 = some (.nilFunc) := by kernel_rfl
@[simp] theorem s336 : tySize Try.prog 336 = some 1 := by kernel_rfl
@[simp] theorem b336 : tyBytes Try.prog 336 = some 8 := by kernel_rfl
@[simp] theorem a336 : tyAgg Try.prog 336 = false := by kernel_rfl
@[simp] theorem c336 : tyScalar Try.prog 336 = true := by kernel_rfl
@[simp] theorem z336 : tyZero Try.prog 336 = some (.nilFunc) := by kernel_rfl
@[simp] theorem s337 : tySize Try.prog 337 = some 1 := by kernel_rfl
@[simp] theorem b337 : tyBytes Try.prog 337 = some 8 := by kernel_rfl
@[simp] theorem a337 : tyAgg Try.prog 337 = false := by kernel_rfl
@[simp] theorem c337 : tyScalar Try.prog 337 = true := by kernel_rfl
@[simp] theorem z337 : tyZero Try.prog 337 = some (.nilFunc) := by kernel_rfl
@[simp] theorem s338 : tySize Try.prog 338 = some 1 := by kernel_rfl
@[simp] theorem b338 : tyBytes Try.prog 338 = some 4 := by kernel_rfl
@[simp] theorem a338 : tyAgg Try.prog 338 = false := by kernel_rfl
@[simp] theorem c338 : tyScalar Try.prog 338 = true := by kernel_rfl
@[simp] theorem z338 : tyZero Try.prog 338 = some (.int .u32 0) := by kernel_rfl
@[simp] theorem s340 : tySize Try.prog 340 = some 1 := by kernel_rfl
@[simp] theorem b340 : tyBytes Try.prog 340 = some 8 := by kernel_rfl
@[simp] theorem a340 : tyAgg Try.prog 340 = false := by kernel_rfl
@[simp] theorem c340 : tyScalar Try.prog 340 = true := by kernel_rfl
@[simp] theorem z340 : tyZero Try.prog 340 = some (.nilFunc) := by kernel_rfl
@[simp] theorem s341 : tySize Try.prog 341 = some 1 := by kernel_rfl
@[simp] theorem b341 : tyBytes Try.prog 341 = some 8 := by kernel_rfl
@[simp] theorem a341 : tyAgg Try.prog 341 = false := by kernel_rfl
@[simp] theorem c341 : tyScalar Try.prog 341 = true := by kernel_rfl
@[simp] theorem z341 : tyZero Try.prog 341 = some (.nilFunc) := by kernel_rfl
@[simp] theorem s342 : tySize Try.prog 342 = some 4 := by kernel_rfl
@[simp] theorem b342 : tyBytes Try.prog 342 = some 40 := by kernel_rfl
@[simp] theorem a342 : tyAgg Try.prog 342 = true := by kernel_rfl
@[simp] theorem c342 : tyScalar Try.prog 342 = false := by kernel_rfl
@[simp] theorem z342 : tyZero Try.prog 342 = some (.agg [.nilp, .nilp, .nilp, .str []]) := by kernel_rfl
@[simp] theorem s343 : tySize Try.prog 343 = some 4 := by kernel_rfl
@[simp] theorem b343 : tyBytes Try.prog 343 = some 40 := by kernel_rfl
@[simp] theorem a343 : tyAgg Try.prog 343 = true := by kernel_rfl
@[simp] theorem c343 : tyScalar Try.prog 343 = false := by kernel_rfl
@[simp] theorem z343 : tyZero Try.prog 343 = some (.agg [.nilp, .nilp, .nilp, .str []]) := by kernel_rfl
@[simp] theorem s344 : tySize Try.prog 344 = some 0 := by kernel_rfl
@[simp] theorem b344 : tyBytes Try.prog 344 = some 0 := by kernel_rfl
@[simp] theorem a344 : tyAgg Try.prog 344 = true := by kernel_rfl
@[simp] theorem c344 : tyScalar Try.prog 344 = false := by kernel_rfl
@[simp] theorem z344 : tyZero Try.prog 344 = some (.agg []) := by kernel_rfl
@[simp] theorem s345 : tySize Try.prog 345 = some 0 := by kernel_rfl
@[simp] theorem b345 : tyBytes Try.prog 345 = some 0 := by kernel_rfl
@[simp] theorem a345 : tyAgg Try.prog 345 = true := by kernel_rfl
@[simp] theorem c345 : tyScalar Try.prog 345 = false := by kernel_rfl
@[simp] theorem z345 : tyZero Try.prog 345 = some (.agg []) := by kernel_rfl
@[simp] theorem s346 : tySize Try.prog 346 = some 0 := by kernel_rfl
@[simp] theorem b346 : tyBytes Try.prog 346 = some 0 := by kernel_rfl
@[simp] theorem a346 : tyAgg Try.prog 346 = true := by kernel_rfl
@[simp] theorem c346 : tyScalar Try.prog 346 = false := by kernel_rfl
@[simp] theorem z346 : tyZero Try.prog 346 = some (.agg []) := by kernel_rfl
@[simp] theorem s347 : tySize Try.prog 347 = some 1 := by kernel_rfl
@[simp] theorem b347 : tyBytes Try.prog 347 = some 1 := by kernel_rfl
@[simp] theorem a347 : tyAgg Try.prog 347 = false := by kernel_rfl
@[simp] theorem c347 : tyScalar Try.prog 347 = true := by kernel_rfl
@[simp] theorem z347 : tyZero Try.prog 347 = some (.int .u8 0) := by kernel_rfl
@[simp] theorem s348 : tySize Try.prog 348 = some 1 := by kernel_rfl
@[simp] theorem b348 : tyBytes Try.prog 348 = some 1 := by kernel_rfl
@[simp] theorem a348 : tyAgg Try.prog 348 = false := by kernel_rfl
@[simp] theorem c348 : tyScalar Try.prog 348 = true := by kernel_rfl
@[simp] theorem z348 : tyZero Try.prog 348 = some (.int .u8 0) := by kernel_rfl
@[simp] theorem s349 : tySize Try.prog 349 = some 1 := by kernel_rfl
@[simp] theorem b349 : tyBytes Try.prog 349 = some 8 := by kernel_rfl
@[simp] theorem a349 : tyAgg Try.prog 349 = false := by kernel_rfl
@[simp] theorem c349 : tyScalar Try.prog 349 = true := by kernel_rfl
@[simp] theorem z349 : tyZero Try.prog 349 = some (.nilFunc) := by kernel_rfl
@[simp] theorem s350 : tySize Try.prog 350 = some 1 := by kernel_rfl
@[simp] theorem b350 : tyBytes Try.prog 350 = some 8 := by kernel_rfl
@[simp] theorem a350 : tyAgg Try.prog 350 = false := by kernel_rfl
@[simp] theorem c350 : tyScalar Try.prog 350 = true := by kernel_rfl
@[simp] theorem z350 : tyZero Try.prog 350 = some (.nilp) := by kernel_rfl
@[simp] theorem s351 : tySize Try.prog 351 = some 1 := by kernel_rfl
@[simp] theorem b351 : tyBytes Try.prog 351 = some 4 := by kernel_rfl
@[simp] theorem a351 : tyAgg Try.prog 351 = false := by kernel_rfl
@[simp] theorem c351 : tyScalar Try.prog 351 = true := by kernel_rfl
@[simp] theorem z351 : tyZero Try.prog 351 = some (.int .i32 0) := by kernel_rfl
@[simp] theorem s352 : tySize Try.prog 352 = some 1 := by kernel_rfl
@[simp] theorem b352 : tyBytes Try.prog 352 = some 4 := by kernel_rfl
@[simp] theorem a352 : tyAgg Try.prog 352 = false := by kernel_rfl
@[simp] theorem c352 : tyScalar Try.prog 352 = true := by kernel_rfl
@[simp] theorem z352 : tyZero Try.prog 352 = some (.int .i32 0) := by kernel_rfl
@[simp] theorem s353 : tySize Try.prog 353 = some 11 := by kernel_rfl
@[simp] theorem b353 : tyBytes Try.prog 353 = some 48 := by kernel_rfl
@[simp] theorem a353 : tyAgg Try.prog 353 = true := by kernel_rfl
@[simp] theorem c353 : tyScalar Try.prog 353 = false := by kernel_rfl
@[simp] theorem z353 : tyZero Try.prog 353 = some (.agg [.int .u64 0, .int .u64 0, .int .u32 0, .int .u8 0, .int .u8 0, .int .u8 0, .int .u8 0, .nilFunc, .nilp, .int .i32 0, .int .i32 0]) := by kernel_rfl
@[simp] theorem s354 : tySize Try.prog 354 = some 11 := by kernel_rfl
@[simp] theorem b354 : tyBytes Try.prog 354 = some 48 := by kernel_rfl
@[simp] theorem a354 : tyAgg Try.prog 354 = true := by kernel_rfl
@[simp] theorem c354 : tyScalar Try.prog 354 = false := by kernel_rfl
@[simp] theorem z354 : tyZero Try.prog 354 = some (.agg [.int .u64 0, .int .u64 0, .int .u32 0, .int .u8 0, .int .u8 0, .int .u8 0, .int .u8 0, .nilFunc, .nilp, .int .i32 0, .int .i32 0]) := by kernel_rfl
@[simp] theorem s355 : tySize Try.prog 355 = some 1 := by kernel_rfl
@[simp] theorem b355 : tyBytes Try.prog 355 = some 8 := by kernel_rfl
@[simp] theorem a355 : tyAgg Try.prog 355 = false := by kernel_rfl
@[simp] theorem c355 : tyScalar Try.prog 355 = true := by kernel_rfl
@[simp] theorem z355 : tyZero Try.prog 355 = some (.nilFunc) := by kernel_rfl
@[simp] theorem s356 : tySize Try.prog 356 = some 1 := by kernel_rfl
@[simp] theorem b356 : tyBytes Try.prog 356 = some 8 := by kernel_rfl
@[simp] theorem a356 : tyAgg Try.prog 356 = false := by kernel_rfl
@[simp] theorem c356 : tyScalar Try.prog 356 = true := by kernel_rfl
@[simp] theorem z356 : tyZero Try.prog 356 = some (.nilFunc) := by kernel_rfl
@[simp] theorem s357 : tySize Try.prog 357 = some 1 := by kernel_rfl
@[simp] theorem b357 : tyBytes Try.prog 357 = some 8 := by kernel_rfl
@[simp] theorem a357 : tyAgg Try.prog 357 = false := by kernel_rfl
@[simp] theorem c357 : tyScalar Try.prog 357 = true := by kernel_rfl
@[simp] theorem z357 : tyZero Try.prog 357 = some (.nilFunc) := by kernel_rfl
@[simp] theorem s358 : tySize Try.prog 358 = some 1 := by kernel_rfl
@[simp] theorem b358 : tyBytes Try.prog 358 = some 8 := by kernel_rfl
@[simp] theorem a358 : tyAgg Try.prog 358 = false := by kernel_rfl
@[simp] theorem c358 : tyScalar Try.prog 358 = true := by kernel_rfl
@[simp] theorem z358 : tyZero Try.prog 358 = some (.nilFunc) := by kernel_rfl
@[simp] theorem s359 : tySize Try.prog 359 = some 1 := by kernel_rfl
@[simp] theorem b359 : tyBytes Try.prog 359 = some 8 := by kernel_rfl
@[simp] theorem a359 : tyAgg Try.prog 359 = false := by kernel_rfl
@[simp] theorem c359 : tyScalar Try.prog 359 = true := by kernel_rfl
@[simp] theorem z359 : tyZero Try.prog 359 = some (.nilFunc) := by kernel_rfl
@[simp] theorem s360 : tySize Try.prog 360 = some 1 := by kernel_rfl
@[simp] theorem b360 : tyBytes Try.prog 360 = some 8 := by kernel_rfl
@[simp] theorem a360 : tyAgg Try.prog 360 = false := by kernel_rfl
@[simp] theorem c360 : tyScalar Try.prog 360 = true := by kernel_rfl
@[simp] theorem z360 : tyZero Try.prog 360 = some (.nilFunc) := by kernel_rfl
@[simp] theorem s361 : tySize Try.prog 361 = some 1 := by kernel_rfl
@[simp] theorem b361 : tyBytes Try.prog 361 = some 8 := by kernel_rfl
@[simp] theorem a361 : tyAgg Try.prog 361 = false := by kernel_rfl
@[simp] theorem c361 : tyScalar Try.prog 361 = true := by kernel_rfl
@[simp] theorem z361 : tyZero Try.prog 361 = some (.nilFunc) := by kernel_rfl
end Go.Proofs.Ytpfdfilkhaoibaa.Ty

/-
  The seat's functions, as the evaluator takes them.
-/
namespace Go.Proofs.Ytpfdfilkhaoibaa
open Go Ev
def pures : List Nat := [3, 4, 5, 6, 7, 8, 9, 10, 11, 12, 13, 14, 16, 17, 18, 19, 20, 21, 22, 27, 31, 32, 35, 36, 37, 39, 42, 43, 44, 45, 46, 47, 48, 49, 50, 51, 52, 53, 54, 58, 60, 77, 78, 80, 81, 82, 84, 85, 86, 87, 88, 89, 90, 91, 92, 93, 94, 95, 96, 97, 98, 99, 100, 101, 102, 103, 112, 119, 125, 127, 129, 131, 132, 133, 136, 137, 139, 140, 141, 142, 143, 144, 145, 146, 147, 148, 149, 150, 151, 153, 154, 161, 163, 169, 174, 175, 176, 177, 178, 179, 180, 181, 182, 183, 184, 185, 186, 189, 191, 193, 194, 195, 203, 204, 209, 211, 212, 213, 214, 216, 217, 225, 227, 228, 237, 238, 239, 263, 264, 265, 266, 267]
def impures : List Nat := [23, 24, 25, 26, 29, 30, 33, 34, 40, 55, 56, 57, 59, 61, 62, 64, 65, 67, 74, 75, 76, 79, 104, 109, 110, 111, 113, 130, 134, 152, 157, 160, 162, 188, 190, 196, 197, 259, 261, 262, 269]
/-- slices.Clone of a list whose elements have n cells. -/
def cloneA (n : Nat) : List AV → Option AV
  | [.list xs _ _ _] => if headOk n xs = true ∧ xs.length ≤ 268435456 then some (.L (stripL xs)) else none
  | _ => none
noncomputable def cfg : Cfg where
  P := Try.prog
  mode := fun f => if pures.contains f then .pure else if impures.contains f then .impure else .no
  prim := fun f => if f = 106 then some (cloneA 2) else if f = 107 then some (cloneA 1) else if f = 108 then some (cloneA 2) else none
  hprim := fun f => if f = 105 then some (insertA 9 136) else none
@[simp] theorem cfgP : cfg.P = Try.prog := rfl
@[simp] theorem cfgA : cfg.arr = false := rfl
abbrev S := List UInt8
end Go.Proofs.Ytpfdfilkhaoibaa

/-
  Octets; replies, as the evaluator holds them.
-/
namespace Go.Proofs.Ytpfdfilkhaoibaa
open Go Ev
set_option linter.unusedVariables false
set_option linter.unusedSimpArgs false
set_option maxRecDepth 10000
theorem bytesOf_ofBytes : ∀ s : S, bytesOf (ofBytes s) = some s
  | [] => rfl
  | b :: s => by
    have ih := bytesOf_ofBytes s
    simp only [ofBytes, List.map_cons] at ih ⊢
    simp only [bytesOf, ih, Option.map_some]
    simp
theorem ofBytes_length (s : S) : (ofBytes s).length = s.length := by simp [ofBytes]
set_option maxHeartbeats 2000000 in
theorem headOk_bytes (s : S) : headOk 1 (ofBytes s) = true := by cases s <;> rfl
theorem ofBytes_append (a b : S) : ofBytes (a ++ b) = ofBytes a ++ ofBytes b := by simp [ofBytes]
theorem ofBytes_ne {a : S} (h : a ≠ []) : ofBytes a ≠ [] := by cases a <;> simp_all [ofBytes]
@[simp] theorem cleanL_bytes (n : Nat) (s : S) : cleanL n (ofBytes s) = true := by
  unfold ofBytes
  exact cleanL_map n (fun b : UInt8 => AV.int .u8 (b.toNat : Int)) (fun _ => clean_int _ _ _) s
@[simp] theorem stripL_bytes (s : S) : stripL (ofBytes s) = ofBytes s := stripL_map _ (fun b : UInt8 => strip_int .u8 (b.toNat : Int)) s
/-- A reply. -/
inductive R where
  | mk (k : Int) (s : S) (n : Int) (l : List R)
mutual
def aR : R → AV
  | .mk k s n l => .agg [.int .i64 k, .str s, .int .i64 n, .L (aRs l)]
def aRs : List R → List AV
  | [] => []
  | r :: l => aR r :: aRs l
end
mutual
def sameR : R → R → Bool
  | .mk k s n l, .mk k' s' n' l' => k == k' && s == s' && n == n' && sameRs l l'
def sameRs : List R → List R → Bool
  | [], [] => true
  | a :: l, b :: l' => sameR a b && sameRs l l'
  | _, _ => false
end
theorem aRs_map : ∀ l : List R, aRs l = l.map aR
  | [] => by simp only [aRs, List.map_nil]
  | r :: l => by simp only [aRs, List.map_cons, aRs_map l]
mutual
theorem strip_aR : ∀ r : R, (aR r).strip = aR r
  | .mk k s n l => by simp only [aR, strip_agg, stripL_cons, strip_int, strip_str, strip_list, stripL_nil, stripL_aRs l]
theorem stripL_aRs : ∀ l : List R, stripL (aRs l) = aRs l
  | [] => by simp only [aRs, stripL_nil]
  | r :: l => by simp only [aRs, stripL_cons, strip_aR r, stripL_aRs l]
end
mutual
theorem clean_aR (m : Nat) : ∀ r : R, (aR r).clean m = true
  | .mk k s n l => by simp only [aR, clean_agg, cleanL_cons, clean_int, clean_str, clean_list, cleanL_nil, cleanL_aRs m l, Bool.and_self]
theorem cleanL_aRs (m : Nat) : ∀ l : List R, cleanL m (aRs l) = true
  | [] => by simp only [aRs, cleanL_nil]
  | r :: l => by simp only [aRs, cleanL_cons, clean_aR m r, cleanL_aRs m l, Bool.and_self]
end
attribute [simp] strip_aR stripL_aRs clean_aR cleanL_aRs
@[simp] theorem aRs_length (l : List R) : (aRs l).length = l.length := by rw [aRs_map, List.length_map]
theorem aRs_get (l : List R) (i : Nat) (h : i < l.length) : (aRs l)[i]? = some (aR l[i]) := by rw [aRs_map]; simp [h]
@[simp] theorem aRs_getElem (l : List R) (i : Nat) (h : i < (aRs l).length) : (aRs l)[i] = aR (l[i]'(by simpa using h)) := by simp only [aRs_map, List.getElem_map]
theorem aR_agg (r : R) : ∃ cs, aR r = .agg cs ∧ cs.length = 4 ∧ stripL cs = cs := by
  cases r with
  | mk k s n l => exact ⟨_, rfl, rfl, by simp⟩
@[simp] theorem aR_len (r : R) : (aR r).cells.length = 4 := by cases r; rfl
@[simp] theorem headOk_aRs : ∀ l : List R, headOk 4 (aRs l) = true
  | [] => rfl
  | r :: l => by simp only [aRs, headOk, aR_len, beq_self_eq_true]
def rs (l : List R) : AV := .L (aRs l)
@[simp] theorem strip_rs (l : List R) : (rs l).strip = rs l := by simp [rs]
@[simp] theorem clean_rs (n : Nat) (l : List R) : (rs l).clean n = true := by simp [rs]

def R.kind : R → Int | .mk k _ _ _ => k
def R.s : R → S | .mk _ s _ _ => s
def R.n : R → Int | .mk _ _ n _ => n
def R.l : R → List R | .mk _ _ _ l => l
theorem aR_eq (r : R) : aR r = .agg [.int .i64 r.kind, .str r.s, .int .i64 r.n, .L (r.l.map aR)] := by
  cases r with
  | mk k s n l => rw [aR, aRs_map]; rfl
@[simp] theorem strip_mapR (l : List R) : stripL (l.map aR) = l.map aR := stripL_map _ strip_aR l
@[simp] theorem clean_mapR (n : Nat) (l : List R) : cleanL n (l.map aR) = true := cleanL_map n _ (clean_aR n) l
@[simp] theorem head_mapR (l : List R) : headOk 4 (l.map aR) = true := by rw [← aRs_map]; exact headOk_aRs l
@[simp] theorem R.kind_mk (k s n l) : (R.mk k s n l).kind = k := rfl
@[simp] theorem R.s_mk (k s n l) : (R.mk k s n l).s = s := rfl
@[simp] theorem R.n_mk (k s n l) : (R.mk k s n l).n = n := rfl
@[simp] theorem R.l_mk (k s n l) : (R.mk k s n l).l = l := rfl
theorem eta_R (r : R) : R.mk r.kind r.s r.n r.l = r := by cases r; rfl
end Go.Proofs.Ytpfdfilkhaoibaa

/-
  num.Print: a number's text.
-/
namespace Go.Proofs.Ytpfdfilkhaoibaa
open Go Ev
set_option linter.unusedVariables false
set_option linter.unusedSimpArgs false
set_option maxRecDepth 10000
/-- Decimal digits. -/
def digs (n : Nat) : S := if n < 10 then [UInt8.ofNat (48 + n)] else digs (n / 10) ++ [UInt8.ofNat (48 + n % 10)]
termination_by n
decreasing_by omega
def decS (n : Int) : S := if n < 0 then 45 :: digs n.natAbs else digs n.natAbs
theorem digs_length : ∀ (k n : Nat), 0 < k → n < 10 ^ k → (digs n).length ≤ k
  | 0, _, h, _ => by omega
  | k + 1, n, _, h => by
    rw [digs]
    split
    · simp
    · rename_i hn
      have hk : 0 < k := by
        rcases Nat.eq_zero_or_pos k with e | e
        · subst e; simp at h; omega
        · exact e
      have := digs_length k (n / 10) hk (by rw [Nat.pow_succ] at h; omega)
      simp only [List.length_append, List.length_cons, List.length_nil]
      omega
theorem digs_pos (n : Nat) : 0 < (digs n).length := by rw [digs]; split <;> simp
theorem tmod10 (a : Int) : a.tmod 10 = (if a < 0 then -((a.natAbs % 10 : Nat) : Int) else ((a.natAbs % 10 : Nat) : Int)) := by
  cases a with
  | ofNat m => rw [if_neg (by simp)]; rfl
  | negSucc m => rw [if_pos (Int.negSucc_lt_zero m)]; rfl
theorem tdiv10 (a : Int) : (a.tdiv 10).natAbs = a.natAbs / 10 := by rw [Int.natAbs_tdiv]; rfl
theorem wrap_u8 (n : Nat) (h : n < 256) : IntKind.wrap .u8 (n : Int) = n := by simp [IntKind.wrap, IntKind.bits, IntKind.signed]; omega
end Go.Proofs.Ytpfdfilkhaoibaa

/-
  num.Print: the run.
-/
namespace Go.Proofs.Ytpfdfilkhaoibaa
open Go Ev
set_option linter.unusedVariables false
set_option linter.unusedSimpArgs false
set_option maxRecDepth 10000
theorem digs_step (n : Nat) (h : ¬ n < 10) : digs n = digs (n / 10) ++ [UInt8.ofNat (48 + n % 10)] := by rw [digs, if_neg h]
theorem digs_last (n : Nat) (h : n < 10) : digs n = [UInt8.ofNat (48 + n % 10)] := by rw [digs, if_pos h, Nat.mod_eq_of_lt h]
theorem drop_splice (c : List AV) (i : Nat) (v : AV) (h : i < c.length) : (splice c i [v]).drop i = v :: c.drop (i + 1) := by
  unfold splice
  rw [List.append_assoc, List.drop_append_of_le_length (by simp; omega), List.drop_of_length_le (by simp; omega)]
  simp
theorem splice_length1 (c : List AV) (i : Nat) (v : AV) (h : i < c.length) : (splice c i [v]).length = c.length := by
  unfold splice; simp; omega
theorem byte48 (d : Nat) (h : d < 10) : AV.int .u8 ((UInt8.ofNat (48 + d)).toNat : Int) = AV.int .u8 (48 + (d : Int)) := by
  congr 1
  simp only [UInt8.toNat_ofNat']
  omega
set_option maxHeartbeats 2000000 in
theorem print_fin (n : Int) (fr : List AV) (c : List AV) (j : Nat) (hl : fr.length = 38) (g0 : slotAt fr 0 = some (.int .i64 n)) (g3 : slotAt fr 3 = some (.ptr 0 0)) (g4 : slotAt fr 4 = some (.int .i64 (j : Nat))) (hc : c.length = 20) (hs : c.drop j = ofBytes (digs n.natAbs)) (hj : 1 ≤ j) (hj' : j < 20) :
    Ev cfg 0 ((Try.f129.body.get rfl) |> fun c => match c with | .seq _ (.seq _ (.seq _ (.seq _ d))) => d | _ => .skip) ⟨fr, [.cells c], false⟩ (Done cfg Try.f129 (.str (decS n))) := by
  have last : ∀ (fr : List AV) (c : List AV) (i : Nat), fr.length = 38 → slotAt fr 3 = some (.ptr 0 0) → slotAt fr 4 = some (.int .i64 (i : Nat)) → c.length = 20 → i < 20 → c.drop i = ofBytes (decS n) →
      Ev cfg 0 ((Try.f129.body.get rfl) |> fun c => match c with | .seq _ (.seq _ (.seq _ (.seq _ (.seq _ d)))) => d | _ => .skip) ⟨fr, [.cells c], false⟩ (Done cfg Try.f129 (.str (decS n))) := by
    intro fr c i hl g3 g4 hc hi hs
    have htake : (c.drop i).take (20 - i) = ofBytes (decS n) := by rw [List.take_of_length_le (by simp [hc]), hs]
    refine Ev.seq (Ev.region ?_)
    apply EvOps.run
    · intro call; simp [hl, g3, g4, sliceA, show (i : Int) ≤ 20 by omega, show ¬ (20 = i) by omega, show i + (20 - i) ≤ c.length by omega, htake, bytesOf_ofBytes]; exact rfl
    exact Ev.ret ⟨_, by simp [Try.f129, hl]; rfl, by simp⟩
  refine Ev.seq (Ev.seq (Ev.region ?_))
  by_cases hn : n < 0
  · obtain ⟨i, rfl⟩ : ∃ i, j = i + 1 := ⟨j - 1, by omega⟩
    apply EvOps.run
    · intro call; simp [hl, g0, hn]; exact rfl
    refine Ev.cond true (by simp [hl]) (fun _ => ?_) (fun h => by simp at h)
    refine Ev.seq (Ev.region ?_)
    apply EvOps.run
    · intro call; simp [hl, g4, wrap_int (i : Int) (by omega) (by omega)]; exact rfl
    refine Ev.region ?_
    apply EvOps.run
    · intro call; simp [hl, g3, show ((i : Int) < 20) by omega, show i + 1 ≤ c.length by omega]; exact rfl
    refine last _ _ i (by simp [hl]) (by simp [g3]) (by simp [hl]) (by rw [splice_length1 _ _ _ (by omega)]; exact hc) (by omega) ?_
    rw [drop_splice _ _ _ (by omega), hs, decS, if_pos hn]
    rfl
  · apply EvOps.run
    · intro call; simp [hl, g0, hn]; exact rfl
    refine Ev.cond false (by simp [hl]) (fun h => by simp at h) (fun _ => Ev.skip ?_)
    exact last _ c j (by simp [hl]) (by simp [g3]) (by simp [g4]) hc hj' (by rw [hs, decS, if_neg hn])
set_option maxHeartbeats 2000000 in
theorem print_ok (n : Int) (h0 : -(2 ^ 63) ≤ n) (h1 : n < 2 ^ 63) : Ret cfg 129 [.int .i64 n] (.str (decS n)) := by
  refine Ret.of_body rfl rfl Try.func129 rfl (by simp) (by simp) ?_
  refine Ev.seq (Ev.region ?_)
  apply EvOps.run
  · intro call; simp [Try.f129]; exact rfl
  refine Ev.seq (Ev.region ?_)
  apply EvOps.run
  · intro call; simp; exact rfl
  refine Ev.seq (Ev.region ?_)
  apply EvOps.run
  · intro call; simp; exact rfl
  refine Ev.seq (Ev.seq (Ev.region ?_))
  apply EvOps.run
  · intro call; simp; exact rfl
  refine Ev.block ?_
  refine Ev.loop (fun m st => ∃ fr c left at_ suf, st = ⟨fr, [.cells c], false⟩ ∧ fr.length = 38 ∧ slotAt fr 0 = some (.int .i64 n) ∧ slotAt fr 3 = some (.ptr 0 0) ∧ slotAt fr 4 = some (.int .i64 (at_ : Nat)) ∧ slotAt fr 5 = some (.int .i64 left) ∧ c.length = 20 ∧ c.drop at_ = ofBytes suf ∧ digs n.natAbs = digs left.natAbs ++ suf ∧ at_ + suf.length = 20 ∧ (digs left.natAbs).length + suf.length ≤ 19 ∧ -(2 ^ 63) ≤ left ∧ left < 2 ^ 63 ∧ m = left.natAbs) ?_ n.natAbs _ ?_
  · rintro m st ⟨fr, c, left, at_, suf, rfl, hl, g0, g3, g4, g5, hc, hsuf, hdig, hat, hlen, hl0, hl1, rfl⟩
    have hpos := digs_pos left.natAbs
    refine Ev.seq (Ev.block (Ev.seq (Ev.region ?_)))
    have hd10 : left.natAbs % 10 < 10 := Nat.mod_lt _ (by omega)
    apply EvOps.keep (h' := [.cells c]) (d' := false) (fun fr => fr.length = 38 ∧ slotAt fr 0 = some (.int .i64 n) ∧ slotAt fr 3 = some (.ptr 0 0) ∧ slotAt fr 4 = some (.int .i64 (at_ : Nat)) ∧ slotAt fr 5 = some (.int .i64 left) ∧ slotAt fr 6 = some (.int .i64 (left.tmod 10)))
    · intro call; simp [hl, g5]; exact rfl
    · exact ⟨by simp [hl], by simp [g0], by simp [g3], by simp [g4], by simp [g5], by simp [hl]⟩
    clear hl g0 g3 g4 g5 fr
    rintro fr ⟨hl, g0, g3, g4, g5, g6⟩
    obtain ⟨D, hD⟩ : ∃ D, D = left.natAbs % 10 := ⟨_, rfl⟩
    obtain ⟨j, rfl⟩ : ∃ j, at_ = j + 1 := ⟨at_ - 1, by omega⟩
    rw [tmod10, ← hD] at g6
    rw [← hD] at hd10
    -- behind the sign of the digit
    have rest : ∀ fr : List AV, fr.length = 38 → slotAt fr 0 = some (.int .i64 n) → slotAt fr 3 = some (.ptr 0 0) → slotAt fr 4 = some (.int .i64 ((j + 1 : Nat) : Int)) → slotAt fr 5 = some (.int .i64 left) → slotAt fr 6 = some (.int .i64 (D : Nat)) →
        Ev cfg 0 ((Try.f129.body.get rfl) |> fun c => match c with | .seq _ (.seq _ (.seq _ (.seq (.seq _ (.block _ (.loop (.seq (.block _ (.seq _ (.seq _ d))) _)))) _))) => d | _ => .skip) ⟨fr, [.cells c], false⟩ (fun x s => ∃ fr', s = ⟨fr', [.cells (splice c j [.int .u8 (48 + (D : Int))])], false⟩ ∧ fr'.length = 38 ∧ slotAt fr' 0 = some (.int .i64 n) ∧ slotAt fr' 3 = some (.ptr 0 0) ∧ slotAt fr' 4 = some (.int .i64 (j : Nat)) ∧ slotAt fr' 5 = some (.int .i64 left) ∧ ((x = .exit 0 ∧ left.natAbs < 10) ∨ (x = .normal ∧ ¬ left.natAbs < 10))) := by
      intro fr hl g0 g3 g4 g5 g6
      refine Ev.seq (Ev.region ?_)
      apply EvOps.run
      · intro call; simp [hl, g4, wrap_int (j : Int) (by omega) (by omega)]; exact rfl
      refine Ev.seq (Ev.region ?_)
      apply EvOps.run
      · intro call; simp [hl, g3, g6, wrap_int (48 + (D : Int)) (by omega) (by omega), show ((j : Int) < 20) by omega, show j + 1 ≤ c.length by omega]; exact rfl
      have hu8 : IntKind.wrap .u8 (48 + (D : Int)) = 48 + (D : Int) := by have := wrap_u8 (48 + D) (by omega); simpa using this
      refine Ev.seq (Ev.region ?_)
      by_cases b1 : (-10 : Int) < left
      · by_cases b2 : left < 10
        · apply EvOps.run
          · intro call; simp [hl, g5, b1, b2]; exact rfl
          refine Ev.cond true (by simp [hl]) (fun _ => Ev.exit ?_) (fun h => by simp at h)
          exact ⟨_, by rw [hu8], by simp [hl], by simp [g0], by simp [g3], by simp [hl], by simp [g5], .inl ⟨rfl, by omega⟩⟩
        · apply EvOps.run
          · intro call; simp [hl, g5, b1, b2]; exact rfl
          refine Ev.cond false (by simp [hl]) (fun h => by simp at h) (fun _ => Ev.skip ?_)
          exact ⟨_, by rw [hu8], by simp [hl], by simp [g0], by simp [g3], by simp [hl], by simp [g5], .inr ⟨rfl, by omega⟩⟩
      · apply EvOps.run
        · intro call; simp [hl, g5, b1]; exact rfl
        refine Ev.cond false (by simp [hl]) (fun h => by simp at h) (fun _ => Ev.skip ?_)
        exact ⟨_, by rw [hu8], by simp [hl], by simp [g0], by simp [g3], by simp [hl], by simp [g5], .inr ⟨rfl, by omega⟩⟩
    have hcl : (splice c j [.int .u8 (48 + (D : Int))]).length = 20 := by rw [splice_length1 _ _ _ (by omega)]; exact hc
    have hdrop : (splice c j [.int .u8 (48 + (D : Int))]).drop j = ofBytes (UInt8.ofNat (48 + D) :: suf) := by
      rw [drop_splice _ _ _ (by omega), hsuf, ← byte48 D hd10]
      rfl
    refine Ev.seq (Ev.seq (Ev.region ?_))
    have hb : (left.tdiv 10).natAbs < 2 ^ 60 := by rw [tdiv10]; omega
    by_cases hneg : left < 0 ∧ D ≠ 0
    · rw [if_pos hneg.1] at g6
      apply EvOps.run
      · intro call; simp [hl, g6, show (-(D : Int) < 0) by omega]; exact rfl
      refine Ev.cond true (by simp [hl]; omega) (fun _ => ?_) (fun h => by simp at h)
      refine Ev.region ?_
      apply EvOps.run
      · intro call; simp [hl, g6, wrap_int (D : Int) (by omega) (by omega)]; exact rfl
      refine (rest _ (by simp [hl]) (by simp [g0]) (by simp [g3]) (by simp [g4]) (by simp [g5]) (by simp [hl])).mono ?_
      rintro x s ⟨fr', rfl, k1, k2, k3, k4, k5, ⟨rfl, hlt⟩ | ⟨rfl, hge⟩⟩
      · refine print_fin n fr' _ j k1 k2 k3 k4 hcl ?_ (by simp only [digs_last _ hlt, List.length_cons, List.length_nil] at hlen; omega) (by omega)
        rw [hdrop, hdig, digs_last _ hlt, hD]
        rfl
      · have hstep := digs_step _ hge
        refine Ev.region ?_
        apply EvOps.run
        · intro call; simp [k1, k5, wrap_int (left.tdiv 10) (by omega) (by omega)]; exact rfl
        refine ⟨(left.tdiv 10).natAbs, by rw [tdiv10]; omega, _, _, left.tdiv 10, j, UInt8.ofNat (48 + D) :: suf, rfl, by simp [k1], by simp [k2], by simp [k3], by simp [k4], by simp [k1], hcl, hdrop, ?_, by simp only [List.length_cons]; omega, ?_, by omega, by omega, rfl⟩
        · rw [hdig, hstep, tdiv10, hD, List.append_assoc]; rfl
        · rw [hstep, List.length_append] at hlen; rw [tdiv10]; simp only [List.length_cons, List.length_nil] at hlen ⊢; omega
    · have g6' : slotAt fr 6 = some (.int .i64 (D : Nat)) := by
        rw [g6]
        split
        · rename_i h
          have : D = 0 := Classical.byContradiction fun hd => hneg ⟨h, hd⟩
          subst this; rfl
        · rfl
      apply EvOps.run
      · intro call; simp [hl, g6']; exact rfl
      refine Ev.cond false (by simp [hl] <;> omega) (fun h => by simp at h) (fun _ => Ev.skip ?_)
      refine (rest _ (by simp [hl]) (by simp [g0]) (by simp [g3]) (by simp [g4]) (by simp [g5]) (by simp [g6'])).mono ?_
      rintro x s ⟨fr', rfl, k1, k2, k3, k4, k5, ⟨rfl, hlt⟩ | ⟨rfl, hge⟩⟩
      · refine print_fin n fr' _ j k1 k2 k3 k4 hcl ?_ (by simp only [digs_last _ hlt, List.length_cons, List.length_nil] at hlen; omega) (by omega)
        rw [hdrop, hdig, digs_last _ hlt, hD]
        rfl
      · have hstep := digs_step _ hge
        refine Ev.region ?_
        apply EvOps.run
        · intro call; simp [k1, k5, wrap_int (left.tdiv 10) (by omega) (by omega)]; exact rfl
        refine ⟨(left.tdiv 10).natAbs, by rw [tdiv10]; omega, _, _, left.tdiv 10, j, UInt8.ofNat (48 + D) :: suf, rfl, by simp [k1], by simp [k2], by simp [k3], by simp [k4], by simp [k1], hcl, hdrop, ?_, by simp only [List.length_cons]; omega, ?_, by omega, by omega, rfl⟩
        · rw [hdig, hstep, tdiv10, hD, List.append_assoc]; rfl
        · rw [hstep, List.length_append] at hlen; rw [tdiv10]; simp only [List.length_cons, List.length_nil] at hlen ⊢; omega
  · exact ⟨_, _, n, 20, [], rfl, by simp, by simp, by simp, by simp, by simp, by simp, by simp [ofBytes], by simp, by simp, by have := digs_length 19 n.natAbs (by omega) (by omega); simpa using this, h0, h1, rfl⟩
end Go.Proofs.Ytpfdfilkhaoibaa

/-
  Functions proved by hand, in the form that the printer of walks asks for.
-/
namespace Go.Proofs.Ytpfdfilkhaoibaa
open Go Ev
set_option linter.unusedVariables false
set_option linter.unusedSimpArgs false
set_option maxRecDepth 100000
theorem awake20_ok : Ret cfg 8 [] (.bool true) := by
  have he : (evalF cfg 60 8 [] []).map (fun x => x.1) = some (.bool true) := by kernel_rfl
  obtain ⟨⟨v, h, d⟩, he, hv⟩ := Option.map_eq_some_iff.1 he
  simp only at hv
  subst hv
  exact Ret.of_eval rfl rfl (by simp) (by simp) he (by simp)
def F8 (k : Nat) : Option Bool := some true
theorem F8_ok {k : Nat} {r : Bool} (h : F8 k = some r) : Ret cfg 8 [] (.bool r) := by
  simp only [F8, Option.some.injEq] at h
  subst h
  exact awake20_ok
def F129 (k : Nat) (n : Int) : Option S := if -(2 ^ 63) ≤ n ∧ n < 2 ^ 63 then some (decS n) else none
theorem F129_ok {k : Nat} {n : Int} {r : S} (h : F129 k n = some r) : Ret cfg 129 [.int .i64 n] (.str r) := by
  unfold F129 at h
  split at h
  · rename_i hb
    simp only [Option.some.injEq] at h
    rw [← h]; exact print_ok n hb.1 hb.2
  · cases h
end Go.Proofs.Ytpfdfilkhaoibaa
