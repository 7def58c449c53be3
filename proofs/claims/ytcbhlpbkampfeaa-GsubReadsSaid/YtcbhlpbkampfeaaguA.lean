import Derived.Test.YtcbhlpbkampfeaaA21
import Derived.Test.YtcbhlpbkampfeaaProg
/- Part of a proof. -/
set_option maxRecDepth 100000
set_option maxHeartbeats 4000000
namespace Go.Proofs.Ytcbhlpbkampfeaa.AI
abbrev cE (f : Func) (h : {c // f.body.bind (comp Try.prog) = some c} := by exact ⟨_, by conv => lhs; cbv⟩) : ACode := h.1
attribute [go_sem] cE
noncomputable def A3 := cE Try.f3
theorem a3 : Try.f3.body.bind (comp Try.prog) = some A3 := by kernel_rfl
theorem r3 : Xj Try.prog Try.f3.results.toList = some [.tmp 6] := by kernel_rfl
theorem n3 : NG Try.f3 := by decide +kernel
noncomputable def A4 := cE Try.f4
theorem a4 : Try.f4.body.bind (comp Try.prog) = some A4 := by kernel_rfl
theorem r4 : Xj Try.prog Try.f4.results.toList = some [.tmp 0] := by kernel_rfl
theorem n4 : NG Try.f4 := by decide +kernel
noncomputable def E4 : Nat × ACode × Nat × List RV := (4, A4, 41, [.tmp 0])
theorem e4 : Xu Try.prog E4 := ⟨Try.f4, Try.func4, n4, a4, Try.ntmps4, r4⟩
noncomputable def A5 := cE Try.f5
theorem a5 : Try.f5.body.bind (comp Try.prog) = some A5 := by kernel_rfl
theorem r5 : Xj Try.prog Try.f5.results.toList = some [.cell 6 16 true, .cell 7 1 false] := by kernel_rfl
theorem n5 : NG Try.f5 := by decide +kernel
noncomputable def E5 : Nat × ACode × Nat × List RV := (5, A5, 13, [.cell 6 16 true, .cell 7 1 false])
theorem e5 : Xu Try.prog E5 := ⟨Try.f5, Try.func5, n5, a5, Try.ntmps5, r5⟩
noncomputable def A6 := cE Try.f6
theorem a6 : Try.f6.body.bind (comp Try.prog) = some A6 := by kernel_rfl
theorem r6 : Xj Try.prog Try.f6.results.toList = some [.cell 6 16 true, .tmp 7] := by kernel_rfl
theorem n6 : NG Try.f6 := by decide +kernel
noncomputable def A7 := cE Try.f7
theorem a7 : Try.f7.body.bind (comp Try.prog) = some A7 := by kernel_rfl
theorem r7 : Xj Try.prog Try.f7.results.toList = some [.tmp 4] := by kernel_rfl
theorem n7 : NG Try.f7 := by decide +kernel
noncomputable def A8 := cE Try.f8
theorem a8 : Try.f8.body.bind (comp Try.prog) = some A8 := by kernel_rfl
theorem r8 : Xj Try.prog Try.f8.results.toList = some [.tmp 2] := by kernel_rfl
theorem n8 : NG Try.f8 := by decide +kernel
noncomputable def A9 := cE Try.f9
theorem a9 : Try.f9.body.bind (comp Try.prog) = some A9 := by kernel_rfl
theorem r9 : Xj Try.prog Try.f9.results.toList = some [.tmp 2] := by kernel_rfl
theorem n9 : NG Try.f9 := by decide +kernel
noncomputable def E9 : Nat × ACode × Nat × List RV := (9, A9, 94, [.tmp 2])
theorem e9 : Xu Try.prog E9 := ⟨Try.f9, Try.func9, n9, a9, Try.ntmps9, r9⟩
noncomputable def A10 := cE Try.f10
theorem a10 : Try.f10.body.bind (comp Try.prog) = some A10 := by kernel_rfl
theorem r10 : Xj Try.prog Try.f10.results.toList = some [] := by kernel_rfl
theorem n10 : NG Try.f10 := by decide +kernel
noncomputable def E10 : Nat × ACode × Nat × List RV := (10, A10, 17, [])
theorem e10 : Xu Try.prog E10 := ⟨Try.f10, Try.func10, n10, a10, Try.ntmps10, r10⟩
noncomputable def A11 := cE Try.f11
theorem a11 : Try.f11.body.bind (comp Try.prog) = some A11 := by kernel_rfl
theorem r11 : Xj Try.prog Try.f11.results.toList = some [.cell 6 16 true] := by kernel_rfl
theorem n11 : NG Try.f11 := by decide +kernel
noncomputable def E11 : Nat × ACode × Nat × List RV := (11, A11, 67, [.cell 6 16 true])
theorem e11 : Xu Try.prog E11 := ⟨Try.f11, Try.func11, n11, a11, Try.ntmps11, r11⟩
def A12 : ACode :=
 (.seq (.reg [ oo 6 (.mov (.k (.vec true []))), oo 7 (.mov (kb false))]) (.seq (.reg [ om 34 0, om 35 1, oo 36 (.call 13 [.t 34, .t 35]), om 8 36]) (.seq (.seq (.reg [ om 37 8, oo 38 (.bin .eql (.t 37) (ki 3))]) (.cond (.t 38) (.seq (.reg [ om 39 0, om 40 1, om 41 2, oo 42 (.call 36 [.t 39, .t 40, .t 41]), oo 43 (.ext 0 (.t 42)), oo 44 (.ext 1 (.t 42)), om 6 43, om 7 44]) .ret) .skip)) (.seq (.reg [ om 45 0, om 46 1, oo 47 (.bin .add (.t 46) (ki 2)), oo 48 (.call 13 [.t 45, .t 47]), om 9 48]) (.seq (.seq (.reg [ om 49 8, oo 50 (.bin .neq (.t 49) (ki 1)), om 51 50, og 52 (.mov (.t 8)) 51 true, og 53 (.bin .neq (.t 52) (ki 2)) 51 true, oo 54 (.pick (.t 51) (.t 53) (kb false)), om 55 54, og 56 (.mov (.t 9)) 55 false, og 57 (.bin .lss (.t 56) (ki 0)) 55 false, oo 58 (.pick (.t 55) (kb true) (.t 57))]) (.cond (.t 58) (.seq (.reg [ oo 6 (.mov (.k (.vec true []))), oo 7 (.mov (kb false))]) .ret) .skip)) (.seq (.reg [ om 60 0, om 61 1, om 62 9, oo 63 (.bin .add (.t 61) (.t 62)), oo 64 (.call 37 [.t 60, .t 63, (kb false)]), om 59 64, oo 65 (.ext 0 (.t 59)), oo 66 (.ext 1 (.t 59)), om 10 65, om 11 66]) (.seq (.seq (.reg [ om 67 11, oo 68 (.un .not (.t 67))]) (.cond (.t 68) (.seq (.reg [ oo 6 (.mov (.k (.vec true []))), oo 7 (.mov (kb false))]) .ret) .skip)) (.seq (.reg [ om 69 1, oo 70 (.bin .add (.t 69) (ki 4)), om 12 70]) (.seq (.reg [ oo 13 (.new [(.vec true []), (.vec true []), (.vec true [])] 88)]) (.seq (.seq (.reg [ oo 14 (.mov (ki 0))]) (.block 0 (.loop (.seq (.seq (.reg [ om 71 14, oo 72 (.bin .lss (.t 71) (ki 3)), om 73 72, og 74 (.mov (.t 8)) 73 true, og 75 (.bin .eql (.t 74) (ki 2)) 73 true, oo 76 (.pick (.t 73) (.t 75) (kb false))]) (.cond (.t 76) .skip (.exit 0))) (.seq (.block 1 (.seq (.seq (.reg [ om 79 2, oo 80 (.un .not (.t 79)), om 81 80, og 82 (.mov (.t 14)) 81 true, og 83 (.bin .neq (.t 82) (ki 1)) 81 true, oo 84 (.pick (.t 81) (.t 83) (kb false))]) (.cond (.t 84) (.exit 1) .skip)) (.seq (.reg [ om 85 0, om 86 12, oo 87 (.call 13 [.t 85, .t 86]), om 15 87]) (.seq (.seq (.reg [ om 88 15, oo 89 (.bin .lss (.t 88) (ki 0))]) (.cond (.t 89) (.seq (.reg [ oo 6 (.mov (.k (.vec true []))), oo 7 (.mov (kb false))]) .ret) .skip)) (.seq (.reg [ om 91 0, om 92 1, om 93 15, oo 94 (.call 38 [.t 91, .t 92, .t 93]), om 90 94, oo 95 (.ext 0 (.t 90)), oo 96 (.ext 1 (.t 90)), om 16 95, om 17 96]) (.seq (.seq (.reg [ om 97 17, oo 98 (.un .not (.t 97))]) (.cond (.t 98) (.seq (.reg [ oo 6 (.mov (.k (.vec true []))), oo 7 (.mov (kb false))]) .ret) .skip)) (.seq (.reg [ om 99 14, om 100 16, oo 101 (.idxa 1 3 (.t 13) (.t 99)), ⟨none, .store 1 (.t 101) (.t 100), none⟩]) (.reg [ om 102 12, oo 103 (.bin .add (.t 102) (ki 2)), om 12 103])))))))) (.reg [ om 77 14, oo 78 (.bin .add (.t 77) (ki 1)), om 14 78])))))) (.seq (.reg [ om 104 0, om 105 12, oo 106 (.call 13 [.t 104, .t 105]), om 18 106]) (.seq (.seq (.reg [ om 107 18, oo 108 (.bin .lss (.t 107) (ki 0))]) (.cond (.t 108) (.seq (.reg [ oo 6 (.mov (.k (.vec true []))), oo 7 (.mov (kb false))]) .ret) .skip)) (.seq (.reg [ oo 19 (.mov (.k (.vec true [])))]) (.seq (.seq (.reg [ oo 20 (.mov (ki 0))]) (.block 2 (.loop (.seq (.seq (.reg [ om 109 20, oo 110 (.bin .lss (.t 109) (ki 65536))]) (.cond (.t 110) .skip (.exit 2))) (.seq (.block 3 (.seq (.reg [ om 113 10, om 114 20, oo 115 (.idx 1 (.t 113) (.t 114)), oo 116 (.load 1 false (.t 115)), oo 117 (.bin .geq (.t 116) (ki 0))]) (.cond (.t 117) (.reg [ om 118 19, om 119 20, oo 120 (.lits 1 3 [.t 119]), oo 121 (.app 1 8 3 (.t 118) (.t 120)), om 19 121]) .skip))) (.reg [ om 111 20, oo 112 (.bin .add (.t 111) (ki 1)), om 20 112])))))) (.seq (.reg [ om 123 0, om 124 12, oo 125 (.bin .add (.t 124) (ki 2)), om 126 18, oo 127 (.call 20 [.t 123, .t 125, .t 126]), om 122 127, oo 128 (.ext 0 (.t 122)), oo 129 (.ext 1 (.t 122)), om 21 128, om 22 129]) (.seq (.seq (.reg [ om 130 22, oo 131 (.un .not (.t 130)), om 132 131, og 133 (.mov (.t 8)) 132 false, og 134 (.bin .eql (.t 133) (ki 1)) 132 false, og 135 (.mov (.t 134)) 132 false, og 136 (.mov (.t 18)) 135 true, og 137 (.mov (.t 19)) 135 true, og 138 (.len false (.t 137)) 135 true, og 139 (.bin .neq (.t 136) (.t 138)) 135 true, og 140 (.pick (.t 135) (.t 139) (kb false)) 132 false, oo 141 (.pick (.t 132) (kb true) (.t 140))]) (.cond (.t 141) (.seq (.reg [ oo 6 (.mov (.k (.vec true []))), oo 7 (.mov (kb false))]) .ret) .skip)) (.seq (.reg [ oo 23 (.mov (.k (.vec true [])))]) (.seq (.seq (.reg [ oo 24 (.mov (ki 0))]) (.block 4 (.loop (.seq (.seq (.reg [ om 142 24, om 143 18, oo 144 (.bin .lss (.t 142) (.t 143))]) (.cond (.t 144) .skip (.exit 4))) (.seq (.block 5 (.seq (.seq (.reg [ om 147 21, om 148 24, oo 149 (.idx 1 (.t 147) (.t 148)), oo 150 (.load 1 false (.t 149)), oo 151 (.bin .eql (.t 150) (ki 0))]) (.cond (.t 151) (.exit 5) .skip)) (.seq (.reg [ oo 152 (.build [(.vec true []), (.bool false)] []), oo 25 (.new [(.vec true []), (.bool false)] 76), ⟨none, .store 2 (.t 25) (.t 152), none⟩]) (.seq (.seq (.reg [ om 153 8, oo 154 (.bin .eql (.t 153) (ki 1))]) (.cond (.t 154) (.regd [ dd (om 155 19) 0, dd (om 156 24) 1, dd (oo 157 (.idx 1 (.t 155) (.t 156))) 2, dd (oo 158 (.load 1 false (.t 157))) 3, dd (om 159 19) 4, dd (om 160 24) 5, dd (oo 161 (.idx 1 (.t 159) (.t 160))) 6, dd (oo 162 (.load 1 false (.t 161))) 7, dd (oo 163 (.build [(.int .i64 0), (.int .i64 0)] [(0, 1, (.t 158)), (1, 1, (.t 162))])) 8, dd (oo 164 (.lits 2 92 [.t 163])) 9, dd (oo 165 (.fld 0 (.t 25))) 10, ⟨⟨none, .store 1 (.t 165) (.t 164), none⟩, 11, [10, 0, 1, 2, 3, 4, 5, 6, 7, 8, 9], false⟩]) (.seq (.reg [ oo 166 (.mksl 1 1 [(.bool false)] 4 (ki 65536)), om 26 166]) (.seq (.seq (.reg [ oo 27 (.mov (ki 0))]) (.block 6 (.loop (.seq (.seq (.reg [ om 167 27, om 168 19, oo 169 (.len false (.t 168)), oo 170 (.bin .lss (.t 167) (.t 169))]) (.cond (.t 170) .skip (.exit 6))) (.seq (.block 7 (.regd [ dd (om 173 26) 0, dd (om 174 19) 1, dd (om 175 27) 2, ⟨⟨some 176, .idx 1 (.t 174) (.t 175), none⟩, 3, [], true⟩, ⟨⟨some 177, .load 1 false (.t 176), none⟩, 4, [], true⟩, dd (oo 178 (.idxa 1 3 (.t 13) (ki 1))) 5, dd (oo 179 (.load 1 false (.t 178))) 6, dd (om 180 19) 7, dd (om 181 27) 8, dd (oo 182 (.idx 1 (.t 180) (.t 181))) 9, dd (oo 183 (.load 1 false (.t 182))) 10, dd (om 185 24) 12, ⟨⟨some 184, .call 39 [.t 179, .t 183], none⟩, 11, [6, 5, 10, 9, 7, 8], false⟩, dd (oo 186 (.bin .eql (.t 184) (.t 185))) 13, ⟨⟨some 187, .idx 1 (.t 173) (.t 177), none⟩, 14, [], true⟩, ⟨⟨none, .store 1 (.t 187) (.t 186), none⟩, 15, [14, 0, 4, 3, 1, 2, 5, 6, 7, 8, 9, 10, 11, 12, 13], false⟩])) (.reg [ om 171 27, oo 172 (.bin .add (.t 171) (ki 1)), om 27 172])))))) (.reg [ om 188 26, oo 189 (.call 40 [.t 188]), oo 190 (.fld 0 (.t 25)), ⟨none, .store 1 (.t 190) (.t 189), none⟩]))))) (.seq (.reg [ om 191 0, om 192 1, om 193 21, om 194 24, oo 195 (.idx 1 (.t 193) (.t 194)), oo 196 (.load 1 false (.t 195)), oo 197 (.bin .add (.t 192) (.t 196)), oo 198 (.call 13 [.t 191, .t 197]), om 28 198]) (.seq (.reg [ om 200 0, om 201 1, om 202 21, om 203 24, oo 204 (.idx 1 (.t 202) (.t 203)), oo 205 (.load 1 false (.t 204)), oo 206 (.bin .add (.t 201) (.t 205)), oo 207 (.bin .add (.t 206) (ki 2)), om 208 28, oo 209 (.call 20 [.t 200, .t 207, .t 208]), om 199 209, oo 210 (.ext 0 (.t 199)), oo 211 (.ext 1 (.t 199)), om 29 210, om 30 211]) (.seq (.seq (.reg [ om 212 28, oo 213 (.bin .lss (.t 212) (ki 0)), om 214 213, og 215 (.mov (.t 28)) 214 false, og 216 (.bin .gtr (.t 215) (ki 64)) 214 false, oo 217 (.pick (.t 214) (kb true) (.t 216)), om 218 217, og 219 (.mov (.t 30)) 218 false, og 220 (.un .not (.t 219)) 218 false, oo 221 (.pick (.t 218) (kb true) (.t 220))]) (.cond (.t 221) (.seq (.reg [ oo 6 (.mov (.k (.vec true []))), oo 7 (.mov (kb false))]) .ret) .skip)) (.seq (.reg [ oo 31 (.mov (ki 0))]) (.block 8 (.loop (.seq (.seq (.reg [ om 222 31, om 223 28, oo 224 (.bin .lss (.t 222) (.t 223))]) (.cond (.t 224) .skip (.exit 8))) (.seq (.block 9 (.seq (.regd2 [ dd (om 228 0) 0, dd (om 229 1) 1, dd (om 230 21) 2, dd (om 231 24) 3, dd (oo 232 (.idx 1 (.t 230) (.t 231))) 4, dd (oo 233 (.load 1 false (.t 232))) 5, dd (oo 234 (.bin .add (.t 229) (.t 233))) 6, dd (om 235 29) 7, dd (om 236 31) 8, dd (oo 237 (.idx 1 (.t 235) (.t 236))) 9, dd (oo 238 (.load 1 false (.t 237))) 10, dd (oo 239 (.bin .add (.t 234) (.t 238))) 11, dd (om 240 8) 12, dd (om 241 2) 13, dd (oo 242 (.load 2 true (.t 25))) 14, dd (oo 243 (.load 3 true (.t 13))) 15, ⟨⟨some 244, .call 41 [.t 228, .t 239, .t 240, .t 241, .t 242, .t 243], none⟩, 16, [0, 11, 6, 1, 5, 4, 2, 3, 10, 9, 7, 8, 12, 13, 14, 15], false⟩, dd (om 227 244) 17, dd (oo 245 (.ext 0 (.t 227))) 18, dd (oo 246 (.ext 1 (.t 227))) 19, ⟨⟨some 32, .new [(.vec true []), (.vec true []), (.vec true []), (.vec true [])] 57, none⟩, 20, [16, 0, 11, 6, 1, 5, 4, 2, 3, 10, 9, 7, 8, 12, 13, 14, 15], false⟩, ⟨⟨none, .store 4 (.t 32) (.t 245), none⟩, 21, [20, 18, 17, 16, 0, 11, 6, 1, 5, 4, 2, 3, 10, 9, 7, 8, 12, 13, 14, 15, 16, 0, 11, 6, 1, 5, 4, 2, 3, 10, 9, 7, 8, 12, 13, 14, 15], false⟩, ⟨⟨some 33, .mov (.t 246), none⟩, 22, [], false⟩] [ dd (om 228 0) 0, dd (om 229 1) 1, dd (om 230 21) 2, dd (om 231 24) 3, ⟨⟨some 232, .idx 1 (.t 230) (.t 231), none⟩, 4, [], true⟩, ⟨⟨some 233, .load 1 false (.t 232), none⟩, 5, [], true⟩, dd (oo 234 (.bin .add (.t 229) (.t 233))) 6, dd (om 235 29) 7, dd (om 236 31) 8, ⟨⟨some 237, .idx 1 (.t 235) (.t 236), none⟩, 9, [], true⟩, ⟨⟨some 238, .load 1 false (.t 237), none⟩, 10, [], true⟩, dd (oo 239 (.bin .add (.t 234) (.t 238))) 11, dd (om 240 8) 12, dd (om 241 2) 13, ⟨⟨some 242, .load 2 true (.t 25), none⟩, 14, [], true⟩, ⟨⟨some 243, .load 3 true (.t 13), none⟩, 15, [], true⟩, dd (oo 32 (.new [(.vec true []), (.vec true []), (.vec true []), (.vec true [])] 57)) 20, ⟨⟨some 244, .call 41 [.t 228, .t 239, .t 240, .t 241, .t 242, .t 243], none⟩, 16, [0, 11, 6, 1, 5, 4, 2, 3, 10, 9, 7, 8, 12, 13, 14, 15, 20], false⟩, dd (om 227 244) 17, dd (oo 245 (.ext 0 (.t 227))) 18, dd (oo 246 (.ext 1 (.t 227))) 19, ⟨⟨none, .store 4 (.t 32) (.t 245), none⟩, 21, [20, 18, 17, 16, 0, 11, 6, 1, 5, 4, 2, 3, 10, 9, 7, 8, 12, 13, 14, 15, 20], false⟩, dd (om 33 246) 22]) (.seq (.seq (.reg [ om 247 33, oo 248 (.un .not (.t 247)), om 249 248, og 250 (.mov (.t 23)) 249 false, og 251 (.len false (.t 250)) 249 false, og 252 (.bin .eql (.t 251) (ki 64)) 249 false, oo 253 (.pick (.t 249) (kb true) (.t 252))]) (.cond (.t 253) (.seq (.reg [ oo 6 (.mov (.k (.vec true []))), oo 7 (.mov (kb false))]) .ret) .skip)) (.reg [ om 254 23, oo 255 (.load 4 true (.t 32)), oo 256 (.lits 4 57 [.t 255]), oo 257 (.app 4 96 57 (.t 254) (.t 256)), om 23 257])))) (.reg [ om 225 31, oo 226 (.bin .add (.t 225) (ki 1)), om 31 226]))))))))))))) (.reg [ om 145 24, oo 146 (.bin .add (.t 145) (ki 1)), om 24 146])))))) (.seq (.reg [ om 258 23, om 6 258, oo 7 (.mov (kb true))]) .ret)))))))))))))))))))
theorem a12 : Try.f12.body.bind (comp Try.prog) = some A12 := by kernel_rfl
theorem r12 : Xj Try.prog Try.f12.results.toList = some [.tmp 6, .tmp 7] := by kernel_rfl
theorem n12 : NG Try.f12 := by decide +kernel
noncomputable def A13 := cE Try.f13
theorem a13 : Try.f13.body.bind (comp Try.prog) = some A13 := by kernel_rfl
theorem r13 : Xj Try.prog Try.f13.results.toList = some [.tmp 4] := by kernel_rfl
theorem n13 : NG Try.f13 := by decide +kernel
noncomputable def A14 := cE Try.f14
theorem a14 : Try.f14.body.bind (comp Try.prog) = some A14 := by kernel_rfl
theorem r14 : Xj Try.prog Try.f14.results.toList = some [.tmp 6, .tmp 7] := by kernel_rfl
theorem n14 : NG Try.f14 := by decide +kernel
noncomputable def A15 := cE Try.f15
theorem a15 : Try.f15.body.bind (comp Try.prog) = some A15 := by kernel_rfl
theorem r15 : Xj Try.prog Try.f15.results.toList = some [.tmp 4, .tmp 5] := by kernel_rfl
theorem n15 : NG Try.f15 := by decide +kernel
noncomputable def A16 := cE Try.f16
theorem a16 : Try.f16.body.bind (comp Try.prog) = some A16 := by kernel_rfl
theorem r16 : Xj Try.prog Try.f16.results.toList = some [.tmp 8, .tmp 9, .tmp 10] := by kernel_rfl
theorem n16 : NG Try.f16 := by decide +kernel
noncomputable def A17 := cE Try.f17
theorem a17 : Try.f17.body.bind (comp Try.prog) = some A17 := by kernel_rfl
theorem r17 : Xj Try.prog Try.f17.results.toList = some [.tmp 6, .tmp 7] := by kernel_rfl
theorem n17 : NG Try.f17 := by decide +kernel
noncomputable def A18 := cE Try.f18
theorem a18 : Try.f18.body.bind (comp Try.prog) = some A18 := by kernel_rfl
theorem r18 : Xj Try.prog Try.f18.results.toList = some [.tmp 6, .tmp 7] := by kernel_rfl
theorem n18 : NG Try.f18 := by decide +kernel
noncomputable def A19 := cE Try.f19
theorem a19 : Try.f19.body.bind (comp Try.prog) = some A19 := by kernel_rfl
theorem r19 : Xj Try.prog Try.f19.results.toList = some [.tmp 2] := by kernel_rfl
theorem n19 : NG Try.f19 := by decide +kernel
noncomputable def A20 := cE Try.f20
theorem a20 : Try.f20.body.bind (comp Try.prog) = some A20 := by kernel_rfl
theorem r20 : Xj Try.prog Try.f20.results.toList = some [.tmp 6, .tmp 7] := by kernel_rfl
theorem n20 : NG Try.f20 := by decide +kernel
noncomputable def A21 := cE Try.f21
theorem a21 : Try.f21.body.bind (comp Try.prog) = some A21 := by kernel_rfl
theorem r21 : Xj Try.prog Try.f21.results.toList = some [.tmp 4] := by kernel_rfl
theorem n21 : NG Try.f21 := by decide +kernel
noncomputable def A22 := cE Try.f22
theorem a22 : Try.f22.body.bind (comp Try.prog) = some A22 := by kernel_rfl
theorem r22 : Xj Try.prog Try.f22.results.toList = some [.tmp 4] := by kernel_rfl
theorem n22 : NG Try.f22 := by decide +kernel
def A23 : ACode :=
 (.seq (.reg [ oo 4 (.mov (kb false))]) (.seq (.seq (.reg [ om 7 0, oo 8 (.len false (.t 7)), om 9 1, oo 10 (.len false (.t 9)), oo 11 (.bin .neq (.t 8) (.t 10))]) (.cond (.t 11) (.seq (.reg [ oo 4 (.mov (kb false))]) .ret) .skip)) (.seq (.seq (.reg [ oo 5 (.mov (ki 0))]) (.block 0 (.loop (.seq (.seq (.reg [ om 12 5, om 13 0, oo 14 (.len false (.t 13)), oo 15 (.bin .lss (.t 12) (.t 14))]) (.cond (.t 15) .skip (.exit 0))) (.seq (.block 1 (.seq (.seq (.regd [ dd (om 18 0) 0, dd (om 19 5) 1, dd (oo 20 (.idx 1 (.t 18) (.t 19))) 2, dd (oo 21 (.load 1 false (.t 20))) 3, dd (oo 22 (.len false (.t 21))) 4, dd (om 23 1) 5, dd (om 24 5) 6, dd (oo 25 (.idx 1 (.t 23) (.t 24))) 7, dd (oo 26 (.load 1 false (.t 25))) 8, dd (oo 27 (.len false (.t 26))) 9, dd (oo 28 (.bin .neq (.t 22) (.t 27))) 10]) (.cond (.t 28) (.seq (.reg [ oo 4 (.mov (kb false))]) .ret) .skip)) (.seq (.reg [ oo 6 (.mov (ki 0))]) (.block 2 (.loop (.seq (.seq (.reg [ om 29 6, om 30 0, om 31 5, oo 32 (.idx 1 (.t 30) (.t 31)), oo 33 (.load 1 false (.t 32)), oo 34 (.len false (.t 33)), oo 35 (.bin .lss (.t 29) (.t 34))]) (.cond (.t 35) .skip (.exit 2))) (.seq (.block 3 (.seq (.regd [ dd (om 38 0) 0, dd (om 39 5) 1, dd (oo 40 (.idx 1 (.t 38) (.t 39))) 2, dd (oo 41 (.load 1 false (.t 40))) 3, dd (om 42 6) 4, dd (oo 43 (.idx 2 (.t 41) (.t 42))) 5, dd (oo 44 (.fld 1 (.t 43))) 6, dd (oo 45 (.load 1 false (.t 44))) 7, dd (om 46 1) 8, dd (om 47 5) 9, dd (oo 48 (.idx 1 (.t 46) (.t 47))) 10, dd (oo 49 (.load 1 false (.t 48))) 11, dd (om 50 6) 12, dd (oo 51 (.idx 2 (.t 49) (.t 50))) 13, dd (oo 52 (.fld 1 (.t 51))) 14, dd (oo 53 (.load 1 false (.t 52))) 15, dd (oo 54 (.bin .neq (.t 45) (.t 53))) 16, dd (om 55 54) 17, dd (og 56 (.mov (.t 0)) 55 false) 18, dd (og 57 (.mov (.t 5)) 55 false) 19, dd (og 58 (.idx 1 (.t 56) (.t 57)) 55 false) 20, dd (og 59 (.load 1 false (.t 58)) 55 false) 21, dd (og 60 (.mov (.t 6)) 55 false) 22, dd (og 61 (.idx 2 (.t 59) (.t 60)) 55 false) 23, dd (og 62 (.fld 0 (.t 61)) 55 false) 24, dd (og 63 (.load 1 false (.t 62)) 55 false) 25, dd (og 64 (.mov (.t 1)) 55 false) 26, dd (og 65 (.mov (.t 5)) 55 false) 27, dd (og 66 (.idx 1 (.t 64) (.t 65)) 55 false) 28, dd (og 67 (.load 1 false (.t 66)) 55 false) 29, dd (og 68 (.mov (.t 6)) 55 false) 30, dd (og 69 (.idx 2 (.t 67) (.t 68)) 55 false) 31, dd (og 70 (.fld 0 (.t 69)) 55 false) 32, dd (og 71 (.load 1 false (.t 70)) 55 false) 33, ⟨⟨some 72, .call 44 [.t 63, .t 71], (some (55, false))⟩, 34, [25, 24, 23, 21, 20, 18, 17, 16, 7, 6, 5, 3, 2, 0, 1, 4, 15, 14, 13, 11, 10, 8, 9, 12, 19, 22, 33, 32, 31, 29, 28, 26, 27, 30], false⟩, dd (og 73 (.un .not (.t 72)) 55 false) 35, dd (oo 74 (.pick (.t 55) (kb true) (.t 73))) 36]) (.cond (.t 74) (.seq (.reg [ oo 4 (.mov (kb false))]) .ret) .skip))) (.reg [ om 36 6, oo 37 (.bin .add (.t 36) (ki 1)), om 6 37])))))))) (.reg [ om 16 5, oo 17 (.bin .add (.t 16) (ki 1)), om 5 17])))))) (.seq (.reg [ oo 4 (.mov (kb true))]) .ret))))
theorem a23 : Try.f23.body.bind (comp Try.prog) = some A23 := by kernel_rfl
theorem r23 : Xj Try.prog Try.f23.results.toList = some [.tmp 4] := by kernel_rfl
theorem n23 : NG Try.f23 := by decide +kernel
def A24 : ACode :=
 (.seq (.reg [ oo 4 (.mov (kb false))]) (.seq (.seq (.reg [ om 7 0, oo 8 (.len false (.t 7)), om 9 1, oo 10 (.len false (.t 9)), oo 11 (.bin .neq (.t 8) (.t 10))]) (.cond (.t 11) (.seq (.reg [ oo 4 (.mov (kb false))]) .ret) .skip)) (.seq (.seq (.reg [ oo 5 (.mov (ki 0))]) (.block 0 (.loop (.seq (.seq (.reg [ om 12 5, om 13 0, oo 14 (.len false (.t 13)), oo 15 (.bin .lss (.t 12) (.t 14))]) (.cond (.t 15) .skip (.exit 0))) (.seq (.block 1 (.seq (.seq (.regd [ dd (om 18 0) 0, dd (om 19 5) 1, dd (oo 20 (.idx 4 (.t 18) (.t 19))) 2, dd (oo 21 (.fld 0 (.t 20))) 3, dd (oo 22 (.load 1 false (.t 21))) 4, dd (om 23 1) 5, dd (om 24 5) 6, dd (oo 25 (.idx 4 (.t 23) (.t 24))) 7, dd (oo 26 (.fld 0 (.t 25))) 8, dd (oo 27 (.load 1 false (.t 26))) 9, ⟨⟨some 28, .call 45 [.t 22, .t 27], none⟩, 10, [4, 3, 2, 0, 1, 9, 8, 7, 5, 6], false⟩, dd (oo 29 (.un .not (.t 28))) 11, dd (om 30 29) 12, dd (og 31 (.mov (.t 0)) 30 false) 13, dd (og 32 (.mov (.t 5)) 30 false) 14, ⟨⟨some 33, .idx 4 (.t 31) (.t 32), (some (30, false))⟩, 15, [], true⟩, dd (og 34 (.fld 1 (.t 33)) 30 false) 16, ⟨⟨some 35, .load 1 false (.t 34), (some (30, false))⟩, 17, [], true⟩, dd (og 36 (.mov (.t 1)) 30 false) 18, dd (og 37 (.mov (.t 5)) 30 false) 19, ⟨⟨some 38, .idx 4 (.t 36) (.t 37), (some (30, false))⟩, 20, [], true⟩, dd (og 39 (.fld 1 (.t 38)) 30 false) 21, ⟨⟨some 40, .load 1 false (.t 39), (some (30, false))⟩, 22, [], true⟩, ⟨⟨some 41, .call 45 [.t 35, .t 40], (some (30, false))⟩, 23, [17, 16, 15, 13, 12, 11, 10, 4, 3, 2, 0, 1, 9, 8, 7, 5, 6, 14, 22, 21, 20, 18, 19], false⟩, dd (og 42 (.un .not (.t 41)) 30 false) 24, dd (oo 43 (.pick (.t 30) (kb true) (.t 42))) 25, dd (om 44 43) 26, dd (og 45 (.mov (.t 0)) 44 false) 27, dd (og 46 (.mov (.t 5)) 44 false) 28, ⟨⟨some 47, .idx 4 (.t 45) (.t 46), (some (44, false))⟩, 29, [], true⟩, dd (og 48 (.fld 2 (.t 47)) 44 false) 30, ⟨⟨some 49, .load 1 false (.t 48), (some (44, false))⟩, 31, [], true⟩, dd (og 50 (.mov (.t 1)) 44 false) 32, dd (og 51 (.mov (.t 5)) 44 false) 33, ⟨⟨some 52, .idx 4 (.t 50) (.t 51), (some (44, false))⟩, 34, [], true⟩, dd (og 53 (.fld 2 (.t 52)) 44 false) 35, ⟨⟨some 54, .load 1 false (.t 53), (some (44, false))⟩, 36, [], true⟩, ⟨⟨some 55, .call 45 [.t 49, .t 54], (some (44, false))⟩, 37, [31, 30, 29, 27, 26, 25, 12, 11, 10, 4, 3, 2, 0, 1, 9, 8, 7, 5, 6, 24, 23, 17, 16, 15, 13, 14, 22, 21, 20, 18, 19, 28, 36, 35, 34, 32, 33], false⟩, dd (og 56 (.un .not (.t 55)) 44 false) 38, dd (oo 57 (.pick (.t 44) (kb true) (.t 56))) 39, dd (om 58 57) 40, dd (og 59 (.mov (.t 0)) 58 false) 41, dd (og 60 (.mov (.t 5)) 58 false) 42, ⟨⟨some 61, .idx 4 (.t 59) (.t 60), (some (58, false))⟩, 43, [], true⟩, dd (og 62 (.fld 3 (.t 61)) 58 false) 44, ⟨⟨some 63, .load 1 false (.t 62), (some (58, false))⟩, 45, [], true⟩, dd (og 64 (.len false (.t 63)) 58 false) 46, dd (og 65 (.mov (.t 1)) 58 false) 47, dd (og 66 (.mov (.t 5)) 58 false) 48, ⟨⟨some 67, .idx 4 (.t 65) (.t 66), (some (58, false))⟩, 49, [], true⟩, dd (og 68 (.fld 3 (.t 67)) 58 false) 50, ⟨⟨some 69, .load 1 false (.t 68), (some (58, false))⟩, 51, [], true⟩, dd (og 70 (.len false (.t 69)) 58 false) 52, dd (og 71 (.bin .neq (.t 64) (.t 70)) 58 false) 53, dd (oo 72 (.pick (.t 58) (kb true) (.t 71))) 54]) (.cond (.t 72) (.seq (.reg [ oo 4 (.mov (kb false))]) .ret) .skip)) (.seq (.reg [ oo 6 (.mov (ki 0))]) (.block 2 (.loop (.seq (.seq (.reg [ om 73 6, om 74 0, om 75 5, oo 76 (.idx 4 (.t 74) (.t 75)), oo 77 (.fld 3 (.t 76)), oo 78 (.load 1 false (.t 77)), oo 79 (.len false (.t 78)), oo 80 (.bin .lss (.t 73) (.t 79))]) (.cond (.t 80) .skip (.exit 2))) (.seq (.block 3 (.seq (.regd [ dd (om 83 0) 0, dd (om 84 5) 1, dd (oo 85 (.idx 4 (.t 83) (.t 84))) 2, dd (oo 86 (.fld 3 (.t 85))) 3, dd (oo 87 (.load 1 false (.t 86))) 4, dd (om 88 6) 5, dd (oo 89 (.idx 2 (.t 87) (.t 88))) 6, dd (oo 90 (.load 2 true (.t 89))) 7, dd (om 91 1) 8, dd (om 92 5) 9, dd (oo 93 (.idx 4 (.t 91) (.t 92))) 10, dd (oo 94 (.fld 3 (.t 93))) 11, dd (oo 95 (.load 1 false (.t 94))) 12, dd (om 96 6) 13, dd (oo 97 (.idx 2 (.t 95) (.t 96))) 14, dd (oo 98 (.load 2 true (.t 97))) 15, dd (oo 99 (.eqs true [0, 0] (.t 90) (.t 98))) 16]) (.cond (.t 99) (.seq (.reg [ oo 4 (.mov (kb false))]) .ret) .skip))) (.reg [ om 81 6, oo 82 (.bin .add (.t 81) (ki 1)), om 6 82])))))))) (.reg [ om 16 5, oo 17 (.bin .add (.t 16) (ki 1)), om 5 17])))))) (.seq (.reg [ oo 4 (.mov (kb true))]) .ret))))
theorem a24 : Try.f24.body.bind (comp Try.prog) = some A24 := by kernel_rfl
theorem r24 : Xj Try.prog Try.f24.results.toList = some [.tmp 4] := by kernel_rfl
theorem n24 : NG Try.f24 := by decide +kernel
noncomputable def A25 := cE Try.f25
theorem a25 : Try.f25.body.bind (comp Try.prog) = some A25 := by kernel_rfl
theorem r25 : Xj Try.prog Try.f25.results.toList = some [] := by kernel_rfl
theorem n25 : NG Try.f25 := by decide +kernel
noncomputable def E25 : Nat × ACode × Nat × List RV := (25, A25, 7, [])
theorem e25 : Xu Try.prog E25 := ⟨Try.f25, Try.func25, n25, a25, Try.ntmps25, r25⟩
noncomputable def A26 := cE Try.f26
theorem a26 : Try.f26.body.bind (comp Try.prog) = some A26 := by kernel_rfl
theorem r26 : Xj Try.prog Try.f26.results.toList = some [.cell 6 16 true] := by kernel_rfl
theorem n26 : NG Try.f26 := by decide +kernel
noncomputable def E26 : Nat × ACode × Nat × List RV := (26, A26, 27, [.cell 6 16 true])
theorem e26 : Xu Try.prog E26 := ⟨Try.f26, Try.func26, n26, a26, Try.ntmps26, r26⟩
noncomputable def A27 := cE Try.f27
theorem a27 : Try.f27.body.bind (comp Try.prog) = some A27 := by kernel_rfl
theorem r27 : Xj Try.prog Try.f27.results.toList = some [.tmp 4, .tmp 5] := by kernel_rfl
theorem n27 : NG Try.f27 := by decide +kernel
noncomputable def E27 : Nat × ACode × Nat × List RV := (27, A27, 11, [.tmp 4, .tmp 5])
theorem e27 : Xu Try.prog E27 := ⟨Try.f27, Try.func27, n27, a27, Try.ntmps27, r27⟩
noncomputable def A28 := cE Try.f28
theorem a28 : Try.f28.body.bind (comp Try.prog) = some A28 := by kernel_rfl
theorem r28 : Xj Try.prog Try.f28.results.toList = some [.tmp 4, .tmp 5] := by kernel_rfl
theorem n28 : NG Try.f28 := by decide +kernel
noncomputable def E28 : Nat × ACode × Nat × List RV := (28, A28, 11, [.tmp 4, .tmp 5])
theorem e28 : Xu Try.prog E28 := ⟨Try.f28, Try.func28, n28, a28, Try.ntmps28, r28⟩
noncomputable def A29 := cE Try.f29
theorem a29 : Try.f29.body.bind (comp Try.prog) = some A29 := by kernel_rfl
theorem r29 : Xj Try.prog Try.f29.results.toList = some [] := by kernel_rfl
theorem n29 : NG Try.f29 := by decide +kernel
noncomputable def E29 : Nat × ACode × Nat × List RV := (29, A29, 6, [])
theorem e29 : Xu Try.prog E29 := ⟨Try.f29, Try.func29, n29, a29, Try.ntmps29, r29⟩
noncomputable def A30 := cE Try.f30
theorem a30 : Try.f30.body.bind (comp Try.prog) = some A30 := by kernel_rfl
theorem r30 : Xj Try.prog Try.f30.results.toList = some [.tmp 2] := by kernel_rfl
theorem n30 : NG Try.f30 := by decide +kernel
noncomputable def E30 : Nat × ACode × Nat × List RV := (30, A30, 27, [.tmp 2])
theorem e30 : Xu Try.prog E30 := ⟨Try.f30, Try.func30, n30, a30, Try.ntmps30, r30⟩
noncomputable def A31 := cE Try.f31
theorem a31 : Try.f31.body.bind (comp Try.prog) = some A31 := by kernel_rfl
theorem r31 : Xj Try.prog Try.f31.results.toList = some [.cell 4 16 true] := by kernel_rfl
theorem n31 : NG Try.f31 := by decide +kernel
noncomputable def E31 : Nat × ACode × Nat × List RV := (31, A31, 28, [.cell 4 16 true])
theorem e31 : Xu Try.prog E31 := ⟨Try.f31, Try.func31, n31, a31, Try.ntmps31, r31⟩
noncomputable def A32 := cE Try.f32
theorem a32 : Try.f32.body.bind (comp Try.prog) = some A32 := by kernel_rfl
theorem r32 : Xj Try.prog Try.f32.results.toList = some [.cell 6 16 true] := by kernel_rfl
theorem n32 : NG Try.f32 := by decide +kernel
noncomputable def E32 : Nat × ACode × Nat × List RV := (32, A32, 37, [.cell 6 16 true])
theorem e32 : Xu Try.prog E32 := ⟨Try.f32, Try.func32, n32, a32, Try.ntmps32, r32⟩
noncomputable def A33 := cE Try.f33
theorem a33 : Try.f33.body.bind (comp Try.prog) = some A33 := by kernel_rfl
theorem r33 : Xj Try.prog Try.f33.results.toList = some [.cell 2 16 true] := by kernel_rfl
theorem n33 : NG Try.f33 := by decide +kernel
noncomputable def E33 : Nat × ACode × Nat × List RV := (33, A33, 68, [.cell 2 16 true])
theorem e33 : Xu Try.prog E33 := ⟨Try.f33, Try.func33, n33, a33, Try.ntmps33, r33⟩
noncomputable def A34 := cE Try.f34
theorem a34 : Try.f34.body.bind (comp Try.prog) = some A34 := by kernel_rfl
theorem r34 : Xj Try.prog Try.f34.results.toList = some [.cell 2 16 true] := by kernel_rfl
theorem n34 : NG Try.f34 := by decide +kernel
noncomputable def E34 : Nat × ACode × Nat × List RV := (34, A34, 47, [.cell 2 16 true])
theorem e34 : Xu Try.prog E34 := ⟨Try.f34, Try.func34, n34, a34, Try.ntmps34, r34⟩
noncomputable def A35 := cE Try.f35
theorem a35 : Try.f35.body.bind (comp Try.prog) = some A35 := by kernel_rfl
theorem r35 : Xj Try.prog Try.f35.results.toList = some [.cell 2 16 true] := by kernel_rfl
theorem n35 : NG Try.f35 := by decide +kernel
noncomputable def E35 : Nat × ACode × Nat × List RV := (35, A35, 27, [.cell 2 16 true])
theorem e35 : Xu Try.prog E35 := ⟨Try.f35, Try.func35, n35, a35, Try.ntmps35, r35⟩
noncomputable def A36 := cE Try.f36
theorem a36 : Try.f36.body.bind (comp Try.prog) = some A36 := by kernel_rfl
theorem r36 : Xj Try.prog Try.f36.results.toList = some [.tmp 6, .tmp 7] := by kernel_rfl
theorem n36 : NG Try.f36 := by decide +kernel
noncomputable def A37 := cE Try.f37
theorem a37 : Try.f37.body.bind (comp Try.prog) = some A37 := by kernel_rfl
theorem r37 : Xj Try.prog Try.f37.results.toList = some [.tmp 6, .tmp 7] := by kernel_rfl
theorem n37 : NG Try.f37 := by decide +kernel
noncomputable def A38 := cE Try.f38
theorem a38 : Try.f38.body.bind (comp Try.prog) = some A38 := by kernel_rfl
theorem r38 : Xj Try.prog Try.f38.results.toList = some [.tmp 6, .tmp 7] := by kernel_rfl
theorem n38 : NG Try.f38 := by decide +kernel
noncomputable def A39 := cE Try.f39
theorem a39 : Try.f39.body.bind (comp Try.prog) = some A39 := by kernel_rfl
theorem r39 : Xj Try.prog Try.f39.results.toList = some [.tmp 4] := by kernel_rfl
theorem n39 : NG Try.f39 := by decide +kernel
noncomputable def A40 := cE Try.f40
theorem a40 : Try.f40.body.bind (comp Try.prog) = some A40 := by kernel_rfl
theorem r40 : Xj Try.prog Try.f40.results.toList = some [.tmp 2] := by kernel_rfl
theorem n40 : NG Try.f40 := by decide +kernel
noncomputable def A41 := cE Try.f41
theorem a41 : Try.f41.body.bind (comp Try.prog) = some A41 := by kernel_rfl
theorem r41 : Xj Try.prog Try.f41.results.toList = some [.cell 12 4 true, .tmp 13] := by kernel_rfl
theorem n41 : NG Try.f41 := by decide +kernel
noncomputable def A42 := cE Try.f42
theorem a42 : Try.f42.body.bind (comp Try.prog) = some A42 := by kernel_rfl
theorem r42 : Xj Try.prog Try.f42.results.toList = some [.tmp 6] := by kernel_rfl
theorem n42 : NG Try.f42 := by decide +kernel
noncomputable def A43 := cE Try.f43
theorem a43 : Try.f43.body.bind (comp Try.prog) = some A43 := by kernel_rfl
theorem r43 : Xj Try.prog Try.f43.results.toList = some [.tmp 2] := by kernel_rfl
theorem n43 : NG Try.f43 := by decide +kernel
noncomputable def A44 := cE Try.f44
theorem a44 : Try.f44.body.bind (comp Try.prog) = some A44 := by kernel_rfl
theorem r44 : Xj Try.prog Try.f44.results.toList = some [.tmp 4] := by kernel_rfl
theorem n44 : NG Try.f44 := by decide +kernel
noncomputable def A45 := cE Try.f45
theorem a45 : Try.f45.body.bind (comp Try.prog) = some A45 := by kernel_rfl
theorem r45 : Xj Try.prog Try.f45.results.toList = some [.tmp 4] := by kernel_rfl
theorem n45 : NG Try.f45 := by decide +kernel
noncomputable def A46 := cE Try.f46
theorem a46 : Try.f46.body.bind (comp Try.prog) = some A46 := by kernel_rfl
theorem r46 : Xj Try.prog Try.f46.results.toList = some [.cell 6 1 false, .cell 7 1 false] := by kernel_rfl
theorem n46 : NG Try.f46 := by decide +kernel
noncomputable def E46 : Nat × ACode × Nat × List RV := (46, A46, 34, [.cell 6 1 false, .cell 7 1 false])
theorem e46 : Xu Try.prog E46 := ⟨Try.f46, Try.func46, n46, a46, Try.ntmps46, r46⟩
noncomputable def A47 := cE Try.f47
theorem a47 : Try.f47.body.bind (comp Try.prog) = some A47 := by kernel_rfl
theorem r47 : Xj Try.prog Try.f47.results.toList = some [.tmp 4, .tmp 5] := by kernel_rfl
theorem n47 : NG Try.f47 := by decide +kernel
noncomputable def E47 : Nat × ACode × Nat × List RV := (47, A47, 11, [.tmp 4, .tmp 5])
theorem e47 : Xu Try.prog E47 := ⟨Try.f47, Try.func47, n47, a47, Try.ntmps47, r47⟩
noncomputable def A48 := cE Try.f48
theorem a48 : Try.f48.body.bind (comp Try.prog) = some A48 := by kernel_rfl
theorem r48 : Xj Try.prog Try.f48.results.toList = some [.tmp 4] := by kernel_rfl
theorem n48 : NG Try.f48 := by decide +kernel
noncomputable def E48 : Nat × ACode × Nat × List RV := (48, A48, 24, [.tmp 4])
theorem e48 : Xu Try.prog E48 := ⟨Try.f48, Try.func48, n48, a48, Try.ntmps48, r48⟩
noncomputable def A49 := cE Try.f49
theorem a49 : Try.f49.body.bind (comp Try.prog) = some A49 := by kernel_rfl
theorem r49 : Xj Try.prog Try.f49.results.toList = some [.tmp 2] := by kernel_rfl
theorem n49 : NG Try.f49 := by decide +kernel
noncomputable def E49 : Nat × ACode × Nat × List RV := (49, A49, 19, [.tmp 2])
theorem e49 : Xu Try.prog E49 := ⟨Try.f49, Try.func49, n49, a49, Try.ntmps49, r49⟩
noncomputable def A50 := cE Try.f50
theorem a50 : Try.f50.body.bind (comp Try.prog) = some A50 := by kernel_rfl
theorem r50 : Xj Try.prog Try.f50.results.toList = some [.tmp 4] := by kernel_rfl
theorem n50 : NG Try.f50 := by decide +kernel
noncomputable def E50 : Nat × ACode × Nat × List RV := (50, A50, 16, [.tmp 4])
theorem e50 : Xu Try.prog E50 := ⟨Try.f50, Try.func50, n50, a50, Try.ntmps50, r50⟩
noncomputable def A51 := cE Try.f51
theorem a51 : Try.f51.body.bind (comp Try.prog) = some A51 := by kernel_rfl
theorem r51 : Xj Try.prog Try.f51.results.toList = some [.tmp 4] := by kernel_rfl
theorem n51 : NG Try.f51 := by decide +kernel
noncomputable def E51 : Nat × ACode × Nat × List RV := (51, A51, 23, [.tmp 4])
theorem e51 : Xu Try.prog E51 := ⟨Try.f51, Try.func51, n51, a51, Try.ntmps51, r51⟩
noncomputable def A52 := cE Try.f52
theorem a52 : Try.f52.body.bind (comp Try.prog) = some A52 := by kernel_rfl
theorem r52 : Xj Try.prog Try.f52.results.toList = some [.tmp 6] := by kernel_rfl
theorem n52 : NG Try.f52 := by decide +kernel
noncomputable def E52 : Nat × ACode × Nat × List RV := (52, A52, 23, [.tmp 6])
theorem e52 : Xu Try.prog E52 := ⟨Try.f52, Try.func52, n52, a52, Try.ntmps52, r52⟩
noncomputable def A53 := cE Try.f53
theorem a53 : Try.f53.body.bind (comp Try.prog) = some A53 := by kernel_rfl
theorem r53 : Xj Try.prog Try.f53.results.toList = some [.tmp 4] := by kernel_rfl
theorem n53 : NG Try.f53 := by decide +kernel
noncomputable def E53 : Nat × ACode × Nat × List RV := (53, A53, 32, [.tmp 4])
theorem e53 : Xu Try.prog E53 := ⟨Try.f53, Try.func53, n53, a53, Try.ntmps53, r53⟩
noncomputable def A54 := cE Try.f54
theorem a54 : Try.f54.body.bind (comp Try.prog) = some A54 := by kernel_rfl
theorem r54 : Xj Try.prog Try.f54.results.toList = some [.tmp 4, .tmp 5] := by kernel_rfl
theorem n54 : NG Try.f54 := by decide +kernel
noncomputable def E54 : Nat × ACode × Nat × List RV := (54, A54, 11, [.tmp 4, .tmp 5])
theorem e54 : Xu Try.prog E54 := ⟨Try.f54, Try.func54, n54, a54, Try.ntmps54, r54⟩
noncomputable def A55 := cE Try.f55
theorem a55 : Try.f55.body.bind (comp Try.prog) = some A55 := by kernel_rfl
theorem r55 : Xj Try.prog Try.f55.results.toList = some [.tmp 2] := by kernel_rfl
theorem n55 : NG Try.f55 := by decide +kernel
noncomputable def E55 : Nat × ACode × Nat × List RV := (55, A55, 22, [.tmp 2])
theorem e55 : Xu Try.prog E55 := ⟨Try.f55, Try.func55, n55, a55, Try.ntmps55, r55⟩
noncomputable def A56 := cE Try.f56
theorem a56 : Try.f56.body.bind (comp Try.prog) = some A56 := by kernel_rfl
theorem r56 : Xj Try.prog Try.f56.results.toList = some [.tmp 8, .tmp 9] := by kernel_rfl
theorem n56 : NG Try.f56 := by decide +kernel
noncomputable def A57 := cE Try.f57
theorem a57 : Try.f57.body.bind (comp Try.prog) = some A57 := by kernel_rfl
theorem r57 : Xj Try.prog Try.f57.results.toList = some [.tmp 4, .tmp 5] := by kernel_rfl
theorem n57 : NG Try.f57 := by decide +kernel
noncomputable def A58 := cE Try.f58
theorem a58 : Try.f58.body.bind (comp Try.prog) = some A58 := by kernel_rfl
theorem r58 : Xj Try.prog Try.f58.results.toList = some [.tmp 6] := by kernel_rfl
theorem n58 : NG Try.f58 := by decide +kernel
noncomputable def A59 := cE Try.f59
theorem a59 : Try.f59.body.bind (comp Try.prog) = some A59 := by kernel_rfl
theorem r59 : Xj Try.prog Try.f59.results.toList = some [] := by kernel_rfl
theorem n59 : NG Try.f59 := by decide +kernel
noncomputable def E59 : Nat × ACode × Nat × List RV := (59, A59, 16, [])
theorem e59 : Xu Try.prog E59 := ⟨Try.f59, Try.func59, n59, a59, Try.ntmps59, r59⟩
noncomputable def A60 := cE Try.f60
theorem a60 : Try.f60.body.bind (comp Try.prog) = some A60 := by kernel_rfl
theorem r60 : Xj Try.prog Try.f60.results.toList = some [.tmp 2] := by kernel_rfl
theorem n60 : NG Try.f60 := by decide +kernel
noncomputable def E60 : Nat × ACode × Nat × List RV := (60, A60, 27, [.tmp 2])
theorem e60 : Xu Try.prog E60 := ⟨Try.f60, Try.func60, n60, a60, Try.ntmps60, r60⟩
noncomputable def A61 := cE Try.f61
theorem a61 : Try.f61.body.bind (comp Try.prog) = some A61 := by kernel_rfl
theorem r61 : Xj Try.prog Try.f61.results.toList = some [.tmp 6] := by kernel_rfl
theorem n61 : NG Try.f61 := by decide +kernel
noncomputable def E61 : Nat × ACode × Nat × List RV := (61, A61, 62, [.tmp 6])
theorem e61 : Xu Try.prog E61 := ⟨Try.f61, Try.func61, n61, a61, Try.ntmps61, r61⟩
noncomputable def A62 := cE Try.f62
theorem a62 : Try.f62.body.bind (comp Try.prog) = some A62 := by kernel_rfl
theorem r62 : Xj Try.prog Try.f62.results.toList = some [.tmp 6] := by kernel_rfl
theorem n62 : NG Try.f62 := by decide +kernel
noncomputable def E62 : Nat × ACode × Nat × List RV := (62, A62, 58, [.tmp 6])
theorem e62 : Xu Try.prog E62 := ⟨Try.f62, Try.func62, n62, a62, Try.ntmps62, r62⟩
noncomputable def A63 := cE Try.f63
theorem a63 : Try.f63.body.bind (comp Try.prog) = some A63 := by kernel_rfl
theorem r63 : Xj Try.prog Try.f63.results.toList = some [.tmp 6] := by kernel_rfl
theorem n63 : NG Try.f63 := by decide +kernel
noncomputable def E63 : Nat × ACode × Nat × List RV := (63, A63, 63, [.tmp 6])
theorem e63 : Xu Try.prog E63 := ⟨Try.f63, Try.func63, n63, a63, Try.ntmps63, r63⟩
noncomputable def A64 := cE Try.f64
theorem a64 : Try.f64.body.bind (comp Try.prog) = some A64 := by kernel_rfl
theorem r64 : Xj Try.prog Try.f64.results.toList = some [.tmp 6, .tmp 7] := by kernel_rfl
theorem n64 : NG Try.f64 := by decide +kernel
noncomputable def E64 : Nat × ACode × Nat × List RV := (64, A64, 20, [.tmp 6, .tmp 7])
theorem e64 : Xu Try.prog E64 := ⟨Try.f64, Try.func64, n64, a64, Try.ntmps64, r64⟩
noncomputable def A65 := cE Try.f65
theorem a65 : Try.f65.body.bind (comp Try.prog) = some A65 := by kernel_rfl
theorem r65 : Xj Try.prog Try.f65.results.toList = some [.tmp 4, .tmp 5] := by kernel_rfl
theorem n65 : NG Try.f65 := by decide +kernel
noncomputable def E65 : Nat × ACode × Nat × List RV := (65, A65, 23, [.tmp 4, .tmp 5])
theorem e65 : Xu Try.prog E65 := ⟨Try.f65, Try.func65, n65, a65, Try.ntmps65, r65⟩
noncomputable def A66 := cE Try.f66
theorem a66 : Try.f66.body.bind (comp Try.prog) = some A66 := by kernel_rfl
theorem r66 : Xj Try.prog Try.f66.results.toList = some [.tmp 2] := by kernel_rfl
theorem n66 : NG Try.f66 := by decide +kernel
noncomputable def E66 : Nat × ACode × Nat × List RV := (66, A66, 22, [.tmp 2])
theorem e66 : Xu Try.prog E66 := ⟨Try.f66, Try.func66, n66, a66, Try.ntmps66, r66⟩
noncomputable def A67 := cE Try.f67
theorem a67 : Try.f67.body.bind (comp Try.prog) = some A67 := by kernel_rfl
theorem r67 : Xj Try.prog Try.f67.results.toList = some [.tmp 8, .tmp 9] := by kernel_rfl
theorem n67 : NG Try.f67 := by decide +kernel
noncomputable def E67 : Nat × ACode × Nat × List RV := (67, A67, 35, [.tmp 8, .tmp 9])
theorem e67 : Xu Try.prog E67 := ⟨Try.f67, Try.func67, n67, a67, Try.ntmps67, r67⟩
noncomputable def A68 := cE Try.f68
theorem a68 : Try.f68.body.bind (comp Try.prog) = some A68 := by kernel_rfl
theorem r68 : Xj Try.prog Try.f68.results.toList = some [.cell 4 2 true] := by kernel_rfl
theorem n68 : NG Try.f68 := by decide +kernel
noncomputable def A69 := cE Try.f69
theorem a69 : Try.f69.body.bind (comp Try.prog) = some A69 := by kernel_rfl
theorem r69 : Xj Try.prog Try.f69.results.toList = some [] := by kernel_rfl
theorem n69 : NG Try.f69 := by decide +kernel
noncomputable def E69 : Nat × ACode × Nat × List RV := (69, A69, 6, [])
theorem e69 : Xu Try.prog E69 := ⟨Try.f69, Try.func69, n69, a69, Try.ntmps69, r69⟩
noncomputable def A70 := cE Try.f70
theorem a70 : Try.f70.body.bind (comp Try.prog) = some A70 := by kernel_rfl
theorem r70 : Xj Try.prog Try.f70.results.toList = some [.tmp 6] := by kernel_rfl
theorem n70 : NG Try.f70 := by decide +kernel
noncomputable def E70 : Nat × ACode × Nat × List RV := (70, A70, 38, [.tmp 6])
theorem e70 : Xu Try.prog E70 := ⟨Try.f70, Try.func70, n70, a70, Try.ntmps70, r70⟩
noncomputable def A71 := cE Try.f71
theorem a71 : Try.f71.body.bind (comp Try.prog) = some A71 := by kernel_rfl
theorem r71 : Xj Try.prog Try.f71.results.toList = some [.tmp 4] := by kernel_rfl
theorem n71 : NG Try.f71 := by decide +kernel
noncomputable def E71 : Nat × ACode × Nat × List RV := (71, A71, 32, [.tmp 4])
theorem e71 : Xu Try.prog E71 := ⟨Try.f71, Try.func71, n71, a71, Try.ntmps71, r71⟩
def A72 : ACode :=
 (.seq (.reg [ oo 9 (.box (.t 4) 129), oo 10 (.mov (.k (.vec true [])))]) (.seq (.reg [ oo 11 (.mov (.k (.vec true [])))]) (.seq (.seq (.reg [ om 18 2, oo 19 (.len false (.t 18)), oo 20 (.mov (ki 0))]) (.block 0 (.loop (.seq (.reg [ oo 21 (.bin .lss (.t 20) (.t 19))]) (.seq (.cond (.t 21) .skip (.exit 0)) (.seq (.block 1 (.seq (.reg [ om 22 20, oo 23 (.idx 1 (.t 18) (.t 20)), oo 24 (.load 1 false (.t 23)), om 12 22, om 13 24]) (.seq (.seq (.reg [ om 25 13, oo 26 (.bin .eql (.t 25) (ki 0))]) (.cond (.t 26) (.exit 1) .skip)) (.seq (.reg [ om 27 0, oo 28 (.nchk (.t 27)), oo 29 (.fld 0 (.t 28)), oo 30 (.load 1 false (.t 29)), om 31 1, om 32 13, oo 33 (.bin .add (.t 31) (.t 32)), oo 34 (.build [(.vec true []), (.int .i64 0)] [(0, 1, (.t 30)), (1, 1, (.t 33))]), oo 35 (.box (.t 34) 121), om 14 35]) (.seq (.reg [ om 36 14, oo 37 (.call 60 [.t 36]), om 15 37]) (.seq (.reg [ om 38 15, oo 39 (.bin .leq (.t 38) (ki 64)), oo 40 (.call 69 [.t 39])]) (.seq (.reg [ om 41 14, om 42 15, oo 43 (.call 71 [.t 41, .t 42]), oo 44 (.len false (.t 43)), oo 45 (.mov (ki 0))]) (.block 2 (.loop (.seq (.reg [ oo 46 (.bin .lss (.t 45) (.t 44))]) (.seq (.cond (.t 46) .skip (.exit 2)) (.seq (.block 3 (.seq (.reg [ oo 47 (.idx 1 (.t 43) (.t 45)), oo 48 (.load 1 false (.t 47)), om 17 48]) (.seq (.regd2 [ dd (om 49 11) 0, dd (om 50 0) 1, dd (oo 51 (.nchk (.t 50))) 2, dd (oo 52 (.fld 0 (.t 51))) 3, dd (oo 53 (.load 1 false (.t 52))) 4, dd (om 54 1) 5, dd (om 55 13) 6, dd (oo 56 (.bin .add (.t 54) (.t 55))) 7, dd (om 57 17) 8, dd (oo 58 (.bin .add (.t 56) (.t 57))) 9, dd (oo 59 (.build [(.vec true []), (.int .i64 0)] [(0, 1, (.t 53)), (1, 1, (.t 58))])) 10, dd (om 61 3) 12, dd (om 62 12) 13, ⟨⟨some 64, .load 4 true (.t 9), none⟩, 15, [], true⟩, ⟨⟨some 60, .box (.t 59) 121, none⟩, 11, [10, 4, 3, 2, 1, 9, 7, 5, 6, 8], false⟩, ⟨⟨some 63, .callv (.t 61) [.t 62], none⟩, 14, [12, 13, 11, 10, 4, 3, 2, 1, 9, 7, 5, 6, 8], false⟩, ⟨⟨some 65, .call 90 [.t 60, .t 63, .t 64], none⟩, 16, [11, 10, 4, 3, 2, 1, 9, 7, 5, 6, 8, 14, 12, 13, 15, 11, 10, 4, 3, 2, 1, 9, 7, 5, 6, 8], false⟩, dd (oo 66 (.lits 4 57 [.t 65])) 17, ⟨⟨some 67, .app 4 96 57 (.t 49) (.t 66), none⟩, 18, [0, 17, 16, 11, 10, 4, 3, 2, 1, 9, 7, 5, 6, 8, 14, 12, 13, 15, 11, 10, 4, 3, 2, 1, 9, 7, 5, 6, 8], false⟩, ⟨⟨some 11, .mov (.t 67), none⟩, 19, [], false⟩] [ dd (om 49 11) 0, dd (om 50 0) 1, dd (oo 51 (.nchk (.t 50))) 2, dd (oo 52 (.fld 0 (.t 51))) 3, ⟨⟨some 53, .load 1 false (.t 52), none⟩, 4, [], true⟩, dd (om 54 1) 5, dd (om 55 13) 6, dd (oo 56 (.bin .add (.t 54) (.t 55))) 7, dd (om 57 17) 8, dd (oo 58 (.bin .add (.t 56) (.t 57))) 9, dd (oo 59 (.build [(.vec true []), (.int .i64 0)] [(0, 1, (.t 53)), (1, 1, (.t 58))])) 10, dd (om 61 3) 12, dd (om 62 12) 13, ⟨⟨some 64, .load 4 true (.t 9), none⟩, 15, [], true⟩, ⟨⟨some 63, .callv (.t 61) [.t 62], none⟩, 14, [12, 13], false⟩, ⟨⟨some 60, .box (.t 59) 121, none⟩, 11, [10, 4, 3, 2, 1, 9, 7, 5, 6, 8, 14, 12, 13], false⟩, ⟨⟨some 65, .call 90 [.t 60, .t 63, .t 64], none⟩, 16, [11, 10, 4, 3, 2, 1, 9, 7, 5, 6, 8, 14, 12, 13, 15, 14, 12, 13], false⟩, dd (oo 66 (.lits 4 57 [.t 65])) 17, ⟨⟨some 67, .app 4 96 57 (.t 49) (.t 66), none⟩, 18, [0, 17, 16, 11, 10, 4, 3, 2, 1, 9, 7, 5, 6, 8, 14, 12, 13, 15, 14, 12, 13], false⟩, dd (om 11 67) 19]) (.reg [ om 68 11, oo 69 (.len false (.t 68)), oo 70 (.bin .leq (.t 69) (ki 64)), oo 71 (.call 69 [.t 70])])))) (.reg [ oo 72 (.bin .add (.t 45) (ki 1)), om 45 72]))))))))))))) (.reg [ oo 73 (.bin .add (.t 20) (ki 1)), om 20 73]))))))) (.seq (.reg [ om 74 11, om 10 74]) .ret))))
theorem a72 : Try.f72.body.bind (comp Try.prog) = some A72 := by kernel_rfl
theorem r72 : Xj Try.prog Try.f72.results.toList = some [.tmp 10] := by kernel_rfl
theorem n72 : NG Try.f72 := by decide +kernel
def E72 : Nat × ACode × Nat × List RV := (72, A72, 75, [.tmp 10])
theorem e72 : Xu Try.prog E72 := ⟨Try.f72, Try.func72, n72, a72, Try.ntmps72, r72⟩
noncomputable def A73 := cE Try.f73
theorem a73 : Try.f73.body.bind (comp Try.prog) = some A73 := by kernel_rfl
theorem r73 : Xj Try.prog Try.f73.results.toList = some [.cell 3 2 true] := by kernel_rfl
theorem n73 : NG Try.f73 := by decide +kernel
noncomputable def E73 : Nat × ACode × Nat × List RV := (73, A73, 9, [.cell 3 2 true])
theorem e73 : Xu Try.prog E73 := ⟨Try.f73, Try.func73, n73, a73, Try.ntmps73, r73⟩
noncomputable def A74 := cE Try.f74
theorem a74 : Try.f74.body.bind (comp Try.prog) = some A74 := by kernel_rfl
theorem r74 : Xj Try.prog Try.f74.results.toList = some [.cell 2 2 true] := by kernel_rfl
theorem n74 : NG Try.f74 := by decide +kernel
noncomputable def E74 : Nat × ACode × Nat × List RV := (74, A74, 8, [.cell 2 2 true])
theorem e74 : Xu Try.prog E74 := ⟨Try.f74, Try.func74, n74, a74, Try.ntmps74, r74⟩
noncomputable def A75 := cE Try.f75
theorem a75 : Try.f75.body.bind (comp Try.prog) = some A75 := by kernel_rfl
theorem r75 : Xj Try.prog Try.f75.results.toList = some [.tmp 6] := by kernel_rfl
theorem n75 : NG Try.f75 := by decide +kernel
noncomputable def E75 : Nat × ACode × Nat × List RV := (75, A75, 25, [.tmp 6])
theorem e75 : Xu Try.prog E75 := ⟨Try.f75, Try.func75, n75, a75, Try.ntmps75, r75⟩
noncomputable def A76 := cE Try.f76
theorem a76 : Try.f76.body.bind (comp Try.prog) = some A76 := by kernel_rfl
theorem r76 : Xj Try.prog Try.f76.results.toList = some [.tmp 2] := by kernel_rfl
theorem n76 : NG Try.f76 := by decide +kernel
noncomputable def E76 : Nat × ACode × Nat × List RV := (76, A76, 4, [.tmp 2])
theorem e76 : Xu Try.prog E76 := ⟨Try.f76, Try.func76, n76, a76, Try.ntmps76, r76⟩
noncomputable def A77 := cE Try.f77
theorem a77 : Try.f77.body.bind (comp Try.prog) = some A77 := by kernel_rfl
theorem r77 : Xj Try.prog Try.f77.results.toList = some [.cell 3 2 true] := by kernel_rfl
theorem n77 : NG Try.f77 := by decide +kernel
noncomputable def E77 : Nat × ACode × Nat × List RV := (77, A77, 7, [.cell 3 2 true])
theorem e77 : Xu Try.prog E77 := ⟨Try.f77, Try.func77, n77, a77, Try.ntmps77, r77⟩
noncomputable def A78 := cE Try.f78
theorem a78 : Try.f78.body.bind (comp Try.prog) = some A78 := by kernel_rfl
theorem r78 : Xj Try.prog Try.f78.results.toList = some [.cell 4 2 true] := by kernel_rfl
theorem n78 : NG Try.f78 := by decide +kernel
noncomputable def E78 : Nat × ACode × Nat × List RV := (78, A78, 36, [.cell 4 2 true])
theorem e78 : Xu Try.prog E78 := ⟨Try.f78, Try.func78, n78, a78, Try.ntmps78, r78⟩
noncomputable def A79 := cE Try.f79
theorem a79 : Try.f79.body.bind (comp Try.prog) = some A79 := by kernel_rfl
theorem r79 : Xj Try.prog Try.f79.results.toList = some [.cell 4 2 true] := by kernel_rfl
theorem n79 : NG Try.f79 := by decide +kernel
noncomputable def E79 : Nat × ACode × Nat × List RV := (79, A79, 11, [.cell 4 2 true])
theorem e79 : Xu Try.prog E79 := ⟨Try.f79, Try.func79, n79, a79, Try.ntmps79, r79⟩
noncomputable def A80 := cE Try.f80
theorem a80 : Try.f80.body.bind (comp Try.prog) = some A80 := by kernel_rfl
theorem r80 : Xj Try.prog Try.f80.results.toList = some [.tmp 4] := by kernel_rfl
theorem n80 : NG Try.f80 := by decide +kernel
noncomputable def E80 : Nat × ACode × Nat × List RV := (80, A80, 72, [.tmp 4])
theorem e80 : Xu Try.prog E80 := ⟨Try.f80, Try.func80, n80, a80, Try.ntmps80, r80⟩
noncomputable def A81 := cE Try.f81
theorem a81 : Try.f81.body.bind (comp Try.prog) = some A81 := by kernel_rfl
theorem r81 : Xj Try.prog Try.f81.results.toList = some [.tmp 6] := by kernel_rfl
theorem n81 : NG Try.f81 := by decide +kernel
noncomputable def E81 : Nat × ACode × Nat × List RV := (81, A81, 20, [.tmp 6])
theorem e81 : Xu Try.prog E81 := ⟨Try.f81, Try.func81, n81, a81, Try.ntmps81, r81⟩
noncomputable def A82 := cE Try.f82
theorem a82 : Try.f82.body.bind (comp Try.prog) = some A82 := by kernel_rfl
theorem r82 : Xj Try.prog Try.f82.results.toList = some [.tmp 6] := by kernel_rfl
theorem n82 : NG Try.f82 := by decide +kernel
noncomputable def E82 : Nat × ACode × Nat × List RV := (82, A82, 29, [.tmp 6])
theorem e82 : Xu Try.prog E82 := ⟨Try.f82, Try.func82, n82, a82, Try.ntmps82, r82⟩
noncomputable def A83 := cE Try.f83
theorem a83 : Try.f83.body.bind (comp Try.prog) = some A83 := by kernel_rfl
theorem r83 : Xj Try.prog Try.f83.results.toList = some [.tmp 6] := by kernel_rfl
theorem n83 : NG Try.f83 := by decide +kernel
noncomputable def E83 : Nat × ACode × Nat × List RV := (83, A83, 27, [.tmp 6])
theorem e83 : Xu Try.prog E83 := ⟨Try.f83, Try.func83, n83, a83, Try.ntmps83, r83⟩
noncomputable def A84 := cE Try.f84
theorem a84 : Try.f84.body.bind (comp Try.prog) = some A84 := by kernel_rfl
theorem r84 : Xj Try.prog Try.f84.results.toList = some [.tmp 2] := by kernel_rfl
theorem n84 : NG Try.f84 := by decide +kernel
noncomputable def E84 : Nat × ACode × Nat × List RV := (84, A84, 19, [.tmp 2])
theorem e84 : Xu Try.prog E84 := ⟨Try.f84, Try.func84, n84, a84, Try.ntmps84, r84⟩
noncomputable def A85 := cE Try.f85
theorem a85 : Try.f85.body.bind (comp Try.prog) = some A85 := by kernel_rfl
theorem r85 : Xj Try.prog Try.f85.results.toList = some [.tmp 4] := by kernel_rfl
theorem n85 : NG Try.f85 := by decide +kernel
noncomputable def E85 : Nat × ACode × Nat × List RV := (85, A85, 16, [.tmp 4])
theorem e85 : Xu Try.prog E85 := ⟨Try.f85, Try.func85, n85, a85, Try.ntmps85, r85⟩
noncomputable def A86 := cE Try.f86
theorem a86 : Try.f86.body.bind (comp Try.prog) = some A86 := by kernel_rfl
theorem r86 : Xj Try.prog Try.f86.results.toList = some [.tmp 4, .tmp 5] := by kernel_rfl
theorem n86 : NG Try.f86 := by decide +kernel
noncomputable def E86 : Nat × ACode × Nat × List RV := (86, A86, 52, [.tmp 4, .tmp 5])
theorem e86 : Xu Try.prog E86 := ⟨Try.f86, Try.func86, n86, a86, Try.ntmps86, r86⟩
noncomputable def A87 := cE Try.f87
theorem a87 : Try.f87.body.bind (comp Try.prog) = some A87 := by kernel_rfl
theorem r87 : Xj Try.prog Try.f87.results.toList = some [.tmp 4, .tmp 5] := by kernel_rfl
theorem n87 : NG Try.f87 := by decide +kernel
noncomputable def E87 : Nat × ACode × Nat × List RV := (87, A87, 47, [.tmp 4, .tmp 5])
theorem e87 : Xu Try.prog E87 := ⟨Try.f87, Try.func87, n87, a87, Try.ntmps87, r87⟩
noncomputable def A88 := cE Try.f88
theorem a88 : Try.f88.body.bind (comp Try.prog) = some A88 := by kernel_rfl
theorem r88 : Xj Try.prog Try.f88.results.toList = some [.tmp 4] := by kernel_rfl
theorem n88 : NG Try.f88 := by decide +kernel
noncomputable def E88 : Nat × ACode × Nat × List RV := (88, A88, 19, [.tmp 4])
theorem e88 : Xu Try.prog E88 := ⟨Try.f88, Try.func88, n88, a88, Try.ntmps88, r88⟩
noncomputable def A89 := cE Try.f89
theorem a89 : Try.f89.body.bind (comp Try.prog) = some A89 := by kernel_rfl
theorem r89 : Xj Try.prog Try.f89.results.toList = some [.tmp 5] := by kernel_rfl
theorem n89 : NG Try.f89 := by decide +kernel
noncomputable def E89 : Nat × ACode × Nat × List RV := (89, A89, 20, [.tmp 5])
theorem e89 : Xu Try.prog E89 := ⟨Try.f89, Try.func89, n89, a89, Try.ntmps89, r89⟩
noncomputable def A90 := cE Try.f90
theorem a90 : Try.f90.body.bind (comp Try.prog) = some A90 := by kernel_rfl
theorem r90 : Xj Try.prog Try.f90.results.toList = some [.cell 6 4 true] := by kernel_rfl
theorem n90 : NG Try.f90 := by decide +kernel
noncomputable def E90 : Nat × ACode × Nat × List RV := (90, A90, 70, [.cell 6 4 true])
theorem e90 : Xu Try.prog E90 := ⟨Try.f90, Try.func90, n90, a90, Try.ntmps90, r90⟩
noncomputable def A91 := cE Try.f91
theorem a91 : Try.f91.body.bind (comp Try.prog) = some A91 := by kernel_rfl
theorem r91 : Xj Try.prog Try.f91.results.toList = some [.tmp 4, .tmp 5] := by kernel_rfl
theorem n91 : NG Try.f91 := by decide +kernel
noncomputable def E91 : Nat × ACode × Nat × List RV := (91, A91, 105, [.tmp 4, .tmp 5])
theorem e91 : Xu Try.prog E91 := ⟨Try.f91, Try.func91, n91, a91, Try.ntmps91, r91⟩
noncomputable def A92 := cE Try.f92
theorem a92 : Try.f92.body.bind (comp Try.prog) = some A92 := by kernel_rfl
theorem r92 : Xj Try.prog Try.f92.results.toList = some [.tmp 4] := by kernel_rfl
theorem n92 : NG Try.f92 := by decide +kernel
noncomputable def E92 : Nat × ACode × Nat × List RV := (92, A92, 34, [.tmp 4])
theorem e92 : Xu Try.prog E92 := ⟨Try.f92, Try.func92, n92, a92, Try.ntmps92, r92⟩
noncomputable def A93 := cE Try.f93
theorem a93 : Try.f93.body.bind (comp Try.prog) = some A93 := by kernel_rfl
theorem r93 : Xj Try.prog Try.f93.results.toList = some [] := by kernel_rfl
theorem n93 : NG Try.f93 := by decide +kernel
noncomputable def E93 : Nat × ACode × Nat × List RV := (93, A93, 13, [])
theorem e93 : Xu Try.prog E93 := ⟨Try.f93, Try.func93, n93, a93, Try.ntmps93, r93⟩
noncomputable def A94 := cE Try.f94
theorem a94 : Try.f94.body.bind (comp Try.prog) = some A94 := by kernel_rfl
theorem r94 : Xj Try.prog Try.f94.results.toList = some [.tmp 4, .tmp 5] := by kernel_rfl
theorem n94 : NG Try.f94 := by decide +kernel
noncomputable def E94 : Nat × ACode × Nat × List RV := (94, A94, 75, [.tmp 4, .tmp 5])
theorem e94 : Xu Try.prog E94 := ⟨Try.f94, Try.func94, n94, a94, Try.ntmps94, r94⟩
noncomputable def A95 := cE Try.f95
theorem a95 : Try.f95.body.bind (comp Try.prog) = some A95 := by kernel_rfl
theorem r95 : Xj Try.prog Try.f95.results.toList = some [.tmp 4] := by kernel_rfl
theorem n95 : NG Try.f95 := by decide +kernel
noncomputable def E95 : Nat × ACode × Nat × List RV := (95, A95, 22, [.tmp 4])
theorem e95 : Xu Try.prog E95 := ⟨Try.f95, Try.func95, n95, a95, Try.ntmps95, r95⟩
noncomputable def A96 := cE Try.f96
theorem a96 : Try.f96.body.bind (comp Try.prog) = some A96 := by kernel_rfl
theorem r96 : Xj Try.prog Try.f96.results.toList = some [.tmp 4] := by kernel_rfl
theorem n96 : NG Try.f96 := by decide +kernel
noncomputable def E96 : Nat × ACode × Nat × List RV := (96, A96, 49, [.tmp 4])
theorem e96 : Xu Try.prog E96 := ⟨Try.f96, Try.func96, n96, a96, Try.ntmps96, r96⟩
end Go.Proofs.Ytcbhlpbkampfeaa.AI
