/- Texts of the proof, laid together: What the functions of this text come to, as predicates on heaps (printed by my own program out of the dump), each with its proof against the program. -/
import Derived.Test.YtglcanljknjcfaaGreatDoorP1
import Derived.Test.YtglcanljknjcfaaGreatDoorP2
import Derived.Test.YtglcanljknjcfaaGreatDoorProg
set_option linter.unusedVariables false
set_option maxRecDepth 100000
namespace Go.Proofs.YtglcanljknjcfaaGreatDoor
open Go Go.HW
abbrev rg (n m : Nat) : Ann := .region [(List.range n, m)]
noncomputable abbrev PP : Program := Tryz.prog
abbrev T_ : TypeId := 0
abbrev y38 : TypeId := 3
abbrev T_bool : TypeId := 4
abbrev T_uint8 : TypeId := 5
abbrev y19 : TypeId := 9
abbrev T_int32 : TypeId := 21
abbrev y87 : TypeId := 22
abbrev y63 : TypeId := 25
abbrev y47 : TypeId := 28
abbrev y49 : TypeId := 33
abbrev y45 : TypeId := 35
abbrev y10 : TypeId := 37
abbrev y20 : TypeId := 39
abbrev y16 : TypeId := 44
abbrev y17 : TypeId := 46
abbrev y39 : TypeId := 60
abbrev T_sl_int : TypeId := 75
abbrev y85 : TypeId := 78
abbrev y75 : TypeId := 81
abbrev y33 : TypeId := 83
abbrev y60 : TypeId := 87
abbrev y29 : TypeId := 88
abbrev y18 : TypeId := 90
abbrev y67 : TypeId := 91
abbrev y78 : TypeId := 92
abbrev y35 : TypeId := 95
abbrev y84 : TypeId := 108
abbrev y44 : TypeId := 125
abbrev T_sl_uint8 : TypeId := 134
abbrev y82 : TypeId := 136
abbrev y83 : TypeId := 137
abbrev y24 : TypeId := 138
abbrev y90 : TypeId := 140
abbrev y13 : TypeId := 141
abbrev y30 : TypeId := 143
abbrev y27 : TypeId := 145
abbrev y15 : TypeId := 146
abbrev y61 : TypeId := 158
abbrev y11 : TypeId := 164
abbrev y48 : TypeId := 230
abbrev z132 : FuncId := 3
abbrev z134 : FuncId := 7
abbrev z149 : FuncId := 8
abbrev z142 : FuncId := 9
abbrev z144 : FuncId := 10
abbrev z281 : FuncId := 11
abbrev z285 : FuncId := 12
abbrev z138 : FuncId := 13
abbrev z283 : FuncId := 14
abbrev z293 : FuncId := 15
abbrev z301 : FuncId := 16
abbrev z163 : FuncId := 17
abbrev z277 : FuncId := 19
abbrev z289 : FuncId := 22
abbrev z320 : FuncId := 23
abbrev z291 : FuncId := 26
abbrev z297 : FuncId := 27
abbrev z299 : FuncId := 28
abbrev z279 : FuncId := 29
abbrev z287 : FuncId := 30
abbrev z295 : FuncId := 31
abbrev z303 : FuncId := 32
abbrev z129 : FuncId := 33
abbrev z322 : FuncId := 34
abbrev z328 : FuncId := 35
abbrev z111 : FuncId := 36
abbrev z309 : FuncId := 37
abbrev z346 : FuncId := 38
abbrev z330 : FuncId := 39
abbrev z332 : FuncId := 40
abbrev z313 : FuncId := 41
abbrev z107 : FuncId := 42
abbrev z305 : FuncId := 43
abbrev z319 : FuncId := 44
abbrev z344 : FuncId := 45
abbrev z97 : FuncId := 46
abbrev z167 : FuncId := 47
abbrev z95 : FuncId := 48
abbrev z338 : FuncId := 67
abbrev z315 : FuncId := 68
abbrev F_slices_Sort_string_string : FuncId := 69
abbrev z342 : FuncId := 70
abbrev z336 : FuncId := 71
abbrev F_slices_Sort_int_int : FuncId := 72
abbrev z181 : FuncId := 73
abbrev z324 : FuncId := 74
abbrev z109 : FuncId := 75
abbrev z187 : FuncId := 76
abbrev z311 : FuncId := 77
abbrev z201 : FuncId := 78
abbrev z151 : FuncId := 79
abbrev z348 : FuncId := 80
abbrev z125 : FuncId := 81
abbrev z121 : FuncId := 82
abbrev z179 : FuncId := 83
abbrev z334 : FuncId := 84
abbrev z101 : FuncId := 85
abbrev z185 : FuncId := 86
abbrev z307 : FuncId := 87
abbrev z350 : FuncId := 88
abbrev z340 : FuncId := 89
abbrev z113 : FuncId := 90
abbrev z99 : FuncId := 91
abbrev z169 : FuncId := 92
abbrev z317 : FuncId := 106
abbrev z103 : FuncId := 107
abbrev z155 : FuncId := 109
abbrev z193 : FuncId := 111
abbrev z117 : FuncId := 112
abbrev z175 : FuncId := 113
abbrev z189 : FuncId := 114
abbrev z177 : FuncId := 115
abbrev z199 : FuncId := 116
abbrev z153 : FuncId := 117
abbrev z127 : FuncId := 118
abbrev z191 : FuncId := 119
abbrev z195 : FuncId := 120
abbrev z269 : FuncId := 121
abbrev z265 : FuncId := 122
abbrev z352 : FuncId := 123
abbrev z263 : FuncId := 124
abbrev z197 : FuncId := 125
abbrev z115 : FuncId := 126
abbrev z105 : FuncId := 131
abbrev z159 : FuncId := 142
abbrev z173 : FuncId := 152
abbrev z119 : FuncId := 153
abbrev z171 : FuncId := 154
abbrev z251 : FuncId := 155
abbrev z273 : FuncId := 156
abbrev z271 : FuncId := 157
abbrev z267 : FuncId := 158
abbrev z249 : FuncId := 159
abbrev z231 : FuncId := 162
abbrev z261 : FuncId := 163
abbrev z217 : FuncId := 170
abbrev z213 : FuncId := 171
abbrev z205 : FuncId := 172
abbrev z209 : FuncId := 173
abbrev z255 : FuncId := 174
abbrev z239 : FuncId := 175
abbrev z247 : FuncId := 176
abbrev z243 : FuncId := 177
abbrev z275 : FuncId := 178
abbrev F_strings_Index : FuncId := 180
abbrev F_strings_IndexByte : FuncId := 181
abbrev z326 : FuncId := 182
abbrev z215 : FuncId := 185
abbrev z211 : FuncId := 186
abbrev z203 : FuncId := 187
abbrev z207 : FuncId := 188
abbrev z253 : FuncId := 189
abbrev z237 : FuncId := 190
abbrev z245 : FuncId := 191
abbrev z241 : FuncId := 192
abbrev z259 : FuncId := 195
abbrev z223 : FuncId := 196
abbrev z227 : FuncId := 197
abbrev z257 : FuncId := 201
abbrev z220 : FuncId := 202
abbrev z225 : FuncId := 203
abbrev z235 : FuncId := 204
abbrev z233 : FuncId := 207
theorem U_int : PP.underlying y38 = some (.int .i64) := by kernel_rfl
theorem U_uint8 : PP.underlying T_uint8 = some (.int .u8) := by kernel_rfl
theorem y62 : PP.underlying y19 = some .string := by kernel_rfl
theorem U_int32 : PP.underlying T_int32 = some (.int .i32) := by kernel_rfl
theorem y91 : Elem PP y87 y47 6 80 (.agg #[.int .i64 0, .int .i64 0, (.string (⟨#[]⟩ : ByteArray)), (.string (⟨#[]⟩ : ByteArray)), (.string (⟨#[]⟩ : ByteArray)), (.string (⟨#[]⟩ : ByteArray))]) := Elem.of (by kernel_rfl) (by kernel_rfl)
theorem FL_haversacklaw14_Op : fieldsOf PP y47 = [(y38, 0, 1), (y38, 1, 1), (y19, 2, 1), (y19, 3, 1), (y19, 4, 1), (y19, 5, 1)] := by kernel_rfl
theorem y89 : Elem PP y49 y19 1 16 (.string (⟨#[]⟩ : ByteArray)) := Elem.of (by kernel_rfl) (by kernel_rfl)
theorem y68 : Elem PP y10 y17 5 72 (.agg #[(.string (⟨#[]⟩ : ByteArray)), (.string (⟨#[]⟩ : ByteArray)), (.string (⟨#[]⟩ : ByteArray)), .bool false, (.string (⟨#[]⟩ : ByteArray))]) := Elem.of (by kernel_rfl) (by kernel_rfl)
theorem y86 : Elem PP y39 y33 3 56 (.agg #[(.string (⟨#[]⟩ : ByteArray)), (.string (⟨#[]⟩ : ByteArray)), (.slice none 0 0)]) := Elem.of (by kernel_rfl) (by kernel_rfl)
theorem E_sl_int : Elem PP T_sl_int y38 1 8 (.int .i64 0) := Elem.of (by kernel_rfl) (by kernel_rfl)
theorem E_sl_api_Entry : Elem PP y75 y84 2 32 (.agg #[(.string (⟨#[]⟩ : ByteArray)), (.string (⟨#[]⟩ : ByteArray))]) := Elem.of (by kernel_rfl) (by kernel_rfl)
theorem y77 : Elem PP y60 y20 2 32 (.agg #[.int .i64 0, (.slice none 0 0)]) := Elem.of (by kernel_rfl) (by kernel_rfl)
theorem y71 : PP.underlying y29 = some (.map y38 y67) := by kernel_rfl
theorem E_sl_uint8 : Elem PP T_sl_uint8 T_uint8 1 1 (.int .u8 0) := Elem.of (by kernel_rfl) (by kernel_rfl)
theorem U_sl_uint8 : PP.underlying T_sl_uint8 = some (.slice T_uint8) := by kernel_rfl
theorem y92 : PP.underlying y82 = some (.map y16 T_bool) := by kernel_rfl
theorem y93 : PP.underlying y83 = some (.map y44 T_bool) := by kernel_rfl
theorem y72 : PP.underlying y24 = some (.map y16 y17) := by kernel_rfl
theorem y43 : PP.underlying y13 = some (.map y16 y15) := by kernel_rfl
theorem y55 : Elem PP y15 y27 3 32 (.agg #[.int .i64 0, .bool false, (.string (⟨#[]⟩ : ByteArray))]) := Elem.of (by kernel_rfl) (by kernel_rfl)
theorem y81 : PP.underlying y61 = some (.map y19 y38) := by kernel_rfl
theorem y88 : Elem PP y11 y16 3 48 (.agg #[(.string (⟨#[]⟩ : ByteArray)), (.string (⟨#[]⟩ : ByteArray)), (.string (⟨#[]⟩ : ByteArray))]) := Elem.of (by kernel_rfl) (by kernel_rfl)
namespace z130
def ann : Ann := (.seq 7 (rg 1 7) (.seq 7 (.seq 536870919 (rg 6 536870919) (.join (.cond (.seq 64 (rg 2 64) (.exit 64)) .leaf))) (.seq 135 (rg 2 135) (.seq 135 (.seq 8589934727 (rg 2 8589934727) (.cond (.seq 64 (rg 1 64) (.exit 64)) .leaf)) (.seq 134 (.seq 391 (rg 1 391) (.block (.loop 391 (.seq 391 (.seq 137438953863 (rg 4 137438953863) (.cond .leaf (.exit 134))) (.seq 391 (.block (.seq 903 (rg 6 903) (.seq 35184372089735 (rg 2 35184372089735) (.block (.seq 2286984185774983 (rg 2 2286984185774983) (.cond (rg 4 391) (.seq 144115188075856775 (rg 2 144115188075856775) (.cond (rg 4 391) (rg 5 391))))))))) (.join (rg 3 391))))))) (.seq 3206 (rg 8 3206) (.seq 1158 (.seq 1180591620717411304582 (rg 2 1180591620717411304582) (.cond (.seq 64 (rg 6 64) (.exit 64)) .leaf)) (.seq 1156 (.seq 5254 (rg 1 5254) (.block (.loop 5254 (.seq 5254 (.seq 604462909807314587358342 (rg 4 604462909807314587358342) (.cond .leaf (.exit 1156))) (.seq 5254 (.block (rg 7 5254)) (rg 3 5254)))))) (.seq 25732 (rg 9 25732) (.seq 58500 (rg 3 58500) (.seq 254084 (rg 8 254084) (.seq 8324 (.seq 44601490397061246283071436545296723011969156 (rg 43 44601490397061246283071436545296723011969156) (.join (.cond (.seq 64 (rg 1 64) (.exit 64)) .leaf))) (.seq 794756 (rg 8 794756) (.seq 524288 (.seq 1843332 (rg 1 1843332) (.block (.loop 1843332 (.seq 1843332 (.seq 1461501637330902918203684832716283019655934386308 (rg 9 1461501637330902918203684832716283019655934386308) (.cond .leaf (.exit 524288))) (.seq 1843332 (.block (.seq 3940484 (rg 7 3940484) (.seq 16523396 (rg 14 16523396) (.seq 26328072917139296674479506920917608079723773850137277813579587716 (rg 35 26328072917139296674479506920917608079723773850137277813579587716) (.join (.cond (.seq 64 (rg 1 64) (.exit 64)) .leaf)))))) (rg 3 1843332)))))) (.seq 64 (rg 6 64) (.exit 64))))))))))))))))
noncomputable abbrev cd (n : Nat) : Code := sub (bodyOf Tryz.f3) (pth n)
abbrev an (n : Nat) : Ann := subA ann (pth n)
@[irreducible] def X0 (own1 : OA) (own1n own1c : Nat) (y23 : ByteArray) (m7 : OA) : Fr := (mkFr 0 220 [(1, (.slice own1 own1n own1c)), (2, .string y23), (7, .pointer m7)])
@[irreducible] def X3 (y23 : ByteArray) (m7 : OA) (xn10 : Int) : Fr := (mkFr 0 220 [(2, .string y23), (7, .pointer m7), (10, .int .i64 xn10)])
@[irreducible] def X5 (xh19 : Int) : Fr := (mkFr 0 220 [(19, .int .i64 xh19)])
@[irreducible] def Xret (t6 : Bool) : Fr := (mkFr 0 220 [(6, .bool t6)])
@[irreducible] def K1 (Q : VP) : EP := seqK (fun fr h => ev PP true none (cd 7) (an 7) (fr.mask 7) (bodyK PP Tryz.f3 Q) h) (bodyK PP Tryz.f3 Q)
@[irreducible] def J1 (y64 : OA) (y58 y59 : Nat) (own1 : OA) (own1n own1c : Nat) (y23 : ByteArray) (t29 : Bool) (Q : VP) (h : Heap) : Prop := Jn PP true (cd 13) (mkFr 0 220 [(0, (.slice y64 y58 y59)), (1, (.slice own1 own1n own1c)), (2, .string y23), (29, .bool t29)]) (K1 Q) h
@[irreducible] def K3 (Q : VP) : EP := seqK (fun fr h => ev PP true none (cd 63) (an 63) (fr.mask 134) (bodyK PP Tryz.f3 Q) h) (bodyK PP Tryz.f3 Q)
@[irreducible] def K2 (Q : VP) : EP := blockK 0 (K3 Q)
@[irreducible] def L1 (y64 : OA) (y58 y59 : Nat) (own1 : OA) (own1n own1c : Nat) (y23 : ByteArray) (m7 : OA) (i8 : Int) (K : EP) (h : Heap) : Prop := Lp PP true (cd 500) (mkFr 0 220 [(0, (.slice y64 y58 y59)), (1, (.slice own1 own1n own1c)), (2, .string y23), (7, .pointer m7), (8, .int .i64 i8)]) K h
@[irreducible] def B1 (K : EP) : EP := seqK (fun fr h => Lp PP true (cd 500) (fr.mask 391) K h) K
@[irreducible] def J2 (y64 : OA) (y58 y59 : Nat) (own1 : OA) (own1n own1c : Nat) (y23 : ByteArray) (m7 : OA) (i8 : Int) (K : EP) (h : Heap) : Prop := Jn PP true (cd 2003) (mkFr 0 220 [(0, (.slice y64 y58 y59)), (1, (.slice own1 own1n own1c)), (2, .string y23), (7, .pointer m7), (8, .int .i64 i8)]) (B1 K) h
@[irreducible] def K5 (Q : VP) : EP := seqK (fun fr h => ev PP true none (cd 511) (an 511) (fr.mask 1156) (bodyK PP Tryz.f3 Q) h) (bodyK PP Tryz.f3 Q)
@[irreducible] def K4 (Q : VP) : EP := blockK 3 (K5 Q)
@[irreducible] def L2 (own1 : OA) (own1n own1c : Nat) (y23 : ByteArray) (m7 : OA) (xn10 i12 : Int) (K : EP) (h : Heap) : Prop := Lp PP true (cd 4084) (mkFr 0 220 [(1, (.slice own1 own1n own1c)), (2, .string y23), (7, .pointer m7), (10, .int .i64 xn10), (12, .int .i64 i12)]) K h
@[irreducible] def K6 (Q : VP) : EP := seqK (fun fr h => ev PP true none (cd 8191) (an 8191) (fr.mask 8324) (bodyK PP Tryz.f3 Q) h) (bodyK PP Tryz.f3 Q)
@[irreducible] def J3 (y23 : ByteArray) (m7 : OA) (c13 : Addr) (t145 : Bool) (Q : VP) (h : Heap) : Prop := Jn PP true (cd 16381) (mkFr 0 220 [(2, .string y23), (7, .pointer m7), (13, (.pointer (some c13))), (145, .bool t145)]) (K6 Q) h
@[irreducible] def K8 (Q : VP) : EP := seqK (fun fr h => ev PP true none (cd 32767) (an 32767) (fr.mask 524288) (bodyK PP Tryz.f3 Q) h) (bodyK PP Tryz.f3 Q)
@[irreducible] def K7 (Q : VP) : EP := blockK 5 (K8 Q)
@[irreducible] def L3 (y23 : ByteArray) (m7 : OA) (c13 : Addr) (k18 xh19 i20 : Int) (K : EP) (h : Heap) : Prop := Lp PP true (cd 262132) (mkFr 0 220 [(2, .string y23), (7, .pointer m7), (13, (.pointer (some c13))), (18, .int .i64 k18), (19, .int .i64 xh19), (20, .int .i64 i20)]) K h
@[irreducible] def B3 (K : EP) : EP := seqK (fun fr h => Lp PP true (cd 262132) (fr.mask 1843332) K h) K
@[irreducible] def K10 (K : EP) : EP := seqK (fun fr h => ev PP true none (cd 1048531) (an 1048531) (fr.mask 1843332) (B3 K) h) (B3 K)
@[irreducible] def K9 (K : EP) : EP := blockK 6 (K10 K)
@[irreducible] def J4 (y23 : ByteArray) (m7 : OA) (c13 : Addr) (k18 xh19 i20 : Int) (t214 : Bool) (K : EP) (h : Heap) : Prop := Jn PP true (cd 16776487) (mkFr 0 220 [(2, .string y23), (7, .pointer m7), (13, (.pointer (some c13))), (18, .int .i64 k18), (19, .int .i64 xh19), (20, .int .i64 i20), (214, .bool t214)]) (K9 K) h
theorem J1_of {y64 : OA} {y58 y59 : Nat} {own1 : OA} {own1n own1c : Nat} {y23 : ByteArray} {t29 : Bool} {Q : VP} {h : Heap} (H :
br t29 (
SpecH PP z142 [] h (fun v h1 => ∃ (t30 : Bool), v = (.bool t30) ∧
Q (.bool t30) h1)) (
SpecH PP z144 [] h (fun v_1 h2 => ∃ (t31 : OA), v_1 = (.pointer t31) ∧
let t33 : Bool := (Option.isNone t31)
br t33 (
Q (.bool false) h2) (
L1 y64 y58 y59 own1 own1n own1c y23 t31 0 (K2 Q) h2)))) : J1 y64 y58 y59 own1 own1n own1c y23 t29 Q h := by unfold J1; exact Jn.of_txt (an 13) (by kernel_rfl) H
theorem L1_of {y64 : OA} {y58 y59 : Nat} {own1 : OA} {own1n own1c : Nat} {y23 : ByteArray} {m7 : OA} {i8 : Int} {K : EP} {h : Heap} (H :
let t37 : Bool := decide (i8 < (y58 : Int))
br t37 (
hwp PP (Instr.indexAt y87 (.slice y64 y58 y59) (.int .i64 i8)) (fun v h1 => ∃ (t42 : Addr), v = (.pointer (some t42)) ∧
∃ (t43f0 t43f1 : Int) (t43f2 t43f3 t43f4 t43f5 : ByteArray), rdCells h1 t42 0 [.int .i64 t43f0, .int .i64 t43f1, .string t43f2, .string t43f3, .string t43f4, .string t43f5] ∧
let o9 : Addr := ⟨Array.size h1, 0, none⟩
let h2 : Heap := Array.push h1 (.cells #[.int .i64 0, .int .i64 0, (.string (⟨#[]⟩ : ByteArray)), (.string (⟨#[]⟩ : ByteArray)), (.string (⟨#[]⟩ : ByteArray)), (.string (⟨#[]⟩ : ByteArray))] y47 (0, 0))
wrCells o9 0 [.int .i64 t43f0, .int .i64 t43f1, .string t43f2, .string t43f3, .string t43f4, .string t43f5] (fun h3 =>
∃ (t45 : Int), cellH h3 o9 = some (.int .i64 t45) ∧
let t52 : Bool := (t45 == 1)
br t52 (
∃ (t55 : ByteArray), cellH h3 (Addr.add o9 2) = some (.string t55) ∧
SpecH PP z281 [.pointer m7, .string t55] h3 (fun v_1 h4 => ∃ (t56 t56_1 : Int), v_1 = (.tuple #[.int .i64 t56, .int .i64 t56_1]) ∧
J2 y64 y58 y59 own1 own1n own1c y23 m7 i8 K h4)) (
let t58 : Bool := (t45 == 8)
br t58 (
∃ (t61 : Int), cellH h3 (Addr.add o9 1) = some (.int .i64 t61) ∧
SpecH PP z285 [.pointer m7, .int .i64 t61] h3 (fun v_2 h5 => ∃ (t62 t62_1 : Int), v_2 = (.tuple #[.int .i64 t62, .int .i64 t62_1]) ∧
J2 y64 y58 y59 own1 own1n own1c y23 m7 i8 K h5)) (
∃ (t48 : Int), cellH h3 (Addr.add o9 1) = some (.int .i64 t48) ∧
∃ (t49f0 t49f1 : Int) (t49f2 t49f3 t49f4 t49f5 : ByteArray), rdCells h3 o9 0 [.int .i64 t49f0, .int .i64 t49f1, .string t49f2, .string t49f3, .string t49f4, .string t49f5] ∧
SpecH PP z138 [.pointer m7, .int .i64 t48, (.agg #[.int .i64 t49f0, .int .i64 t49f1, .string t49f2, .string t49f3, .string t49f4, .string t49f5])] h3 (fun v_3 h6 => ∃ (t50f0 t50f1 : Int) (t50f2 t50f3 t50f4 t50f5 t50f6 : ByteArray) (t50f7 : OA) (t50f7n t50f7c : Nat) (t50f8 : Int), v_3 = (.agg #[.int .i64 t50f0, .int .i64 t50f1, .string t50f2, .string t50f3, .string t50f4, .string t50f5, .string t50f6, (.slice t50f7 t50f7n t50f7c), .int .i64 t50f8]) ∧
J2 y64 y58 y59 own1 own1n own1c y23 m7 i8 K h6)))) h2) h) (
K (.exit 0) (X0 own1 own1n own1c y23 m7) h)) : L1 y64 y58 y59 own1 own1n own1c y23 m7 i8 K h := by unfold L1; exact Lp.of_txt (an 500) 391 (by kernel_rfl) H
theorem L1_X0 {Q : VP} {own1 : OA} {own1n own1c : Nat} {y23 : ByteArray} {m7 : OA} {h : Heap} (H :
SpecH PP z281 [.pointer m7, .string y23] h (fun v h1 => ∃ (t66 t66_1 : Int), v = (.tuple #[.int .i64 t66, .int .i64 t66_1]) ∧
let t70 : Bool := (t66_1 != 0)
br t70 (
SpecH PP z142 [] h1 (fun v_1 h2 => ∃ (t71 : Bool), v_1 = (.bool t71) ∧
br t71 (
let t74 : Bool := (t66 == 0)
Q (.bool t74) h2) (
Q (.bool false) h2))) (
L2 own1 own1n own1c y23 m7 t66 0 (K4 Q) h1))) : (K2 Q) (.exit 0) (X0 own1 own1n own1c y23 m7) h := of_eq_txt (by kernel_rfl) H
theorem J2_of {y64 : OA} {y58 y59 : Nat} {own1 : OA} {own1n own1c : Nat} {y23 : ByteArray} {m7 : OA} {i8 : Int} {K : EP} {h : Heap} (H :
let t39 : Int := IntKind.i64.wrap (i8 + 1)
L1 y64 y58 y59 own1 own1n own1c y23 m7 t39 K h) : J2 y64 y58 y59 own1 own1n own1c y23 m7 i8 K h := by unfold J2; exact Jn.of_txt (an 2003) (by kernel_rfl) H
theorem L2_of {own1 : OA} {own1n own1c : Nat} {y23 : ByteArray} {m7 : OA} {xn10 i12 : Int} {K : EP} {h : Heap} (H :
let t79 : Bool := decide (i12 < (own1n : Int))
br t79 (
hwp PP (Instr.indexAt y87 (.slice own1 own1n own1c) (.int .i64 i12)) (fun v h1 => ∃ (t86 : Addr), v = (.pointer (some t86)) ∧
∃ (t87f0 t87f1 : Int) (t87f2 t87f3 t87f4 t87f5 : ByteArray), rdCells h1 t86 0 [.int .i64 t87f0, .int .i64 t87f1, .string t87f2, .string t87f3, .string t87f4, .string t87f5] ∧
SpecH PP z138 [.pointer m7, .int .i64 xn10, (.agg #[.int .i64 t87f0, .int .i64 t87f1, .string t87f2, .string t87f3, .string t87f4, .string t87f5])] h1 (fun v_1 h2 => ∃ (t88f0 t88f1 : Int) (t88f2 t88f3 t88f4 t88f5 t88f6 : ByteArray) (t88f7 : OA) (t88f7n t88f7c : Nat) (t88f8 : Int), v_1 = (.agg #[.int .i64 t88f0, .int .i64 t88f1, .string t88f2, .string t88f3, .string t88f4, .string t88f5, .string t88f6, (.slice t88f7 t88f7n t88f7c), .int .i64 t88f8]) ∧
let t81 : Int := IntKind.i64.wrap (i12 + 1)
L2 own1 own1n own1c y23 m7 xn10 t81 K h2)) h) (
K (.exit 3) (X3 y23 m7 xn10) h)) : L2 own1 own1n own1c y23 m7 xn10 i12 K h := by unfold L2; exact Lp.of_txt (an 4084) 5254 (by kernel_rfl) H
theorem L2_X3 {Q : VP} {y23 : ByteArray} {m7 : OA} {xn10 : Int} {h : Heap} (H :
SpecH PP z283 [.pointer m7, .int .i64 xn10] h (fun v h1 => ∃ (t92f0 : Int) (t92f1 : OA) (t92f1n t92f1c : Nat) (t92_1 : Int), v = (.tuple #[(.agg #[.int .i64 t92f0, (.slice t92f1 t92f1n t92f1c)]), .int .i64 t92_1]) ∧
let c13 : Addr := ⟨Array.size h1, 0, none⟩
let h2 : Heap := Array.push h1 (.cells #[.int .i64 0, (.slice none 0 0)] y20 (0, 0))
wrCells c13 0 [.int .i64 t92f0, (.slice t92f1 t92f1n t92f1c)] (fun h3 =>
SpecH PP z293 [.pointer m7] h3 (fun v_1 h4 => ∃ (t96 : Int), v_1 = (.int .i64 t96) ∧
SpecH PP z285 [.pointer m7, .int .i64 xn10] h4 (fun v_2 h5 => ∃ (t100 t100_1 : Int), v_2 = (.tuple #[.int .i64 t100, .int .i64 t100_1]) ∧
let t104 : Bool := (t92_1 == 142)
br t104 (
J3 y23 m7 c13 true Q h5) (
let t108 : Bool := (t100_1 != t92_1)
br t108 (
J3 y23 m7 c13 true Q h5) (
let t112 : Bool := (t100_1 == 0)
br t112 (
∃ (t116 : Int), cellH h5 c13 = some (.int .i64 t116) ∧
let t117 : Bool := (t100 != t116)
br t117 (
J3 y23 m7 c13 true Q h5) (
let t122 : Bool := decide (t100 > 0)
br t122 (
let t126 : Int := IntKind.i64.wrap (t96 + 1)
let t127 : Bool := (t100 != t126)
br t127 (
J3 y23 m7 c13 true Q h5) (
SpecH PP z293 [.pointer m7] h5 (fun v_3 h6 => ∃ (t130 : Int), v_3 = (.int .i64 t130) ∧
let t132 : Bool := (t130 != t100)
br t132 (
J3 y23 m7 c13 true Q h6) (
let t138 : Bool := (t100 == 0)
br t138 (
SpecH PP z293 [.pointer m7] h6 (fun v_4 h7 => ∃ (t141 : Int), v_4 = (.int .i64 t141) ∧
let t143 : Bool := (t141 != t96)
J3 y23 m7 c13 t143 Q h7)) (
J3 y23 m7 c13 false Q h6))))) (
let t138_1 : Bool := (t100 == 0)
br t138_1 (
SpecH PP z293 [.pointer m7] h5 (fun v_5 h8 => ∃ (t141_1 : Int), v_5 = (.int .i64 t141_1) ∧
let t143_1 : Bool := (t141_1 != t96)
J3 y23 m7 c13 t143_1 Q h8)) (
J3 y23 m7 c13 false Q h5)))) (
let t122_1 : Bool := decide (t100 > 0)
br t122_1 (
let t126_1 : Int := IntKind.i64.wrap (t96 + 1)
let t127_1 : Bool := (t100 != t126_1)
br t127_1 (
J3 y23 m7 c13 true Q h5) (
SpecH PP z293 [.pointer m7] h5 (fun v_6 h9 => ∃ (t130_1 : Int), v_6 = (.int .i64 t130_1) ∧
let t132_1 : Bool := (t130_1 != t100)
br t132_1 (
J3 y23 m7 c13 true Q h9) (
let t138_2 : Bool := (t100 == 0)
br t138_2 (
SpecH PP z293 [.pointer m7] h9 (fun v_7 h10 => ∃ (t141_2 : Int), v_7 = (.int .i64 t141_2) ∧
let t143_2 : Bool := (t141_2 != t96)
J3 y23 m7 c13 t143_2 Q h10)) (
J3 y23 m7 c13 false Q h9))))) (
let t138_3 : Bool := (t100 == 0)
br t138_3 (
SpecH PP z293 [.pointer m7] h5 (fun v_8 h11 => ∃ (t141_3 : Int), v_8 = (.int .i64 t141_3) ∧
let t143_3 : Bool := (t141_3 != t96)
J3 y23 m7 c13 t143_3 Q h11)) (
J3 y23 m7 c13 false Q h5)))))))) h2)) : (K4 Q) (.exit 3) (X3 y23 m7 xn10) h := of_eq_txt (by kernel_rfl) H
theorem J3_of {y23 : ByteArray} {m7 : OA} {c13 : Addr} {t145 : Bool} {Q : VP} {h : Heap} (H :
br t145 (
Q (.bool false) h) (
SpecH PP z281 [.pointer m7, .string y23] h (fun v h1 => ∃ (t149 t149_1 : Int), v = (.tuple #[.int .i64 t149, .int .i64 t149_1]) ∧
L3 y23 m7 c13 t149 t149_1 0 (K7 Q) h1))) : J3 y23 m7 c13 t145 Q h := by unfold J3; exact Jn.of_txt (an 16381) (by kernel_rfl) H
theorem L3_of {y23 : ByteArray} {m7 : OA} {c13 : Addr} {k18 xh19 i20 : Int} {K : EP} {h : Heap} (H :
∃ (t154 : OA) (t154n t154c : Nat), cellH h (Addr.add c13 1) = some (.slice t154 t154n t154c) ∧
let t156 : Bool := decide (i20 < (t154n : Int))
br t156 (
let t159 : Bool := (xh19 == 0)
br t159 (
∃ (t164 : OA) (t164n t164c : Nat), cellH h (Addr.add c13 1) = some (.slice t164 t164n t164c) ∧
hwp PP (Instr.indexAt y10 (.slice t164 t164n t164c) (.int .i64 i20)) (fun v h1 => ∃ (t166 : Addr), v = (.pointer (some t166)) ∧
∃ (t167f0 t167f1 t167f2 : ByteArray) (t167f3 : Bool) (t167f4 : ByteArray), rdCells h1 t166 0 [.string t167f0, .string t167f1, .string t167f2, .bool t167f3, .string t167f4] ∧
let w21 : Addr := ⟨Array.size h1, 0, none⟩
let h2 : Heap := Array.push h1 (.cells #[(.string (⟨#[]⟩ : ByteArray)), (.string (⟨#[]⟩ : ByteArray)), (.string (⟨#[]⟩ : ByteArray)), .bool false, (.string (⟨#[]⟩ : ByteArray))] y17 (0, 0))
wrCells w21 0 [.string t167f0, .string t167f1, .string t167f2, .bool t167f3, .string t167f4] (fun h3 =>
∃ (t173 : ByteArray), cellH h3 (Addr.add w21 1) = some (.string t173) ∧
∃ (t176 : ByteArray), cellH h3 (Addr.add w21 2) = some (.string t176) ∧
SpecH PP z301 [.pointer m7, .int .i64 k18, .string t173, .string t176] h3 (fun v_1 h4 => ∃ (t177 : ByteArray) (t177_1 : Int), v_1 = (.tuple #[.string t177, .int .i64 t177_1]) ∧
∃ (t182 : ByteArray), cellH h4 w21 = some (.string t182) ∧
let t184 : Bool := (!decide (t182 = y23))
br t184 (
J4 y23 m7 c13 k18 xh19 i20 true K h4) (
∃ (t188 : ByteArray), cellH h4 (Addr.add w21 4) = some (.string t188) ∧
let t189 : Bool := (!decide (t177 = t188))
br t189 (
J4 y23 m7 c13 k18 xh19 i20 true K h4) (
let t193 : Bool := (t177_1 == 0)
∃ (t195 : Bool), cellH h4 (Addr.add w21 3) = some (.bool t195) ∧
let t196 : Bool := (!(t193 == t195))
br t196 (
J4 y23 m7 c13 k18 xh19 i20 true K h4) (
let t200 : Bool := decide (i20 > 0)
br t200 (
∃ (t203 : OA) (t203n t203c : Nat), cellH h4 (Addr.add c13 1) = some (.slice t203 t203n t203c) ∧
let t205 : Int := IntKind.i64.wrap (i20 - 1)
hwp PP (Instr.indexAt y10 (.slice t203 t203n t203c) (.int .i64 t205)) (fun v_2 h5 => ∃ (t206 : Addr), v_2 = (.pointer (some t206)) ∧
∃ (t208f0 t208f1 t208f2 : ByteArray), rdCells h5 t206 0 [.string t208f0, .string t208f1, .string t208f2] ∧
∃ (t210f0 t210f1 t210f2 : ByteArray), rdCells h5 w21 0 [.string t210f0, .string t210f1, .string t210f2] ∧
SpecH PP z163 [(.agg #[.string t208f0, .string t208f1, .string t208f2]), (.agg #[.string t210f0, .string t210f1, .string t210f2])] h5 (fun v_3 h6 => ∃ (t211 : Bool), v_3 = (.bool t211) ∧
let t212 : Bool := (!t211)
J4 y23 m7 c13 k18 xh19 i20 t212 K h6)) h4) (
J4 y23 m7 c13 k18 xh19 i20 false K h4)))))) h2) h) (
K (.exit 5) (X5 xh19) h)) (
K (.exit 5) (X5 xh19) h)) : L3 y23 m7 c13 k18 xh19 i20 K h := by unfold L3; exact Lp.of_txt (an 262132) 1843332 (by kernel_rfl) H
theorem L3_X5 {Q : VP} {xh19 : Int} {h : Heap} (H :
SpecH PP z142 [] h (fun v h1 => ∃ (t215 : Bool), v = (.bool t215) ∧
br t215 (
let t218 : Bool := (xh19 == 0)
Q (.bool t218) h1) (
Q (.bool false) h1))) : (K7 Q) (.exit 5) (X5 xh19) h := of_eq_txt (by kernel_rfl) H
theorem J4_of {y23 : ByteArray} {m7 : OA} {c13 : Addr} {k18 xh19 i20 : Int} {t214 : Bool} {K : EP} {h : Heap} (H :
br t214 (
K .ret (Xret false) h) (
let t162 : Int := IntKind.i64.wrap (i20 + 1)
L3 y23 m7 c13 k18 xh19 t162 K h)) : J4 y23 m7 c13 k18 xh19 i20 t214 K h := by unfold J4; exact Jn.of_txt (an 16776487) (by kernel_rfl) H
theorem door {y64 : OA} {y58 y59 : Nat} {own1 : OA} {own1n own1c : Nat} {y23 : ByteArray} {Q : VP} {h : Heap} (H :
SpecH PP z149 [(.slice none 0 0), (.slice y64 y58 y59)] h (fun v h1 => ∃ (t25 : Bool), v = (.bool t25) ∧
br t25 (
J1 y64 y58 y59 own1 own1n own1c y23 true Q h1) (
SpecH PP z149 [(.slice none 0 0), (.slice own1 own1n own1c)] h1 (fun v_1 h2 => ∃ (t28 : Bool), v_1 = (.bool t28) ∧
J1 y64 y58 y59 own1 own1n own1c y23 t28 Q h2)))) : SpecH PP z132 [(.slice y64 y58 y59), (.slice own1 own1n own1c), .string y23] h Q :=
  spec_of_txt (ann := ann) Tryz.func3 rfl rfl (by kernel_rfl) H
end z130
namespace z135
end z135
namespace z133
def ann : Ann := (.seq 2 (rg 2 2) (.seq 10 (rg 1 10) (.seq 58 (rg 9 58) (.seq 250 (rg 13 250) (.seq 1018 (rg 11 1018) (.seq 4090 (rg 10 4090) (.seq 16378 (rg 9 16378) (.seq 65530 (rg 9 65530) (.seq 65546 (rg 55 65546) (.join (.seq 196618 (rg 43 196618) (.join (.seq 4 (rg 33 4) (.exit 4))))))))))))))
noncomputable abbrev cd (n : Nat) : Code := sub (bodyOf Tryz.f7) (pth n)
abbrev an (n : Nat) : Ann := subA ann (pth n)
@[irreducible] def J1 (o1 : Addr) (m3 : OA) (one16 : Bool) (Q : VP) (h : Heap) : Prop := Jn PP true (cd 1023) (mkFr 0 194 [(1, (.pointer (some o1))), (3, .pointer m3), (16, .bool one16)]) (bodyK PP Tryz.f7 Q) h
@[irreducible] def J2 (o1 : Addr) (m3 : OA) (one16 two17 : Bool) (Q : VP) (h : Heap) : Prop := Jn PP true (cd 2047) (mkFr 0 194 [(1, (.pointer (some o1))), (3, .pointer m3), (16, .bool one16), (17, .bool two17)]) (bodyK PP Tryz.f7 Q) h
theorem J1_of {o1 : Addr} {m3 : OA} {one16 : Bool} {Q : VP} {h : Heap} (H :
∃ (t122 : Int), cellH h (Addr.add o1 1) = some (.int .i64 t122) ∧
∃ (t124 : ByteArray), cellH h (Addr.add o1 3) = some (.string t124) ∧
∃ (t126 : ByteArray), cellH h (Addr.add o1 4) = some (.string t126) ∧
∃ (t128 : ByteArray), cellH h (Addr.add o1 5) = some (.string t128) ∧
SpecH PP z299 [.pointer m3, .int .i64 t122, .string t124, .string t126, .string t128] h (fun v h1 => ∃ (t129 : Int), v = (.int .i64 t129) ∧
let t130 : Bool := (t129 == 3)
br t130 (
∃ (t134 : Int), cellH h1 (Addr.add o1 1) = some (.int .i64 t134) ∧
∃ (t136 : ByteArray), cellH h1 (Addr.add o1 3) = some (.string t136) ∧
∃ (t138 : ByteArray), cellH h1 (Addr.add o1 4) = some (.string t138) ∧
∃ (t140 : ByteArray), cellH h1 (Addr.add o1 5) = some (.string t140) ∧
SpecH PP z279 [.pointer m3, .int .i64 t134, .string t136, .string t138, .string t140] h1 (fun v_1 h2 => ∃ (t141 : Int), v_1 = (.int .i64 t141) ∧
let t142 : Bool := (t141 == 3)
br t142 (
∃ (t147 : Int), cellH h2 (Addr.add o1 1) = some (.int .i64 t147) ∧
∃ (t149 : ByteArray), cellH h2 (Addr.add o1 3) = some (.string t149) ∧
∃ (t151 : ByteArray), cellH h2 (Addr.add o1 4) = some (.string t151) ∧
SpecH PP z287 [.pointer m3, .int .i64 t147, .string t149, .string t151] h2 (fun v_2 h3 => ∃ (t152 : Int), v_2 = (.int .i64 t152) ∧
let t153 : Bool := (t152 == 3)
br t153 (
∃ (t158 : Int), cellH h3 (Addr.add o1 1) = some (.int .i64 t158) ∧
SpecH PP z277 [.pointer m3, .int .i64 t158] h3 (fun v_3 h4 => ∃ (t159 : Int), v_3 = (.int .i64 t159) ∧
let t160 : Bool := (t159 == 3)
J2 o1 m3 one16 t160 Q h4)) (
J2 o1 m3 one16 false Q h3))) (
J2 o1 m3 one16 false Q h2))) (
J2 o1 m3 one16 false Q h1))) : J1 o1 m3 one16 Q h := by unfold J1; exact Jn.of_txt (an 1023) (by kernel_rfl) H
theorem J2_of {o1 : Addr} {m3 : OA} {one16 two17 : Bool} {Q : VP} {h : Heap} (H :
SpecH PP z142 [] h (fun v h1 => ∃ (t162 : Bool), v = (.bool t162) ∧
br t162 (
br one16 (
br two17 (
SpecH PP z295 [.pointer m3] h1 (fun v_1 h2 => ∃ (t171 : OA) (t171n t171c : Nat), v_1 = (.slice t171 t171n t171c) ∧
let t173 : Bool := ((t171n : Int) == 0)
br t173 (
SpecH PP z293 [.pointer m3] h2 (fun v_2 h3 => ∃ (t177 : Int), v_2 = (.int .i64 t177) ∧
let t178 : Bool := (t177 == 0)
br t178 (
∃ (t183 : ByteArray), cellH h3 (Addr.add o1 2) = some (.string t183) ∧
SpecH PP z303 [.pointer m3, .string t183] h3 (fun v_3 h4 => ∃ (t184f0 t184f1 : Int), v_3 = (.agg #[.int .i64 t184f0, .int .i64 t184f1]) ∧
let t186 : Bool := ((t184f0 == 0) && ((t184f1 == 0) && true))
br t186 (
SpecH PP z289 [.pointer m3] h4 (fun v_4 h5 => ∃ (t190 : OA) (t190n t190c : Nat), v_4 = (.slice t190 t190n t190c) ∧
let t192 : Bool := ((t190n : Int) == 0)
Q (.bool t192) h5)) (
Q (.bool false) h4))) (
Q (.bool false) h3))) (
Q (.bool false) h2))) (
Q (.bool false) h1)) (
Q (.bool false) h1)) (
Q (.bool false) h1))) : J2 o1 m3 one16 two17 Q h := by unfold J2; exact Jn.of_txt (an 2047) (by kernel_rfl) H
theorem door {o0f0 o0f1 : Int} {o0f2 o0f3 o0f4 o0f5 : ByteArray} {Q : VP} {h : Heap} (H :
let o1 : Addr := ⟨Array.size h, 0, none⟩
let h1 : Heap := Array.push h (.cells #[.int .i64 o0f0, .int .i64 o0f1, .string o0f2, .string o0f3, .string o0f4, .string o0f5] y47 (0, 0))
∃ (t21 : ByteArray), cellH h1 (Addr.add o1 2) = some (.string t21) ∧
SpecH PP z281 [.pointer none, .string t21] h1 (fun v h2 => ∃ (t22 t22_1 : Int), v = (.tuple #[.int .i64 t22, .int .i64 t22_1]) ∧
∃ (t28 : Int), cellH h2 (Addr.add o1 1) = some (.int .i64 t28) ∧
∃ (t30 : ByteArray), cellH h2 (Addr.add o1 3) = some (.string t30) ∧
∃ (t32 : ByteArray), cellH h2 (Addr.add o1 4) = some (.string t32) ∧
SpecH PP z301 [.pointer none, .int .i64 t28, .string t30, .string t32] h2 (fun v_1 h3 => ∃ (t33 : ByteArray) (t33_1 : Int), v_1 = (.tuple #[.string t33, .int .i64 t33_1]) ∧
∃ (t39 : Int), cellH h3 (Addr.add o1 1) = some (.int .i64 t39) ∧
∃ (t41 : ByteArray), cellH h3 (Addr.add o1 3) = some (.string t41) ∧
SpecH PP z291 [.pointer none, .int .i64 t39, .string t41] h3 (fun v_2 h4 => ∃ (t42 : OA) (t42n t42c : Nat) (t42_1 : Int), v_2 = (.tuple #[(.slice t42 t42n t42c), .int .i64 t42_1]) ∧
∃ (t48 : Int), cellH h4 (Addr.add o1 1) = some (.int .i64 t48) ∧
SpecH PP z283 [.pointer none, .int .i64 t48] h4 (fun v_3 h5 => ∃ (t49f0 : Int) (t49f1 : OA) (t49f1n t49f1c : Nat) (t49_1 : Int), v_3 = (.tuple #[(.agg #[.int .i64 t49f0, (.slice t49f1 t49f1n t49f1c)]), .int .i64 t49_1]) ∧
let c10 : Addr := ⟨Array.size h5, 0, none⟩
let h6 : Heap := Array.push h5 (.cells #[.int .i64 0, (.slice none 0 0)] y20 (0, 0))
wrCells c10 0 [.int .i64 t49f0, (.slice t49f1 t49f1n t49f1c)] (fun h7 =>
∃ (t55 : Int), cellH h7 (Addr.add o1 1) = some (.int .i64 t55) ∧
SpecH PP z285 [.pointer none, .int .i64 t55] h7 (fun v_4 h8 => ∃ (t56 t56_1 : Int), v_4 = (.tuple #[.int .i64 t56, .int .i64 t56_1]) ∧
∃ (t62 : Int), cellH h8 (Addr.add o1 1) = some (.int .i64 t62) ∧
SpecH PP z297 [.pointer none, .int .i64 t62] h8 (fun v_5 h9 => ∃ (t63 : ByteArray) (t63_1 : Int), v_5 = (.tuple #[.string t63, .int .i64 t63_1]) ∧
let t67 : Bool := (t22_1 == 3)
br t67 (
let t70 : Bool := (t33_1 == 3)
br t70 (
let t74 : Bool := (t42_1 == 3)
br t74 (
let t78 : Bool := (t49_1 == 3)
br t78 (
let t82 : Bool := (t56_1 == 3)
br t82 (
let t86 : Bool := (t63_1 == 3)
br t86 (
let t90 : Bool := (t22 == 0)
br t90 (
let t94 : Bool := decide (t33 = (⟨#[]⟩ : ByteArray))
br t94 (
let t99 : Bool := ((t42n : Int) == 0)
br t99 (
∃ (t103 : Int), cellH h9 c10 = some (.int .i64 t103) ∧
let t104 : Bool := (t103 == 0)
br t104 (
∃ (t108 : OA) (t108n t108c : Nat), cellH h9 (Addr.add c10 1) = some (.slice t108 t108n t108c) ∧
let t110 : Bool := ((t108n : Int) == 0)
br t110 (
let t114 : Bool := (t56 == 0)
br t114 (
let t118 : Bool := decide (t63 = (⟨#[]⟩ : ByteArray))
J1 o1 none t118 Q h9) (
J1 o1 none false Q h9)) (
J1 o1 none false Q h9)) (
J1 o1 none false Q h9)) (
J1 o1 none false Q h9)) (
J1 o1 none false Q h9)) (
J1 o1 none false Q h9)) (
J1 o1 none false Q h9)) (
J1 o1 none false Q h9)) (
J1 o1 none false Q h9)) (
J1 o1 none false Q h9)) (
J1 o1 none false Q h9)) (
J1 o1 none false Q h9)))) h6))))) : SpecH PP z134 [(.agg #[.int .i64 o0f0, .int .i64 o0f1, .string o0f2, .string o0f3, .string o0f4, .string o0f5])] h Q :=
  spec_of_txt (ann := ann) Tryz.func7 rfl rfl (by kernel_rfl) H
end z133
namespace z148
def ann : Ann := (.seq 3 (rg 1 3) (.seq 33 (rg 6 33) (.seq 32 (.seq 97 (rg 1 97) (.block (.loop 97 (.seq 97 (.seq 524385 (rg 8 524385) (.cond .leaf (.exit 32))) (.seq 97 (.block (rg 9 97)) (rg 3 97)))))) (.seq 16 (rg 3 16) (.exit 16)))))
noncomputable abbrev cd (n : Nat) : Code := sub (bodyOf Tryz.f8) (pth n)
abbrev an (n : Nat) : Ann := subA ann (pth n)
@[irreducible] def X0 (xn5 : Int) : Fr := (mkFr 0 32 [(5, .int .i64 xn5)])
@[irreducible] def L1 (xl0 : OA) (xl0n xl0c : Nat) (xn5 i6 : Int) (K : EP) (h : Heap) : Prop := Lp PP true (cd 116) (mkFr 0 32 [(0, (.slice xl0 xl0n xl0c)), (5, .int .i64 xn5), (6, .int .i64 i6)]) K h
@[irreducible] def K2 (Q : VP) : EP := seqK (fun fr h => ev PP true none (cd 15) (an 15) (fr.mask 32) (bodyK PP Tryz.f8 Q) h) (bodyK PP Tryz.f8 Q)
@[irreducible] def K1 (Q : VP) : EP := blockK 0 (K2 Q)
theorem L1_of {xl0 : OA} {xl0n xl0c : Nat} {xn5 i6 : Int} {K : EP} {h : Heap} (H :
let t15 : Bool := decide (i6 < (xl0n : Int))
br t15 (
let t18 : Bool := decide (xn5 ≤ 4096)
br t18 (
hwp PP (Instr.indexAt y39 (.slice xl0 xl0n xl0c) (.int .i64 i6)) (fun v h1 => ∃ (t25 : Addr), v = (.pointer (some t25)) ∧
∃ (t27 : OA) (t27n t27c : Nat), cellH h1 (Addr.add t25 2) = some (.slice t27 t27n t27c) ∧
let t29 : Int := IntKind.i64.wrap (xn5 + (t27n : Int))
let t21 : Int := IntKind.i64.wrap (i6 + 1)
L1 xl0 xl0n xl0c t29 t21 K h1) h) (
K (.exit 0) (X0 xn5) h)) (
K (.exit 0) (X0 xn5) h)) : L1 xl0 xl0n xl0c xn5 i6 K h := by unfold L1; exact Lp.of_txt (an 116) 97 (by kernel_rfl) H
theorem L1_X0 {Q : VP} {xn5 : Int} {h : Heap} (H :
let t31 : Bool := decide (xn5 > 4096)
Q (.bool t31) h) : (K1 Q) (.exit 0) (X0 xn5) h := of_eq_txt (by kernel_rfl) H
theorem door {xl0 : OA} {xl0n xl0c : Nat} {script1 : OA} {script1n script1c : Nat} {Q : VP} {h : Heap} (H :
let t11 : Int := IntKind.i64.wrap ((xl0n : Int) + (script1n : Int))
L1 xl0 xl0n xl0c t11 0 (K1 Q) h) : SpecH PP z149 [(.slice xl0 xl0n xl0c), (.slice script1 script1n script1c)] h Q :=
  spec_of_txt (ann := ann) Tryz.func8 rfl rfl (by kernel_rfl) H
end z148
namespace z141
def ann : Ann := (.seq 0 (rg 1 0) (.seq 2 (rg 2 2) (.seq 2 (.seq 268435458 (rg 2 268435458) (.cond (.seq 1 (rg 1 1) (.exit 1)) .leaf)) (.seq 14 (rg 7 14) (.seq 62 (rg 7 62) (.seq 126 (rg 3 126) (.seq 510 (rg 7 510) (.seq 1534 (rg 7 1534) (.seq 7678 (rg 7 7678) (.seq 15870 (rg 3 15870) (.seq 48638 (rg 7 48638) (.seq 179710 (rg 7 179710) (.seq 262146 (rg 51 262146) (.join (.seq 1835010 (rg 7 1835010) (.seq 3932162 (rg 3 3932162) (.seq 16515074 (rg 7 16515074) (.seq 66846722 (rg 7 66846722) (.seq 1 (rg 42 1) (.exit 1))))))))))))))))))))
noncomputable abbrev cd (n : Nat) : Code := sub (bodyOf Tryz.f9) (pth n)
abbrev an (n : Nat) : Ann := subA ann (pth n)
@[irreducible] def J1 (m1 : OA) (one18 : Bool) (Q : VP) (h : Heap) : Prop := Jn PP true (cd 16383) (mkFr 0 176 [(1, .pointer m1), (18, .bool one18)]) (bodyK PP Tryz.f9 Q) h
theorem J1_of {m1 : OA} {one18 : Bool} {Q : VP} {h : Heap} (H :
SpecH PP z281 [.pointer m1, (.string (⟨#[116]⟩ : ByteArray))] h (fun v h1 => ∃ (t120 t120_1 : Int), v = (.tuple #[.int .i64 t120, .int .i64 t120_1]) ∧
SpecH PP z279 [.pointer m1, .int .i64 3, (.string (⟨#[120]⟩ : ByteArray)), (.string (⟨#[97]⟩ : ByteArray)), (.string (⟨#[33]⟩ : ByteArray))] h1 (fun v_1 h2 => ∃ (t124 : Int), v_1 = (.int .i64 t124) ∧
SpecH PP z291 [.pointer m1, .int .i64 3, (.string (⟨#[120]⟩ : ByteArray))] h2 (fun v_2 h3 => ∃ (t127 : OA) (t127n t127c : Nat) (t127_1 : Int), v_2 = (.tuple #[(.slice t127 t127n t127c), .int .i64 t127_1]) ∧
SpecH PP z285 [.pointer m1, .int .i64 3] h3 (fun v_3 h4 => ∃ (t132 t132_1 : Int), v_3 = (.tuple #[.int .i64 t132, .int .i64 t132_1]) ∧
br one18 (
let t138 : Bool := (t120 == 3)
br t138 (
let t142 : Bool := (t120_1 == 0)
br t142 (
let t146 : Bool := (t124 == 0)
br t146 (
let t150 : Bool := (t127_1 == 0)
br t150 (
let h5 : Heap := Array.push h4 (.cells #[(.string (⟨#[97]⟩ : ByteArray))] y19 (0, 0))
SpecH PP z129 [(.slice t127 t127n t127c), (.slice (some ⟨Array.size h4, 0, none⟩) 1 1)] h5 (fun v_4 h6 => ∃ (t155 : Bool), v_4 = (.bool t155) ∧
br t155 (
let t159 : Bool := (t132 == 2)
br t159 (
let t163 : Bool := (t132_1 == 0)
br t163 (
SpecH PP z303 [.pointer m1, (.string (⟨#[116]⟩ : ByteArray))] h6 (fun v_5 h7 => ∃ (t167f0 t167f1 : Int), v_5 = (.agg #[.int .i64 t167f0, .int .i64 t167f1]) ∧
let t169 : Bool := ((t167f0 == 4) && ((t167f1 == 1) && true))
br t169 (
SpecH PP z293 [.pointer m1] h7 (fun v_6 h8 => ∃ (t173 : Int), v_6 = (.int .i64 t173) ∧
let t174 : Bool := (t173 == 2)
Q (.bool t174) h8)) (
Q (.bool false) h7))) (
Q (.bool false) h6)) (
Q (.bool false) h6)) (
Q (.bool false) h6))) (
Q (.bool false) h4)) (
Q (.bool false) h4)) (
Q (.bool false) h4)) (
Q (.bool false) h4)) (
Q (.bool false) h4)))))) : J1 m1 one18 Q h := by unfold J1; exact Jn.of_txt (an 16383) (by kernel_rfl) H
theorem door  {Q : VP} {h : Heap} (H :
SpecH PP z144 [] h (fun v h1 => ∃ (t26 : OA), v = (.pointer t26) ∧
let t28 : Bool := (Option.isNone t26)
br t28 (
Q (.bool false) h1) (
SpecH PP z281 [.pointer t26, (.string (⟨#[116]⟩ : ByteArray))] h1 (fun v_1 h2 => ∃ (t31 t31_1 : Int), v_1 = (.tuple #[.int .i64 t31, .int .i64 t31_1]) ∧
SpecH PP z281 [.pointer t26, (.string (⟨#[116]⟩ : ByteArray))] h2 (fun v_2 h3 => ∃ (t36 t36_1 : Int), v_2 = (.tuple #[.int .i64 t36, .int .i64 t36_1]) ∧
SpecH PP z299 [.pointer t26, .int .i64 1, (.string (⟨#[120]⟩ : ByteArray)), (.string (⟨#[97]⟩ : ByteArray)), (.string (⟨#[111, 110, 101]⟩ : ByteArray))] h3 (fun v_3 h4 => ∃ (t40 : Int), v_3 = (.int .i64 t40) ∧
SpecH PP z301 [.pointer t26, .int .i64 1, (.string (⟨#[120]⟩ : ByteArray)), (.string (⟨#[97]⟩ : ByteArray))] h4 (fun v_4 h5 => ∃ (t43 : ByteArray) (t43_1 : Int), v_4 = (.tuple #[.string t43, .int .i64 t43_1]) ∧
SpecH PP z301 [.pointer t26, .int .i64 2, (.string (⟨#[120]⟩ : ByteArray)), (.string (⟨#[97]⟩ : ByteArray))] h5 (fun v_5 h6 => ∃ (t48 : ByteArray) (t48_1 : Int), v_5 = (.tuple #[.string t48, .int .i64 t48_1]) ∧
SpecH PP z285 [.pointer t26, .int .i64 1] h6 (fun v_6 h7 => ∃ (t53 t53_1 : Int), v_6 = (.tuple #[.int .i64 t53, .int .i64 t53_1]) ∧
SpecH PP z299 [.pointer t26, .int .i64 2, (.string (⟨#[120]⟩ : ByteArray)), (.string (⟨#[98]⟩ : ByteArray)), (.string (⟨#[116, 119, 111]⟩ : ByteArray))] h7 (fun v_7 h8 => ∃ (t57 : Int), v_7 = (.int .i64 t57) ∧
SpecH PP z285 [.pointer t26, .int .i64 2] h8 (fun v_8 h9 => ∃ (t60 t60_1 : Int), v_8 = (.tuple #[.int .i64 t60, .int .i64 t60_1]) ∧
SpecH PP z285 [.pointer t26, .int .i64 2] h9 (fun v_9 h10 => ∃ (t65 t65_1 : Int), v_9 = (.tuple #[.int .i64 t65, .int .i64 t65_1]) ∧
let t69 : Bool := (t31 == 1)
br t69 (
let t72 : Bool := (t36 == 2)
br t72 (
let t76 : Bool := (t31_1 == 0)
br t76 (
let t80 : Bool := (t36_1 == 0)
br t80 (
let t84 : Bool := (t40 == 0)
br t84 (
let t88 : Bool := decide (t43 = (⟨#[111, 110, 101]⟩ : ByteArray))
br t88 (
let t92 : Bool := (t43_1 == 0)
br t92 (
let t96 : Bool := (t48_1 == 144)
br t96 (
let t100 : Bool := (t53 == 1)
br t100 (
let t104 : Bool := (t53_1 == 0)
br t104 (
let t108 : Bool := (t57 == 0)
br t108 (
let t112 : Bool := (t60_1 == 142)
br t112 (
let t116 : Bool := (t65_1 == 140)
J1 t26 t116 Q h10) (
J1 t26 false Q h10)) (
J1 t26 false Q h10)) (
J1 t26 false Q h10)) (
J1 t26 false Q h10)) (
J1 t26 false Q h10)) (
J1 t26 false Q h10)) (
J1 t26 false Q h10)) (
J1 t26 false Q h10)) (
J1 t26 false Q h10)) (
J1 t26 false Q h10)) (
J1 t26 false Q h10)) (
J1 t26 false Q h10))))))))))))) : SpecH PP z142 [] h Q :=
  spec_of_txt (ann := ann) Tryz.func9 rfl rfl (by kernel_rfl) H
end z141
namespace z143
def ann : Ann := (.seq 0 (rg 1 0) (.seq 2 (rg 6 2) (.seq 1 (rg 2 1) (.exit 1))))
theorem door  {Q : VP} {h : Heap} (H :
SpecH PP z320 [(.slice none 0 0), .int .i64 0] h (fun v h1 => ∃ (t4 : OA) (t4_1 : Int), v = (.tuple #[.pointer t4, .int .i64 t4_1]) ∧
Q (.pointer t4) h1)) : SpecH PP z144 [] h Q :=
  spec_of_txt (ann := ann) Tryz.func10 rfl rfl (by kernel_rfl) H
end z143
namespace z280
def ann : Ann := (.seq 3 (rg 2 3) (.seq 3 (.block (.seq 67 (rg 3 67) (.cond (.seq 48 (rg 2 48) (.exit 48)) (.seq 515 (rg 4 515) (.cond (.seq 48 (rg 2 48) (.exit 48)) (.seq 8195 (rg 7 8195) (.cond (.seq 48 (rg 2 48) (.exit 48)) .leaf))))))) (.seq 3 (rg 8 3) (.seq 1 (.tree (.run [0, 1, 2, 4, 5, 6, 8, 9] (.alt 3 (.alt 7 (.run [10, 11, 12, 13, 14] .done) (.alt 10 (.alt 7 (.run [11, 12, 13, 14] .done) (.alt 11 (.run [7, 12, 13, 14] .done) .nil)) .nil)) (.alt 7 (.alt 3 (.run [10, 11, 12, 13, 14] .done) (.alt 10 (.alt 3 (.run [11, 12, 13, 14] .done) (.alt 11 (.run [3, 12, 13, 14] .done) .nil)) .nil)) (.alt 10 (.alt 3 (.alt 7 (.run [11, 12, 13, 14] .done) (.alt 11 (.run [7, 12, 13, 14] .done) .nil)) (.alt 7 (.alt 3 (.run [11, 12, 13, 14] .done) (.alt 11 (.run [3, 12, 13, 14] .done) .nil)) (.alt 11 (.run [3, 7, 12, 13, 14] .done) .nil))) .nil)))) 1) (.join (.seq 48 (rg 6 48) (.exit 48)))))))
noncomputable abbrev cd (n : Nat) : Code := sub (bodyOf Tryz.f11) (pth n)
abbrev an (n : Nat) : Ann := subA ann (pth n)
@[irreducible] def J1 (m0 : OA) (Q : VP) (h : Heap) : Prop := Jn PP true (cd 31) (mkFr 0 45 [(0, .pointer m0)]) (bodyK PP Tryz.f11 Q) h
theorem J1_of {m0 : OA} {Q : VP} {h : Heap} (H :
nilc m0 (fun t42 =>
∃ (t44 : Int), cellH h (Addr.add t42 3) = some (.int .i64 t44) ∧
Q (.tuple #[.int .i64 t44, .int .i64 0]) h)) : J1 m0 Q h := by unfold J1; exact Jn.of_txt (an 31) (by kernel_rfl) H
theorem door {m0 : OA} {y32 : ByteArray} {Q : VP} {h : Heap} (H :
let t8 : Bool := (Option.isNone m0)
br t8 (
Q (.tuple #[.int .i64 0, .int .i64 3]) h) (
SpecH PP z322 [.string y32] h (fun v h1 => ∃ (t11 : Bool), v = (.bool t11) ∧
let t12 : Bool := (!t11)
br t12 (
Q (.tuple #[.int .i64 0, .int .i64 143]) h1) (
nilc m0 (fun t15 =>
∃ (t17 : ON), cellH h1 (Addr.add t15 2) = some (.map t17) ∧
hwp PP (Builtin.len_ #[y29] y38 #[.map t17]) (fun v_1 h2 => ∃ (t18 : Int), v_1 = (.int .i64 t18) ∧
let t19 : Bool := decide (t18 ≥ 256)
br t19 (
Q (.tuple #[.int .i64 0, .int .i64 141]) h2) (
nilc m0 (fun t21 =>
∃ (t23 : Int), cellH h2 (Addr.add t21 3) = some (.int .i64 t23) ∧
let t24 : Int := IntKind.i64.wrap (t23 + 1)
nilc m0 (fun t25 =>
wr (Addr.add t25 3) (.int .i64 t24) (fun h3 =>
nilc m0 (fun t28 =>
nilc m0 (fun t32 =>
(
∃ (t30_7 : ON), cellH h3 (Addr.add t28 2) = some (.map t30_7) ∧
(
∃ (t34_7 : Int), cellH h3 (Addr.add t32 3) = some (.int .i64 t34_7) ∧
SpecH PP z293 [.pointer m0] h3 (fun v_16 h38 => ∃ (t37_4 : Int), v_16 = (.int .i64 t37_4) ∧
SpecH PP z328 [.int .i64 t37_4] h38 (fun v_17 h39 => ∃ (t38_10 : OA), v_17 = (.pointer t38_10) ∧
let t40_10 : Addr := ⟨Array.size h39, 0, none⟩
let h40 : Heap := Array.push h39 (.cells #[.string y32, .pointer t38_10] y35 (0, 0))
hwp PP (Instr.mapUpdate y29 (.map t30_7) (.int .i64 t34_7) (.pointer (some t40_10))) (fun _ h41 =>
J1 m0 Q h41) h40))) ∧
(
SpecH PP z293 [.pointer m0] h3 (fun v_13 h31 => ∃ (t37_3 : Int), v_13 = (.int .i64 t37_3) ∧
(
∃ (t34_6 : Int), cellH h31 (Addr.add t32 3) = some (.int .i64 t34_6) ∧
SpecH PP z328 [.int .i64 t37_3] h31 (fun v_15 h35 => ∃ (t38_9 : OA), v_15 = (.pointer t38_9) ∧
let t40_9 : Addr := ⟨Array.size h35, 0, none⟩
let h36 : Heap := Array.push h35 (.cells #[.string y32, .pointer t38_9] y35 (0, 0))
hwp PP (Instr.mapUpdate y29 (.map t30_7) (.int .i64 t34_6) (.pointer (some t40_9))) (fun _ h37 =>
J1 m0 Q h37) h36)) ∧
(
SpecH PP z328 [.int .i64 t37_3] h31 (fun v_14 h32 => ∃ (t38_8 : OA), v_14 = (.pointer t38_8) ∧
∃ (t34_5 : Int), cellH h32 (Addr.add t32 3) = some (.int .i64 t34_5) ∧
let t40_8 : Addr := ⟨Array.size h32, 0, none⟩
let h33 : Heap := Array.push h32 (.cells #[.string y32, .pointer t38_8] y35 (0, 0))
hwp PP (Instr.mapUpdate y29 (.map t30_7) (.int .i64 t34_5) (.pointer (some t40_8))) (fun _ h34 =>
J1 m0 Q h34) h33)) ∧
True)) ∧
True) ∧
(
∃ (t34_4 : Int), cellH h3 (Addr.add t32 3) = some (.int .i64 t34_4) ∧
(
∃ (t30_6 : ON), cellH h3 (Addr.add t28 2) = some (.map t30_6) ∧
SpecH PP z293 [.pointer m0] h3 (fun v_11 h27 => ∃ (t37_2 : Int), v_11 = (.int .i64 t37_2) ∧
SpecH PP z328 [.int .i64 t37_2] h27 (fun v_12 h28 => ∃ (t38_7 : OA), v_12 = (.pointer t38_7) ∧
let t40_7 : Addr := ⟨Array.size h28, 0, none⟩
let h29 : Heap := Array.push h28 (.cells #[.string y32, .pointer t38_7] y35 (0, 0))
hwp PP (Instr.mapUpdate y29 (.map t30_6) (.int .i64 t34_4) (.pointer (some t40_7))) (fun _ h30 =>
J1 m0 Q h30) h29))) ∧
(
SpecH PP z293 [.pointer m0] h3 (fun v_8 h20 => ∃ (t37_1 : Int), v_8 = (.int .i64 t37_1) ∧
(
∃ (t30_5 : ON), cellH h20 (Addr.add t28 2) = some (.map t30_5) ∧
SpecH PP z328 [.int .i64 t37_1] h20 (fun v_10 h24 => ∃ (t38_6 : OA), v_10 = (.pointer t38_6) ∧
let t40_6 : Addr := ⟨Array.size h24, 0, none⟩
let h25 : Heap := Array.push h24 (.cells #[.string y32, .pointer t38_6] y35 (0, 0))
hwp PP (Instr.mapUpdate y29 (.map t30_5) (.int .i64 t34_4) (.pointer (some t40_6))) (fun _ h26 =>
J1 m0 Q h26) h25)) ∧
(
SpecH PP z328 [.int .i64 t37_1] h20 (fun v_9 h21 => ∃ (t38_5 : OA), v_9 = (.pointer t38_5) ∧
∃ (t30_4 : ON), cellH h21 (Addr.add t28 2) = some (.map t30_4) ∧
let t40_5 : Addr := ⟨Array.size h21, 0, none⟩
let h22 : Heap := Array.push h21 (.cells #[.string y32, .pointer t38_5] y35 (0, 0))
hwp PP (Instr.mapUpdate y29 (.map t30_4) (.int .i64 t34_4) (.pointer (some t40_5))) (fun _ h23 =>
J1 m0 Q h23) h22)) ∧
True)) ∧
True) ∧
(
SpecH PP z293 [.pointer m0] h3 (fun v_2 h4 => ∃ (t37 : Int), v_2 = (.int .i64 t37) ∧
(
∃ (t30_3 : ON), cellH h4 (Addr.add t28 2) = some (.map t30_3) ∧
(
∃ (t34_3 : Int), cellH h4 (Addr.add t32 3) = some (.int .i64 t34_3) ∧
SpecH PP z328 [.int .i64 t37] h4 (fun v_7 h17 => ∃ (t38_4 : OA), v_7 = (.pointer t38_4) ∧
let t40_4 : Addr := ⟨Array.size h17, 0, none⟩
let h18 : Heap := Array.push h17 (.cells #[.string y32, .pointer t38_4] y35 (0, 0))
hwp PP (Instr.mapUpdate y29 (.map t30_3) (.int .i64 t34_3) (.pointer (some t40_4))) (fun _ h19 =>
J1 m0 Q h19) h18)) ∧
(
SpecH PP z328 [.int .i64 t37] h4 (fun v_6 h14 => ∃ (t38_3 : OA), v_6 = (.pointer t38_3) ∧
∃ (t34_2 : Int), cellH h14 (Addr.add t32 3) = some (.int .i64 t34_2) ∧
let t40_3 : Addr := ⟨Array.size h14, 0, none⟩
let h15 : Heap := Array.push h14 (.cells #[.string y32, .pointer t38_3] y35 (0, 0))
hwp PP (Instr.mapUpdate y29 (.map t30_3) (.int .i64 t34_2) (.pointer (some t40_3))) (fun _ h16 =>
J1 m0 Q h16) h15)) ∧
True) ∧
(
∃ (t34_1 : Int), cellH h4 (Addr.add t32 3) = some (.int .i64 t34_1) ∧
(
∃ (t30_2 : ON), cellH h4 (Addr.add t28 2) = some (.map t30_2) ∧
SpecH PP z328 [.int .i64 t37] h4 (fun v_5 h11 => ∃ (t38_2 : OA), v_5 = (.pointer t38_2) ∧
let t40_2 : Addr := ⟨Array.size h11, 0, none⟩
let h12 : Heap := Array.push h11 (.cells #[.string y32, .pointer t38_2] y35 (0, 0))
hwp PP (Instr.mapUpdate y29 (.map t30_2) (.int .i64 t34_1) (.pointer (some t40_2))) (fun _ h13 =>
J1 m0 Q h13) h12)) ∧
(
SpecH PP z328 [.int .i64 t37] h4 (fun v_4 h8 => ∃ (t38_1 : OA), v_4 = (.pointer t38_1) ∧
∃ (t30_1 : ON), cellH h8 (Addr.add t28 2) = some (.map t30_1) ∧
let t40_1 : Addr := ⟨Array.size h8, 0, none⟩
let h9 : Heap := Array.push h8 (.cells #[.string y32, .pointer t38_1] y35 (0, 0))
hwp PP (Instr.mapUpdate y29 (.map t30_1) (.int .i64 t34_1) (.pointer (some t40_1))) (fun _ h10 =>
J1 m0 Q h10) h9)) ∧
True) ∧
(
SpecH PP z328 [.int .i64 t37] h4 (fun v_3 h5 => ∃ (t38 : OA), v_3 = (.pointer t38) ∧
∃ (t30 : ON), cellH h5 (Addr.add t28 2) = some (.map t30) ∧
∃ (t34 : Int), cellH h5 (Addr.add t32 3) = some (.int .i64 t34) ∧
let t40 : Addr := ⟨Array.size h5, 0, none⟩
let h6 : Heap := Array.push h5 (.cells #[.string y32, .pointer t38] y35 (0, 0))
hwp PP (Instr.mapUpdate y29 (.map t30) (.int .i64 t34) (.pointer (some t40))) (fun _ h7 =>
J1 m0 Q h7) h6)) ∧
True)) ∧
True))) h2)))) h1))))) : SpecH PP z281 [.pointer m0, .string y32] h Q :=
  spec_of_txt (ann := ann) Tryz.func11 rfl rfl (by kernel_rfl) H
end z280
namespace z284
def ann : Ann := (.seq 3 (rg 2 3) (.seq 195 (rg 9 195) (.seq 195 (.seq 524483 (rg 6 524483) (.join (.cond (.seq 48 (rg 3 48) (.exit 48)) .leaf))) (.seq 195 (.seq 268435651 (rg 8 268435651) (.join (.cond (.seq 195 (rg 11 195) (rg 11 195)) .leaf))) (.join (.seq 192 (rg 3 192) (.seq 48 (rg 5 48) (.exit 48))))))))
noncomputable abbrev cd (n : Nat) : Code := sub (bodyOf Tryz.f12) (pth n)
abbrev an (n : Nat) : Ann := subA ann (pth n)
@[irreducible] def K1 (Q : VP) : EP := seqK (fun fr h => ev PP true none (cd 15) (an 15) (fr.mask 195) (bodyK PP Tryz.f12 Q) h) (bodyK PP Tryz.f12 Q)
@[irreducible] def J1 (m0 : OA) (txn1 : Int) (c6 : Addr) (e7 : Int) (t19 : Bool) (Q : VP) (h : Heap) : Prop := Jn PP true (cd 29) (mkFr 0 56 [(0, .pointer m0), (1, .int .i64 txn1), (6, (.pointer (some c6))), (7, .int .i64 e7), (19, .bool t19)]) (K1 Q) h
@[irreducible] def K2 (Q : VP) : EP := seqK (fun fr h => Jn PP true (cd 31) (fr.mask 195) (bodyK PP Tryz.f12 Q) h) (bodyK PP Tryz.f12 Q)
@[irreducible] def J2 (m0 : OA) (txn1 : Int) (c6 : Addr) (e7 : Int) (t28 : Bool) (Q : VP) (h : Heap) : Prop := Jn PP true (cd 61) (mkFr 0 56 [(0, .pointer m0), (1, .int .i64 txn1), (6, (.pointer (some c6))), (7, .int .i64 e7), (28, .bool t28)]) (K2 Q) h
@[irreducible] def J3 (m0 : OA) (txn1 : Int) (c6 : Addr) (e7 : Int) (Q : VP) (h : Heap) : Prop := Jn PP true (cd 31) (mkFr 0 56 [(0, .pointer m0), (1, .int .i64 txn1), (6, (.pointer (some c6))), (7, .int .i64 e7)]) (bodyK PP Tryz.f12 Q) h
theorem J1_of {m0 : OA} {txn1 : Int} {c6 : Addr} {e7 : Int} {t19 : Bool} {Q : VP} {h : Heap} (H :
br t19 (
Q (.tuple #[.int .i64 0, .int .i64 e7]) h) (
let t22 : Bool := (e7 == 0)
br t22 (
∃ (t25 : OA) (t25n t25c : Nat), cellH h (Addr.add c6 1) = some (.slice t25 t25n t25c) ∧
let t27 : Bool := decide ((t25n : Int) > 0)
J2 m0 txn1 c6 e7 t27 Q h) (
J2 m0 txn1 c6 e7 false Q h))) : J1 m0 txn1 c6 e7 t19 Q h := by unfold J1; exact Jn.of_txt (an 29) (by kernel_rfl) H
theorem J2_of {m0 : OA} {txn1 : Int} {c6 : Addr} {e7 : Int} {t28 : Bool} {Q : VP} {h : Heap} (H :
br t28 (
nilc m0 (fun t30 =>
∃ (t32 : OA), cellH h t30 = some (.pointer t32) ∧
∃ (t34 : Int), cellH h c6 = some (.int .i64 t34) ∧
let t35 : Int := IntKind.i64.wrap (t34 + 1)
∃ (t37 : OA) (t37n t37c : Nat), cellH h (Addr.add c6 1) = some (.slice t37 t37n t37c) ∧
SpecH PP z111 [.pointer t32, (.agg #[.int .i64 t35, (.slice t37 t37n t37c)])] h (fun v h1 => ∃ (t39 : Int), v = (.int .i64 t39) ∧
nilc m0 (fun t42 =>
∃ (t44 : OA) (t44n t44c : Nat), cellH h1 (Addr.add t42 1) = some (.slice t44 t44n t44c) ∧
∃ (t45f0 : Int) (t45f1 : OA) (t45f1n t45f1c : Nat), rdCells h1 c6 0 [.int .i64 t45f0, (.slice t45f1 t45f1n t45f1c)] ∧
let h2 : Heap := Array.push h1 (.cells #[.int .i64 t45f0, (.slice t45f1 t45f1n t45f1c)] y20 (0, 0))
hwp PP (Builtin.append_ #[y60, y60] y60 #[(.slice t44 t44n t44c), (.slice (some ⟨Array.size h1, 0, none⟩) 1 1)]) (fun v_1 h3 => ∃ (t47 : OA) (t47n t47c : Nat), v_1 = (.slice t47 t47n t47c) ∧
nilc m0 (fun t48 =>
wr (Addr.add t48 1) (.slice t47 t47n t47c) (fun h4 =>
J3 m0 txn1 c6 e7 Q h4) h3)) h2)))) (
J3 m0 txn1 c6 e7 Q h)) : J2 m0 txn1 c6 e7 t28 Q h := by unfold J2; exact Jn.of_txt (an 61) (by kernel_rfl) H
theorem J3_of {m0 : OA} {txn1 : Int} {c6 : Addr} {e7 : Int} {Q : VP} {h : Heap} (H :
SpecH PP z309 [.pointer m0, .int .i64 txn1] h (fun v h1 => v = (.tuple #[]) ∧
∃ (t54 : Int), cellH h1 c6 = some (.int .i64 t54) ∧
Q (.tuple #[.int .i64 t54, .int .i64 e7]) h1)) : J3 m0 txn1 c6 e7 Q h := by unfold J3; exact Jn.of_txt (an 31) (by kernel_rfl) H
theorem door {m0 : OA} {txn1 : Int} {Q : VP} {h : Heap} (H :
SpecH PP z283 [.pointer m0, .int .i64 txn1] h (fun v h1 => ∃ (t11f0 : Int) (t11f1 : OA) (t11f1n t11f1c : Nat) (t11_1 : Int), v = (.tuple #[(.agg #[.int .i64 t11f0, (.slice t11f1 t11f1n t11f1c)]), .int .i64 t11_1]) ∧
let c6 : Addr := ⟨Array.size h1, 0, none⟩
let h2 : Heap := Array.push h1 (.cells #[.int .i64 0, (.slice none 0 0)] y20 (0, 0))
wrCells c6 0 [.int .i64 t11f0, (.slice t11f1 t11f1n t11f1c)] (fun h3 =>
let t15 : Bool := (t11_1 == 3)
br t15 (
J1 m0 txn1 c6 t11_1 true Q h3) (
let t18 : Bool := (t11_1 == 140)
J1 m0 txn1 c6 t11_1 t18 Q h3)) h2)) : SpecH PP z285 [.pointer m0, .int .i64 txn1] h Q :=
  spec_of_txt (ann := ann) Tryz.func12 rfl rfl (by kernel_rfl) H
end z284
namespace z137
def ann : Ann := (.seq 99 (rg 2 99) (.seq 227 (rg 4 227) (.seq 192 (.seq 2275 (rg 2 2275) (.block (.seq 6371 (rg 2 6371) (.cond (rg 14 192) (.seq 67111139 (rg 2 67111139) (.cond (rg 12 192) (.seq 274877909219 (rg 2 274877909219) (.cond (rg 11 192) (.seq 1125899906844899 (rg 2 1125899906844899) (.cond (rg 11 192) (.seq 4611686018427388131 (rg 2 4611686018427388131) (.cond (rg 9 192) .leaf)))))))))))) (.join (.seq 64 (rg 2 64) (.exit 64))))))
noncomputable abbrev cd (n : Nat) : Code := sub (bodyOf Tryz.f13) (pth n)
abbrev an (n : Nat) : Ann := subA ann (pth n)
@[irreducible] def J1 (t6 s7 : Addr) (Q : VP) (h : Heap) : Prop := Jn PP true (cd 15) (mkFr 0 73 [(6, (.pointer (some t6))), (7, (.pointer (some s7)))]) (bodyK PP Tryz.f13 Q) h
theorem J1_of {t6 s7 : Addr} {Q : VP} {h : Heap} (H :
∃ (t72f0 t72f1 : Int) (t72f2 t72f3 t72f4 t72f5 t72f6 : ByteArray) (t72f7 : OA) (t72f7n t72f7c : Nat) (t72f8 : Int), rdCells h s7 0 [.int .i64 t72f0, .int .i64 t72f1, .string t72f2, .string t72f3, .string t72f4, .string t72f5, .string t72f6, (.slice t72f7 t72f7n t72f7c), .int .i64 t72f8] ∧
wrCells t6 0 [.int .i64 t72f0, .int .i64 t72f1, .string t72f2, .string t72f3, .string t72f4, .string t72f5, .string t72f6, (.slice t72f7 t72f7n t72f7c), .int .i64 t72f8] (fun h1 =>
∃ (t6_1f0 t6_1f1 : Int) (t6_1f2 t6_1f3 t6_1f4 t6_1f5 t6_1f6 : ByteArray) (t6_1f7 : OA) (t6_1f7n t6_1f7c : Nat) (t6_1f8 : Int), rdCells h1 t6 0 [.int .i64 t6_1f0, .int .i64 t6_1f1, .string t6_1f2, .string t6_1f3, .string t6_1f4, .string t6_1f5, .string t6_1f6, (.slice t6_1f7 t6_1f7n t6_1f7c), .int .i64 t6_1f8] ∧
Q (.agg #[.int .i64 t6_1f0, .int .i64 t6_1f1, .string t6_1f2, .string t6_1f3, .string t6_1f4, .string t6_1f5, .string t6_1f6, (.slice t6_1f7 t6_1f7n t6_1f7c), .int .i64 t6_1f8]) h1) h) : J1 t6 s7 Q h := by unfold J1; exact Jn.of_txt (an 15) (by kernel_rfl) H
theorem door {m0 : OA} {xn1 o2f0 o2f1 : Int} {o2f2 o2f3 o2f4 o2f5 : ByteArray} {Q : VP} {h : Heap} (H :
let o5 : Addr := ⟨Array.size h, 0, none⟩
let h1 : Heap := Array.push h (.cells #[.int .i64 o2f0, .int .i64 o2f1, .string o2f2, .string o2f3, .string o2f4, .string o2f5] y47 (0, 0))
let t6 : Addr := ⟨Array.size h1, 0, none⟩
let h2 : Heap := Array.push h1 (.cells #[.int .i64 0, .int .i64 0, (.string (⟨#[]⟩ : ByteArray)), (.string (⟨#[]⟩ : ByteArray)), (.string (⟨#[]⟩ : ByteArray)), (.string (⟨#[]⟩ : ByteArray)), (.string (⟨#[]⟩ : ByteArray)), (.slice none 0 0), .int .i64 0] y45 (0, 0))
∃ (t8f0 t8f1 : Int) (t8f2 t8f3 t8f4 t8f5 : ByteArray), rdCells h2 o5 0 [.int .i64 t8f0, .int .i64 t8f1, .string t8f2, .string t8f3, .string t8f4, .string t8f5] ∧
let s7 : Addr := ⟨Array.size h2, 0, none⟩
let h3 : Heap := Array.push h2 (.cells #[.int .i64 0, .int .i64 0, (.string (⟨#[]⟩ : ByteArray)), (.string (⟨#[]⟩ : ByteArray)), (.string (⟨#[]⟩ : ByteArray)), (.string (⟨#[]⟩ : ByteArray)), (.string (⟨#[]⟩ : ByteArray)), (.slice none 0 0), .int .i64 0] y45 (0, 0))
wrCells s7 0 [.int .i64 t8f0, .int .i64 t8f1, .string t8f2, .string t8f3, .string t8f4, .string t8f5, (.string (⟨#[]⟩ : ByteArray)), (.slice none 0 0), .int .i64 0] (fun h4 =>
∃ (t11 : Int), cellH h4 o5 = some (.int .i64 t11) ∧
let t13 : Bool := (t11 == 2)
br t13 (
∃ (t18 : ByteArray), cellH h4 (Addr.add o5 3) = some (.string t18) ∧
∃ (t20 : ByteArray), cellH h4 (Addr.add o5 4) = some (.string t20) ∧
SpecH PP z301 [.pointer m0, .int .i64 xn1, .string t18, .string t20] h4 (fun v h5 => ∃ (t21 : ByteArray) (t21_1 : Int), v = (.tuple #[.string t21, .int .i64 t21_1]) ∧
wr (Addr.add s7 6) (.string t21) (fun h6 =>
wr (Addr.add s7 8) (.int .i64 t21_1) (fun h7 =>
J1 t6 s7 Q h7) h6) h5)) (
let t27 : Bool := (t11 == 3)
br t27 (
∃ (t32 : ByteArray), cellH h4 (Addr.add o5 3) = some (.string t32) ∧
SpecH PP z291 [.pointer m0, .int .i64 xn1, .string t32] h4 (fun v_1 h8 => ∃ (t33 : OA) (t33n t33c : Nat) (t33_1 : Int), v_1 = (.tuple #[(.slice t33 t33n t33c), .int .i64 t33_1]) ∧
wr (Addr.add s7 7) (.slice t33 t33n t33c) (fun h9 =>
wr (Addr.add s7 8) (.int .i64 t33_1) (fun h10 =>
J1 t6 s7 Q h10) h9) h8)) (
let t39 : Bool := (t11 == 4)
br t39 (
∃ (t43 : ByteArray), cellH h4 (Addr.add o5 3) = some (.string t43) ∧
∃ (t45 : ByteArray), cellH h4 (Addr.add o5 4) = some (.string t45) ∧
∃ (t47 : ByteArray), cellH h4 (Addr.add o5 5) = some (.string t47) ∧
SpecH PP z299 [.pointer m0, .int .i64 xn1, .string t43, .string t45, .string t47] h4 (fun v_2 h11 => ∃ (t48 : Int), v_2 = (.int .i64 t48) ∧
wr (Addr.add s7 8) (.int .i64 t48) (fun h12 =>
J1 t6 s7 Q h12) h11)) (
let t51 : Bool := (t11 == 5)
br t51 (
∃ (t55 : ByteArray), cellH h4 (Addr.add o5 3) = some (.string t55) ∧
∃ (t57 : ByteArray), cellH h4 (Addr.add o5 4) = some (.string t57) ∧
∃ (t59 : ByteArray), cellH h4 (Addr.add o5 5) = some (.string t59) ∧
SpecH PP z279 [.pointer m0, .int .i64 xn1, .string t55, .string t57, .string t59] h4 (fun v_3 h13 => ∃ (t60 : Int), v_3 = (.int .i64 t60) ∧
wr (Addr.add s7 8) (.int .i64 t60) (fun h14 =>
J1 t6 s7 Q h14) h13)) (
let t63 : Bool := (t11 == 6)
br t63 (
∃ (t67 : ByteArray), cellH h4 (Addr.add o5 3) = some (.string t67) ∧
∃ (t69 : ByteArray), cellH h4 (Addr.add o5 4) = some (.string t69) ∧
SpecH PP z287 [.pointer m0, .int .i64 xn1, .string t67, .string t69] h4 (fun v_4 h15 => ∃ (t70 : Int), v_4 = (.int .i64 t70) ∧
wr (Addr.add s7 8) (.int .i64 t70) (fun h16 =>
J1 t6 s7 Q h16) h15)) (
J1 t6 s7 Q h4)))))) h3) : SpecH PP z138 [.pointer m0, .int .i64 xn1, (.agg #[.int .i64 o2f0, .int .i64 o2f1, .string o2f2, .string o2f3, .string o2f4, .string o2f5])] h Q :=
  spec_of_txt (ann := ann) Tryz.func13 rfl rfl (by kernel_rfl) H
end z137
namespace z282
def ann : Ann := (.seq 19 (rg 2 19) (.seq 19 (.seq 4115 (rg 2 4115) (.cond (.seq 48 (rg 3 48) (.exit 48)) .leaf)) (.seq 209 (rg 11 209) (.seq 81 (.seq 16777297 (rg 2 16777297) (.cond (.seq 48 (rg 3 48) (.exit 48)) .leaf)) (.seq 337 (rg 6 337) (.seq 337 (.seq 8589934929 (rg 3 8589934929) (.cond (.seq 48 (rg 3 48) (.exit 48)) .leaf)) (.seq 337 (.seq 1924145348945 (rg 6 1924145348945) (.block (.loop 1924145348945 (.seq 4123168604497 (rg 1 4123168604497) (.seq 1924145348945 (.cond .leaf (.exit 337)) (.seq 1924145348945 (.block (.seq 1924145349969 (rg 4 1924145349969) (.seq 576462676448772433 (.tree (.run [0, 2, 3, 4, 5] (.alt 1 (.run [6, 7, 8, 9, 10, 11, 12, 13, 14, 15] .done) (.alt 6 (.run [1, 7, 8, 9, 10, 11, 12, 13, 14, 15] .done) .nil))) 576462676448772433) (.join (.cond (.seq 48 (rg 3 48) (.exit 48)) .leaf))))) (rg 2 1924145348945))))))) (.seq 273 (.seq 590295810358705651985 (rg 8 590295810358705651985) (.cond (.seq 48 (rg 3 48) (.exit 48)) .leaf)) (.seq 48 (rg 7 48) (.exit 48))))))))))
noncomputable abbrev cd (n : Nat) : Code := sub (bodyOf Tryz.f14) (pth n)
abbrev an (n : Nat) : Ann := subA ann (pth n)
@[irreducible] def X0 (m0 : OA) (t4 : Addr) (t6 y69 : OA) (y65 y66 : Nat) : Fr := (mkFr 0 76 [(0, .pointer m0), (4, (.pointer (some t4))), (6, .pointer t6), (8, (.slice y69 y65 y66))])
@[irreducible] def Xret (t4 : Addr) (t5 : Int) : Fr := (mkFr 0 76 [(4, (.pointer (some t4))), (5, .int .i64 t5)])
@[irreducible] def L1 (m0 : OA) (t4 : Addr) (t6 y69 : OA) (y65 y66 : Nat) (t38 : OA) (t38n t38c : Nat) (t39 t40 : Int) (K : EP) (h : Heap) : Prop := Lp PP true (cd 2036) (mkFr 0 76 [(0, .pointer m0), (4, (.pointer (some t4))), (6, .pointer t6), (8, (.slice y69 y65 y66)), (38, (.slice t38 t38n t38c)), (39, .int .i64 t39), (40, .int .i64 t40)]) K h
@[irreducible] def B1 (K : EP) : EP := seqK (fun fr h => Lp PP true (cd 2036) (fr.mask 1924145348945) K h) K
@[irreducible] def K4 (K : EP) : EP := seqK (fun fr h => ev PP true none (cd 16295) (an 16295) (fr.mask 1924145348945) (B1 K) h) (B1 K)
@[irreducible] def K2 (K : EP) : EP := blockK 1 (K4 K)
@[irreducible] def J1 (m0 : OA) (t4 : Addr) (t6 y69 : OA) (y65 y66 : Nat) (t38 : OA) (t38n t38c : Nat) (t39 t40 : Int) (t59 : Bool) (K : EP) (h : Heap) : Prop := Jn PP true (cd 130355) (mkFr 0 76 [(0, .pointer m0), (4, (.pointer (some t4))), (6, .pointer t6), (8, (.slice y69 y65 y66)), (38, (.slice t38 t38n t38c)), (39, .int .i64 t39), (40, .int .i64 t40), (59, .bool t59)]) (K2 K) h
@[irreducible] def K3 (Q : VP) : EP := seqK (fun fr h => ev PP true none (cd 255) (an 255) (fr.mask 337) (bodyK PP Tryz.f14 Q) h) (bodyK PP Tryz.f14 Q)
@[irreducible] def K1 (Q : VP) : EP := blockK 0 (K3 Q)
theorem L1_of {m0 : OA} {t4 : Addr} {t6 y69 : OA} {y65 y66 : Nat} {t38 : OA} {t38n t38c : Nat} {t39 t40 : Int} {K : EP} {h : Heap} (H :
let t41 : Bool := decide (t40 < t39)
br t41 (
hwp PP (Instr.indexAt y60 (.slice t38 t38n t38c) (.int .i64 t40)) (fun v h1 => ∃ (t42 : Addr), v = (.pointer (some t42)) ∧
∃ (t43f0 : Int) (t43f1 : OA) (t43f1n t43f1c : Nat), rdCells h1 t42 0 [.int .i64 t43f0, (.slice t43f1 t43f1n t43f1c)] ∧
let c10 : Addr := ⟨Array.size h1, 0, none⟩
let h2 : Heap := Array.push h1 (.cells #[.int .i64 0, (.slice none 0 0)] y20 (0, 0))
wrCells c10 0 [.int .i64 t43f0, (.slice t43f1 t43f1n t43f1c)] (fun h3 =>
nilc t6 (fun t47 =>
∃ (t49 : OA), cellH h3 (Addr.add t47 1) = some (.pointer t49) ∧
(
∃ (t45_1 : Int), cellH h3 c10 = some (.int .i64 t45_1) ∧
SpecH PP z330 [.pointer t49] h3 (fun v_3 h6 => ∃ (t50_1 : Int), v_3 = (.int .i64 t50_1) ∧
let t51_1 : Bool := decide (t45_1 > t50_1)
br t51_1 (
nilc t6 (fun t54_1 =>
∃ (t56_1 : OA), cellH h6 (Addr.add t54_1 1) = some (.pointer t56_1) ∧
∃ (t57_1f0 : Int) (t57_1f1 : OA) (t57_1f1n t57_1f1c : Nat), rdCells h6 c10 0 [.int .i64 t57_1f0, (.slice t57_1f1 t57_1f1n t57_1f1c)] ∧
SpecH PP z332 [.pointer t56_1, (.agg #[.int .i64 t57_1f0, (.slice t57_1f1 t57_1f1n t57_1f1c)])] h6 (fun v_4 h7 => ∃ (t58_1 : Bool), v_4 = (.bool t58_1) ∧
J1 m0 t4 t6 y69 y65 y66 t38 t38n t38c t39 t40 t58_1 K h7))) (
J1 m0 t4 t6 y69 y65 y66 t38 t38n t38c t39 t40 false K h6))) ∧
(
SpecH PP z330 [.pointer t49] h3 (fun v_1 h4 => ∃ (t50 : Int), v_1 = (.int .i64 t50) ∧
∃ (t45 : Int), cellH h4 c10 = some (.int .i64 t45) ∧
let t51 : Bool := decide (t45 > t50)
br t51 (
nilc t6 (fun t54 =>
∃ (t56 : OA), cellH h4 (Addr.add t54 1) = some (.pointer t56) ∧
∃ (t57f0 : Int) (t57f1 : OA) (t57f1n t57f1c : Nat), rdCells h4 c10 0 [.int .i64 t57f0, (.slice t57f1 t57f1n t57f1c)] ∧
SpecH PP z332 [.pointer t56, (.agg #[.int .i64 t57f0, (.slice t57f1 t57f1n t57f1c)])] h4 (fun v_2 h5 => ∃ (t58 : Bool), v_2 = (.bool t58) ∧
J1 m0 t4 t6 y69 y65 y66 t38 t38n t38c t39 t40 t58 K h5))) (
J1 m0 t4 t6 y69 y65 y66 t38 t38n t38c t39 t40 false K h4))) ∧
True)) h2) h) (
K (.exit 0) (X0 m0 t4 t6 y69 y65 y66) h)) : L1 m0 t4 t6 y69 y65 y66 t38 t38n t38c t39 t40 K h := by unfold L1; exact Lp.of_txt (an 2036) 1924145348945 (by kernel_rfl) H
theorem L1_X0 {Q : VP} {m0 : OA} {t4 : Addr} {t6 y69 : OA} {y65 y66 : Nat} {h : Heap} (H :
nilc t6 (fun t64 =>
∃ (t66 : ByteArray), cellH h t64 = some (.string t66) ∧
SpecH PP z313 [.pointer m0, .string t66, (.slice y69 y65 y66)] h (fun v h1 => ∃ (t68 : Bool), v = (.bool t68) ∧
let t69 : Bool := (!t68)
br t69 (
wrCells t4 0 [.int .i64 0, (.slice none 0 0)] (fun h2 =>
∃ (t4_1f0 : Int) (t4_1f1 : OA) (t4_1f1n t4_1f1c : Nat), rdCells h2 t4 0 [.int .i64 t4_1f0, (.slice t4_1f1 t4_1f1n t4_1f1c)] ∧
Q (.tuple #[(.agg #[.int .i64 t4_1f0, (.slice t4_1f1 t4_1f1n t4_1f1c)]), .int .i64 145]) h2) h1) (
SpecH PP z293 [.pointer m0] h1 (fun v_1 h3 => ∃ (t72 : Int), v_1 = (.int .i64 t72) ∧
let t73 : Int := IntKind.i64.wrap (t72 + 1)
wrCells t4 0 [.int .i64 t73, (.slice y69 y65 y66)] (fun h4 =>
∃ (t4_2f0 : Int) (t4_2f1 : OA) (t4_2f1n t4_2f1c : Nat), rdCells h4 t4 0 [.int .i64 t4_2f0, (.slice t4_2f1 t4_2f1n t4_2f1c)] ∧
Q (.tuple #[(.agg #[.int .i64 t4_2f0, (.slice t4_2f1 t4_2f1n t4_2f1c)]), .int .i64 0]) h4) h3))))) : (K1 Q) (.exit 0) (X0 m0 t4 t6 y69 y65 y66) h := of_eq_txt (by kernel_rfl) H
theorem J1_of {m0 : OA} {t4 : Addr} {t6 y69 : OA} {y65 y66 : Nat} {t38 : OA} {t38n t38c : Nat} {t39 t40 : Int} {t59 : Bool} {K : EP} {h : Heap} (H :
br t59 (
wrCells t4 0 [.int .i64 0, (.slice none 0 0)] (fun h1 =>
K .ret (Xret t4 142) h1) h) (
let t61 : Int := IntKind.i64.wrap (t40 + 1)
L1 m0 t4 t6 y69 y65 y66 t38 t38n t38c t39 t61 K h)) : J1 m0 t4 t6 y69 y65 y66 t38 t38n t38c t39 t40 t59 K h := by unfold J1; exact Jn.of_txt (an 130355) (by kernel_rfl) H
theorem L1_Xret {Q : VP} {t4 : Addr} {t5 : Int} {h : Heap} (H :
∃ (t4_1f0 : Int) (t4_1f1 : OA) (t4_1f1n t4_1f1c : Nat), rdCells h t4 0 [.int .i64 t4_1f0, (.slice t4_1f1 t4_1f1n t4_1f1c)] ∧
Q (.tuple #[(.agg #[.int .i64 t4_1f0, (.slice t4_1f1 t4_1f1n t4_1f1c)]), .int .i64 t5]) h) : (K1 Q) .ret (Xret t4 t5) h := of_eq_txt (by kernel_rfl) H
theorem door {m0 : OA} {txn1 : Int} {Q : VP} {h : Heap} (H :
let t4 : Addr := ⟨Array.size h, 0, none⟩
let h1 : Heap := Array.push h (.cells #[.int .i64 0, (.slice none 0 0)] y20 (0, 0))
let t12 : Bool := (Option.isNone m0)
br t12 (
wrCells t4 0 [.int .i64 0, (.slice none 0 0)] (fun h2 =>
∃ (t4_1f0 : Int) (t4_1f1 : OA) (t4_1f1n t4_1f1c : Nat), rdCells h2 t4 0 [.int .i64 t4_1f0, (.slice t4_1f1 t4_1f1n t4_1f1c)] ∧
Q (.tuple #[(.agg #[.int .i64 t4_1f0, (.slice t4_1f1 t4_1f1n t4_1f1c)]), .int .i64 3]) h2) h1) (
nilc m0 (fun t16 =>
∃ (t18 : ON), cellH h1 (Addr.add t16 2) = some (.map t18) ∧
hwp PP (Instr.lookup y29 (.map t18) (.int .i64 txn1) true) (fun v h3 => ∃ (t20 : OA) (t20_1 : Bool), v = (.tuple #[.pointer t20, .bool t20_1]) ∧
let t24 : Bool := (!t20_1)
br t24 (
wrCells t4 0 [.int .i64 0, (.slice none 0 0)] (fun h4 =>
∃ (t4_2f0 : Int) (t4_2f1 : OA) (t4_2f1n t4_2f1c : Nat), rdCells h4 t4 0 [.int .i64 t4_2f0, (.slice t4_2f1 t4_2f1n t4_2f1c)] ∧
Q (.tuple #[(.agg #[.int .i64 t4_2f0, (.slice t4_2f1 t4_2f1n t4_2f1c)]), .int .i64 140]) h4) h3) (
nilc t20 (fun t27 =>
∃ (t29 : OA), cellH h3 (Addr.add t27 1) = some (.pointer t29) ∧
SpecH PP z346 [.pointer t29] h3 (fun v_1 h5 => ∃ (t30 : OA) (t30n t30c : Nat), v_1 = (.slice t30 t30n t30c) ∧
let t33 : Bool := ((t30n : Int) == 0)
br t33 (
wrCells t4 0 [.int .i64 0, (.slice none 0 0)] (fun h6 =>
∃ (t4_3f0 : Int) (t4_3f1 : OA) (t4_3f1n t4_3f1c : Nat), rdCells h6 t4 0 [.int .i64 t4_3f0, (.slice t4_3f1 t4_3f1n t4_3f1c)] ∧
Q (.tuple #[(.agg #[.int .i64 t4_3f0, (.slice t4_3f1 t4_3f1n t4_3f1c)]), .int .i64 0]) h6) h5) (
nilc m0 (fun t36 =>
∃ (t38 : OA) (t38n t38c : Nat), cellH h5 (Addr.add t36 1) = some (.slice t38 t38n t38c) ∧
L1 m0 t4 t20 t30 t30n t30c t38 t38n t38c (t38n : Int) 0 (K1 Q) h5)))))) h1))) : SpecH PP z283 [.pointer m0, .int .i64 txn1] h Q :=
  spec_of_txt (ann := ann) Tryz.func14 rfl rfl (by kernel_rfl) H
end z282
namespace z292
def ann : Ann := (.seq 1 (rg 1 1) (.seq 1 (.seq 17 (rg 2 17) (.cond (.seq 4 (rg 1 4) (.exit 4)) .leaf)) (.seq 4 (rg 7 4) (.exit 4))))
theorem door {m0 : OA} {Q : VP} {h : Heap} (H :
let t4 : Bool := (Option.isNone m0)
br t4 (
Q (.int .i64 0) h) (
nilc m0 (fun t6 =>
∃ (t8 : OA), cellH h t6 = some (.pointer t8) ∧
SpecH PP z107 [.pointer t8] h (fun v h1 => ∃ (t9 : Int), v = (.int .i64 t9) ∧
let t10 : Int := IntKind.i64.wrap (t9 - 1)
Q (.int .i64 t10) h1)))) : SpecH PP z293 [.pointer m0] h Q :=
  spec_of_txt (ann := ann) Tryz.func15 rfl rfl (by kernel_rfl) H
end z292
namespace z300
def ann : Ann := (.seq 15 (rg 2 15) (.seq 7169 (rg 14 7169) (.seq 3073 (.seq 134224897 (rg 2 134224897) (.cond (.seq 768 (rg 3 768) (.exit 768)) .leaf)) (.seq 60416 (rg 11 60416) (.seq 24576 (.seq 274877934592 (rg 2 274877934592) (.cond (rg 6 24576) .leaf)) (.join (.seq 8192 (.seq 70368744185856 (rg 2 70368744185856) (.cond (.seq 768 (rg 2 768) (.exit 768)) .leaf)) (.seq 768 (rg 3 768) (.exit 768)))))))))
noncomputable abbrev cd (n : Nat) : Code := sub (bodyOf Tryz.f16) (pth n)
abbrev an (n : Nat) : Ann := subA ann (pth n)
@[irreducible] def J1 (data13 : ByteArray) (there14 : Bool) (Q : VP) (h : Heap) : Prop := Jn PP true (cd 63) (mkFr 0 48 [(13, .string data13), (14, .bool there14)]) (bodyK PP Tryz.f16 Q) h
theorem J1_of {data13 : ByteArray} {there14 : Bool} {Q : VP} {h : Heap} (H :
let t46 : Bool := (!there14)
br t46 (
Q (.tuple #[(.string (⟨#[]⟩ : ByteArray)), .int .i64 144]) h) (
Q (.tuple #[.string data13, .int .i64 0]) h)) : J1 data13 there14 Q h := by unfold J1; exact Jn.of_txt (an 63) (by kernel_rfl) H
theorem door {m0 : OA} {txn1 : Int} {y54 y73 : ByteArray} {Q : VP} {h : Heap} (H :
let h1 : Heap := Array.push h (.cells #[.string y73] y19 (0, 0))
SpecH PP z305 [.pointer m0, .int .i64 txn1, .string y54, (.slice (some ⟨Array.size h, 0, none⟩) 1 1)] h1 (fun v h2 => ∃ (t22 : OA) (t22_1f0 t22_1f1 t22_1f2 : ByteArray) (t22_2 : Int), v = (.tuple #[.pointer t22, (.agg #[.string t22_1f0, .string t22_1f1, .string t22_1f2]), .int .i64 t22_2]) ∧
let k11 : Addr := ⟨Array.size h2, 0, none⟩
let h3 : Heap := Array.push h2 (.cells #[(.string (⟨#[]⟩ : ByteArray)), (.string (⟨#[]⟩ : ByteArray)), (.string (⟨#[]⟩ : ByteArray))] y16 (0, 0))
wrCells k11 0 [.string t22_1f0, .string t22_1f1, .string t22_1f2] (fun h4 =>
let t27 : Bool := (t22_2 != 0)
br t27 (
Q (.tuple #[(.string (⟨#[]⟩ : ByteArray)), .int .i64 t22_2]) h4) (
∃ (t32f0 t32f1 t32f2 : ByteArray), rdCells h4 k11 0 [.string t32f0, .string t32f1, .string t32f2] ∧
SpecH PP z319 [.pointer m0, .pointer t22, (.agg #[.string t32f0, .string t32f1, .string t32f2])] h4 (fun v_1 h5 => ∃ (t33 : ByteArray) (t33_1 t33_2 : Bool), v_1 = (.tuple #[.string t33, .bool t33_1, .bool t33_2]) ∧
let t38 : Bool := (!t33_2)
br t38 (
nilc t22 (fun t40 =>
∃ (t42 : OA), cellH h5 (Addr.add t40 1) = some (.pointer t42) ∧
∃ (t43f0 t43f1 t43f2 : ByteArray), rdCells h5 k11 0 [.string t43f0, .string t43f1, .string t43f2] ∧
SpecH PP z344 [.pointer t42, (.agg #[.string t43f0, .string t43f1, .string t43f2])] h5 (fun v_2 h6 => v_2 = (.tuple #[]) ∧
J1 t33 t33_1 Q h6))) (
J1 t33 t33_1 Q h5)))) h3)) : SpecH PP z301 [.pointer m0, .int .i64 txn1, .string y54, .string y73] h Q :=
  spec_of_txt (ann := ann) Tryz.func16 rfl rfl (by kernel_rfl) H
end z300
namespace z162
def ann : Ann := (.seq 12 (rg 3 12) (.seq 12 (.seq 524 (rg 5 524) (.cond (.seq 16 (rg 6 16) (.exit 16)) .leaf)) (.seq 12 (.seq 524300 (rg 5 524300) (.cond (.seq 16 (rg 6 16) (.exit 16)) .leaf)) (.seq 16 (rg 6 16) (.exit 16)))))
theorem door {a0f0 a0f1 a0f2 b1f0 b1f1 b1f2 : ByteArray} {Q : VP} {h : Heap} (H :
let a2 : Addr := ⟨Array.size h, 0, none⟩
let h1 : Heap := Array.push h (.cells #[.string a0f0, .string a0f1, .string a0f2] y16 (0, 0))
let b3 : Addr := ⟨Array.size h1, 0, none⟩
let h2 : Heap := Array.push h1 (.cells #[.string b1f0, .string b1f1, .string b1f2] y16 (0, 0))
∃ (t6 : ByteArray), cellH h2 a2 = some (.string t6) ∧
∃ (t8 : ByteArray), cellH h2 b3 = some (.string t8) ∧
let t9 : Bool := (!decide (t6 = t8))
br t9 (
∃ (t11 : ByteArray), cellH h2 a2 = some (.string t11) ∧
∃ (t13 : ByteArray), cellH h2 b3 = some (.string t13) ∧
let t14 : Bool := strLt t11 t13
Q (.bool t14) h2) (
∃ (t16 : ByteArray), cellH h2 (Addr.add a2 1) = some (.string t16) ∧
∃ (t18 : ByteArray), cellH h2 (Addr.add b3 1) = some (.string t18) ∧
let t19 : Bool := (!decide (t16 = t18))
br t19 (
∃ (t21 : ByteArray), cellH h2 (Addr.add a2 1) = some (.string t21) ∧
∃ (t23 : ByteArray), cellH h2 (Addr.add b3 1) = some (.string t23) ∧
let t24 : Bool := strLt t21 t23
Q (.bool t24) h2) (
∃ (t26 : ByteArray), cellH h2 (Addr.add a2 2) = some (.string t26) ∧
∃ (t28 : ByteArray), cellH h2 (Addr.add b3 2) = some (.string t28) ∧
let t29 : Bool := strLt t26 t28
Q (.bool t29) h2))) : SpecH PP z163 [(.agg #[.string a0f0, .string a0f1, .string a0f2]), (.agg #[.string b1f0, .string b1f1, .string b1f2])] h Q :=
  spec_of_txt (ann := ann) Tryz.func17 rfl rfl (by kernel_rfl) H
end z162
namespace z145
end z145
namespace z276
def ann : Ann := (.seq 3 (rg 1 3) (.seq 3 (.seq 67 (rg 8 67) (.seq 16451 (rg 2 16451) (.cond (.seq 16 (rg 2 16) (.exit 16)) .leaf))) (.seq 0 (rg 3 0) (.seq 16 (rg 1 16) (.exit 16)))))
theorem door {m0 : OA} {txn1 : Int} {Q : VP} {h : Heap} (H :
SpecH PP z297 [.pointer m0, .int .i64 txn1] h (fun v h1 => ∃ (t10 : ByteArray) (t10_1 : Int), v = (.tuple #[.string t10, .int .i64 t10_1]) ∧
let t14 : Bool := (t10_1 != 0)
br t14 (
Q (.int .i64 t10_1) h1) (
SpecH PP z309 [.pointer m0, .int .i64 txn1] h1 (fun v_1 h2 => v_1 = (.tuple #[]) ∧
Q (.int .i64 0) h2)))) : SpecH PP z277 [.pointer m0, .int .i64 txn1] h Q :=
  spec_of_txt (ann := ann) Tryz.func19 rfl rfl (by kernel_rfl) H
end z276
namespace z139
end z139
namespace z164
end z164
namespace z288
def ann : Ann := (.seq 1 (rg 1 1) (.seq 1 (.seq 17 (rg 2 17) (.cond (.seq 4 (rg 1 4) (.exit 4)) .leaf)) (.seq 4 (.tree (.run [0, 1, 2, 4, 5, 6, 7] (.alt 3 (.run [8, 9, 10] .done) (.alt 8 (.run [3, 9, 10] .done) .nil))) 4) (.exit 4))))
theorem door {m0 : OA} {Q : VP} {h : Heap} (H :
let t4 : Bool := (Option.isNone m0)
br t4 (
Q (.slice none 0 0) h) (
nilc m0 (fun t6 =>
nilc m0 (fun t10 =>
∃ (t12 : OA), cellH h t10 = some (.pointer t12) ∧
(
∃ (t8_1 : OA), cellH h t6 = some (.pointer t8_1) ∧
SpecH PP z107 [.pointer t12] h (fun v_2 h3 => ∃ (t13_1 : Int), v_2 = (.int .i64 t13_1) ∧
SpecH PP z97 [.pointer t8_1, .int .i64 t13_1] h3 (fun v_3 h4 => ∃ (t14_1 : OA) (t14_1n t14_1c : Nat), v_3 = (.slice t14_1 t14_1n t14_1c) ∧
Q (.slice t14_1 t14_1n t14_1c) h4))) ∧
(
SpecH PP z107 [.pointer t12] h (fun v h1 => ∃ (t13 : Int), v = (.int .i64 t13) ∧
∃ (t8 : OA), cellH h1 t6 = some (.pointer t8) ∧
SpecH PP z97 [.pointer t8, .int .i64 t13] h1 (fun v_1 h2 => ∃ (t14 : OA) (t14n t14c : Nat), v_1 = (.slice t14 t14n t14c) ∧
Q (.slice t14 t14n t14c) h2))) ∧
True)))) : SpecH PP z289 [.pointer m0] h Q :=
  spec_of_txt (ann := ann) Tryz.func22 rfl rfl (by kernel_rfl) H
end z288
namespace txn_New
def ann : Ann := (.seq 3 (rg 2 3) (.seq 3 (.seq 8388611 (rg 11 8388611) (.join (.cond (.seq 48 (rg 2 48) (.exit 48)) .leaf))) (.seq 65 (rg 5 65) (.seq 64 (.seq 939524160 (rg 3 939524160) (.block (.loop 939524160 (.seq 2013265984 (rg 1 2013265984) (.seq 939524160 (.cond .leaf (.exit 64)) (.seq 939524160 (.block (.seq 939524416 (rg 4 939524416) (.seq 121198608704 (rg 4 121198608704) (.block (.loop 121198608704 (.seq 258637562176 (rg 1 258637562176) (.seq 121198608704 (.cond .leaf (.exit 939524160)) (.seq 121198608704 (.block (.seq 121198609728 (rg 4 121198609728) (rg 16 121198608704))) (rg 2 121198608704))))))))) (rg 2 939524160))))))) (.seq 2112 (rg 5 2112) (.seq 2048 (.seq 6144 (rg 7 6144) (.seq 295147905179352832000 (rg 2 295147905179352832000) (.cond (.seq 48 (rg 3 48) (.exit 48)) .leaf))) (.seq 48 (rg 3 48) (.exit 48))))))))
noncomputable abbrev cd (n : Nat) : Code := sub (bodyOf Tryz.f23) (pth n)
abbrev an (n : Nat) : Ann := subA ann (pth n)
@[irreducible] def X0 (c6 : Addr) : Fr := (mkFr 0 71 [(6, (.pointer (some c6)))])
@[irreducible] def K1 (Q : VP) : EP := seqK (fun fr h => ev PP true none (cd 7) (an 7) (fr.mask 3) (bodyK PP Tryz.f23 Q) h) (bodyK PP Tryz.f23 Q)
@[irreducible] def J1 (xl0 : OA) (xl0n xl0c : Nat) (at1 : Int) (t23 : Bool) (Q : VP) (h : Heap) : Prop := Jn PP true (cd 13) (mkFr 0 71 [(0, (.slice xl0 xl0n xl0c)), (1, .int .i64 at1), (23, .bool t23)]) (K1 Q) h
@[irreducible] def K3 (Q : VP) : EP := seqK (fun fr h => ev PP true none (cd 31) (an 31) (fr.mask 64) (bodyK PP Tryz.f23 Q) h) (bodyK PP Tryz.f23 Q)
@[irreducible] def K2 (Q : VP) : EP := blockK 0 (K3 Q)
@[irreducible] def L1 (c6 : Addr) (t27 : OA) (t27n t27c : Nat) (t28 t29 : Int) (K : EP) (h : Heap) : Prop := Lp PP true (cd 244) (mkFr 0 71 [(6, (.pointer (some c6))), (27, (.slice t27 t27n t27c)), (28, .int .i64 t28), (29, .int .i64 t29)]) K h
@[irreducible] def B1 (K : EP) : EP := seqK (fun fr h => Lp PP true (cd 244) (fr.mask 939524160) K h) K
@[irreducible] def K6 (K : EP) : EP := seqK (fun fr h => ev PP true none (cd 1959) (an 1959) (fr.mask 939524160) (B1 K) h) (B1 K)
@[irreducible] def K5 (K : EP) : EP := blockK 1 (K6 K)
@[irreducible] def K4 (K : EP) : EP := blockK 2 (K5 K)
@[irreducible] def L2 (c6 a8 : Addr) (t27 : OA) (t27n t27c : Nat) (t28 t29 : Int) (t34 : OA) (t34n t34c : Nat) (t35 t36 : Int) (K : EP) (h : Heap) : Prop := Lp PP true (cd 62668) (mkFr 0 71 [(6, (.pointer (some c6))), (8, (.pointer (some a8))), (27, (.slice t27 t27n t27c)), (28, .int .i64 t28), (29, .int .i64 t29), (34, (.slice t34 t34n t34c)), (35, .int .i64 t35), (36, .int .i64 t36)]) K h
theorem J1_of {xl0 : OA} {xl0n xl0c : Nat} {at1 : Int} {t23 : Bool} {Q : VP} {h : Heap} (H :
br t23 (
Q (.tuple #[.pointer none, .int .i64 1]) h) (
let t25 : Int := IntKind.i64.wrap (at1 + 1)
let c6 : Addr := ⟨Array.size h, 0, none⟩
let h1 : Heap := Array.push h (.cells #[.int .i64 0, (.slice none 0 0)] y20 (0, 0))
wrCells c6 0 [.int .i64 t25, (.slice none 0 0)] (fun h2 =>
L1 c6 xl0 xl0n xl0c (xl0n : Int) 0 (K2 Q) h2) h1)) : J1 xl0 xl0n xl0c at1 t23 Q h := by unfold J1; exact Jn.of_txt (an 13) (by kernel_rfl) H
theorem L1_of {c6 : Addr} {t27 : OA} {t27n t27c : Nat} {t28 t29 : Int} {K : EP} {h : Heap} (H :
let t30 : Bool := decide (t29 < t28)
br t30 (
hwp PP (Instr.indexAt y39 (.slice t27 t27n t27c) (.int .i64 t29)) (fun v h1 => ∃ (t31 : Addr), v = (.pointer (some t31)) ∧
∃ (t32f0 t32f1 : ByteArray) (t32f2 : OA) (t32f2n t32f2c : Nat), rdCells h1 t31 0 [.string t32f0, .string t32f1, (.slice t32f2 t32f2n t32f2c)] ∧
let a8 : Addr := ⟨Array.size h1, 0, none⟩
let h2 : Heap := Array.push h1 (.cells #[(.string (⟨#[]⟩ : ByteArray)), (.string (⟨#[]⟩ : ByteArray)), (.slice none 0 0)] y33 (0, 0))
wrCells a8 0 [.string t32f0, .string t32f1, (.slice t32f2 t32f2n t32f2c)] (fun h3 =>
∃ (t34 : OA) (t34n t34c : Nat), cellH h3 (Addr.add a8 2) = some (.slice t34 t34n t34c) ∧
L2 c6 a8 t27 t27n t27c t28 t29 t34 t34n t34c (t34n : Int) 0 (K4 K) h3) h2) h) (
K (.exit 0) (X0 c6) h)) : L1 c6 t27 t27n t27c t28 t29 K h := by unfold L1; exact Lp.of_txt (an 244) 939524160 (by kernel_rfl) H
theorem L1_X0 {Q : VP} {c6 : Addr} {h : Heap} (H :
SpecH PP z95 [] h (fun v h1 => ∃ (t57 : OA), v = (.pointer t57) ∧
let h2 : Heap := Array.push h1 (.map #[] 0)
let t60 : Addr := ⟨Array.size h2, 0, none⟩
let h3 : Heap := Array.push h2 (.cells #[.pointer t57, (.slice none 0 0), (.map (some (Array.size h1))), .int .i64 0] y18 (0, 0))
∃ (t64 : OA), cellH h3 t60 = some (.pointer t64) ∧
∃ (t65f0 : Int) (t65f1 : OA) (t65f1n t65f1c : Nat), rdCells h3 c6 0 [.int .i64 t65f0, (.slice t65f1 t65f1n t65f1c)] ∧
SpecH PP z111 [.pointer t64, (.agg #[.int .i64 t65f0, (.slice t65f1 t65f1n t65f1c)])] h3 (fun v_1 h4 => ∃ (t66 : Int), v_1 = (.int .i64 t66) ∧
let t68 : Bool := (t66 != 0)
br t68 (
Q (.tuple #[.pointer none, .int .i64 t66]) h4) (
Q (.tuple #[(.pointer (some t60)), .int .i64 0]) h4)))) : (K2 Q) (.exit 0) (X0 c6) h := of_eq_txt (by kernel_rfl) H
theorem door {xl0 : OA} {xl0n xl0c : Nat} {at1 : Int} {Q : VP} {h : Heap} (H :
let t14 : Bool := decide (at1 < 0)
br t14 (
J1 xl0 xl0n xl0c at1 true Q h) (
let t17 : Bool := decide (at1 > 1000000000)
br t17 (
J1 xl0 xl0n xl0c at1 true Q h) (
SpecH PP z167 [(.slice xl0 xl0n xl0c)] h (fun v h1 => ∃ (t21 : Int), v = (.int .i64 t21) ∧
let t22 : Bool := (t21 != 0)
J1 xl0 xl0n xl0c at1 t22 Q h1)))) : SpecH PP z320 [(.slice xl0 xl0n xl0c), .int .i64 at1] h Q :=
  spec_of_txt (ann := ann) Tryz.func23 rfl rfl (by kernel_rfl) H
end txn_New
namespace z290
def ann : Ann := (.seq 199 (rg 2 199) (.seq 1985 (rg 12 1985) (.seq 961 (.seq 8390593 (rg 2 8390593) (.cond (.seq 192 (rg 3 192) (.exit 192)) .leaf)) (.seq 2497 (rg 7 2497) (.seq 2497 (rg 6 2497) (.seq 6593 (rg 1 6593) (.seq 4096 (.seq 549755818176 (rg 4 549755818176) (.block (.range 4288 (rg 1 12288) (.block (rg 5 0))))) (.seq 4096 (rg 2 4096) (.seq 192 (rg 3 192) (.exit 192))))))))))
noncomputable abbrev cd (n : Nat) : Code := sub (bodyOf Tryz.f26) (pth n)
abbrev an (n : Nat) : Ann := subA ann (pth n)
@[irreducible] def R1 (t6 : OA) (t6n t6c : Nat) (t7 : Int) (out12 : Addr) (t40 : ByteArray) (l : Nat) (K : VP) (h : Heap) : Prop := ev PP false none (cd 2036) (an 2036) (setAll (mkFr 0 48 [(6, (.slice t6 t6n t6c)), (7, .int .i64 t7), (12, (.pointer (some out12)))]) [(40, .string t40)]) (roundK PP l (cd 2037) (an 2037) 12288 K) h
@[irreducible] def K2 (Q : VP) : EP := seqK (fun fr h => ev PP true none (cd 255) (an 255) (fr.mask 4096) (bodyKR PP Tryz.f26 Q) h) (bodyKR PP Tryz.f26 Q)
@[irreducible] def K1 (Q : VP) : EP := blockK 0 (K2 Q)
theorem R1_of {t6 : OA} {t6n t6c : Nat} {t7 : Int} {out12 : Addr} {t40 : ByteArray} {l : Nat} {K : VP} {h : Heap} (H :
∃ xL : Loop, h[l]? = some (.loop xL) ∧ xL.state = .ready ∧
let h1 : Heap := h.setIfInBounds l (.loop { xL with state := .busy })
∃ (t41 : OA) (t41n t41c : Nat), cellH h1 out12 = some (.slice t41 t41n t41c) ∧
let h2 : Heap := Array.push h1 (.cells #[.string t40] y19 (0, 0))
hwp PP (Builtin.append_ #[y49, y49] y49 #[(.slice t41 t41n t41c), (.slice (some ⟨Array.size h1, 0, none⟩) 1 1)]) (fun v h3 => ∃ (t44 : OA) (t44n t44c : Nat), v = (.slice t44 t44n t44c) ∧
wr out12 (.slice t44 t44n t44c) (fun h4 =>
∃ xL_1, h4[l]? = some (.loop xL_1) ∧ K (.bool true) (h4.setIfInBounds l (endL xL_1 none))) h3) h2) : R1 t6 t6n t6c t7 out12 t40 l K h := of_eq_txt (by kernel_rfl) H
theorem R1_yield {t6 : OA} {t6n t6c : Nat} {t7 : Int} {out12 : Addr} {t40 : ByteArray} {l : Nat} {K : VP} {h : Heap} {L : Loop} (hl : h[l]? = some (.loop L)) (hp : L.params = #[40]) (ha : L.assign = (cd 2036)) (hb : L.body = (cd 2037)) (hf : FrRel (mkFr 0 48 [(6, (.slice t6 t6n t6c)), (7, .int .i64 t7), (12, (.pointer (some out12)))]) L.tmps) (H : R1 t6 t6n t6c t7 out12 t40 l K h) : callV PP (.func (.yield l) #[] #[]) [.string t40] K h := by
  unfold R1 at H
  refine yield_ok (ann := an 2036) (annB := an 2037) (m := 12288) hl (by rw [hp]; rfl) hf ?_
  rw [ha, hb, hp]; exact H
theorem R1_outn0 {Q : VP} {t6 : OA} {t6n t6c : Nat} {t7 : Int} {out12 : Addr} {h : Heap} (H :
∃ (t45 : OA) (t45n t45c : Nat), cellH h out12 = some (.slice t45 t45n t45c) ∧
SpecH PP F_slices_Sort_string_string [(.slice t45 t45n t45c)] h (fun v h1 => v = (.tuple #[]) ∧
∃ (t47 : OA) (t47n t47c : Nat), cellH h1 out12 = some (.slice t47 t47n t47c) ∧
∀ h2, Takes h1 h2 → Q (.tuple #[(.slice t47 t47n t47c), .int .i64 0]) h2)) : (K1 Q) .normal (mkFr 0 48 [(6, (.slice t6 t6n t6c)), (7, .int .i64 t7), (12, (.pointer (some out12)))]) h := of_eq_txt (by kernel_rfl) H
theorem door {m0 : OA} {txn1 : Int} {y54 : ByteArray} {Q : VP} {h : Heap} (H :
SpecH PP z305 [.pointer m0, .int .i64 txn1, .string y54, (.slice none 0 0)] h (fun v h1 => ∃ (t18 : OA) (t18_1f0 t18_1f1 t18_1f2 : ByteArray) (t18_2 : Int), v = (.tuple #[.pointer t18, (.agg #[.string t18_1f0, .string t18_1f1, .string t18_1f2]), .int .i64 t18_2]) ∧
let k9 : Addr := ⟨Array.size h1, 0, none⟩
let h2 : Heap := Array.push h1 (.cells #[(.string (⟨#[]⟩ : ByteArray)), (.string (⟨#[]⟩ : ByteArray)), (.string (⟨#[]⟩ : ByteArray))] y16 (0, 0))
wrCells k9 0 [.string t18_1f0, .string t18_1f1, .string t18_1f2] (fun h3 =>
let t23 : Bool := (t18_2 != 0)
br t23 (
∀ h4, Takes h3 h4 → Q (.tuple #[(.slice none 0 0), .int .i64 t18_2]) h4) (
∃ (t26 : ByteArray), cellH h3 k9 = some (.string t26) ∧
∃ (t28 : ByteArray), cellH h3 (Addr.add k9 1) = some (.string t28) ∧
let b11 : Addr := ⟨Array.size h3, 0, none⟩
let h5 : Heap := Array.push h3 (.cells #[(.string (⟨#[]⟩ : ByteArray)), (.string (⟨#[]⟩ : ByteArray))] y44 (0, 0))
wrCells b11 0 [.string t26, .string t28] (fun h6 =>
nilc t18 (fun t31 =>
∃ (t33 : OA), cellH h6 (Addr.add t31 1) = some (.pointer t33) ∧
∃ (t34f0 t34f1 : ByteArray), rdCells h6 b11 0 [.string t34f0, .string t34f1] ∧
SpecH PP z338 [.pointer t33, (.agg #[.string t34f0, .string t34f1])] h6 (fun v_1 h7 => v_1 = (.tuple #[]) ∧
let out12 : Addr := ⟨Array.size h7, 0, none⟩
let h8 : Heap := Array.push h7 (.cells #[(.slice none 0 0)] y49 (0, 0))
∃ (t38f0 t38f1 : ByteArray), rdCells h8 b11 0 [.string t38f0, .string t38f1] ∧
SpecH PP z315 [.pointer m0, .pointer t18, (.agg #[.string t38f0, .string t38f1])] h8 (fun v_2 h9 => ∃ (t39 : Value), v_2 = t39 ∧
rangeK PP t39 #[40] (cd 2036) (cd 2037) (mkFr 0 48 [(6, (.slice none 0 0)), (7, .int .i64 0), (12, (.pointer (some out12)))]) (K1 Q) h9)))) h5)) h2)) : SpecH PP z291 [.pointer m0, .int .i64 txn1, .string y54] h Q :=
  spec_of_txtR (ann := ann) Tryz.func26 rfl (by kernel_rfl) H
end z290
namespace z296
def ann : Ann := (.seq 3 (rg 2 3) (.seq 3 (.seq 515 (rg 2 515) (.cond (.seq 48 (rg 2 48) (.exit 48)) .leaf)) (.seq 192 (rg 11 192) (.seq 64 (.seq 1048640 (rg 2 1048640) (.cond (.seq 48 (rg 2 48) (.exit 48)) .leaf)) (.seq 48 (rg 6 48) (.exit 48))))))
theorem door {m0 : OA} {txn1 : Int} {Q : VP} {h : Heap} (H :
let t9 : Bool := (Option.isNone m0)
br t9 (
Q (.tuple #[(.string (⟨#[]⟩ : ByteArray)), .int .i64 3]) h) (
nilc m0 (fun t12 =>
∃ (t14 : ON), cellH h (Addr.add t12 2) = some (.map t14) ∧
hwp PP (Instr.lookup y29 (.map t14) (.int .i64 txn1) true) (fun v h1 => ∃ (t16 : OA) (t16_1 : Bool), v = (.tuple #[.pointer t16, .bool t16_1]) ∧
let t20 : Bool := (!t16_1)
br t20 (
Q (.tuple #[(.string (⟨#[]⟩ : ByteArray)), .int .i64 140]) h1) (
nilc t16 (fun t22 =>
∃ (t24 : ByteArray), cellH h1 t22 = some (.string t24) ∧
Q (.tuple #[.string t24, .int .i64 0]) h1))) h))) : SpecH PP z297 [.pointer m0, .int .i64 txn1] h Q :=
  spec_of_txt (ann := ann) Tryz.func27 rfl rfl (by kernel_rfl) H
end z296
namespace z298
def ann : Ann := (.seq 31 (rg 1 31) (.seq 14352 (rg 14 14352) (.seq 6160 (.block (.seq 16791568 (rg 3 16791568) (.cond (.seq 1024 (rg 2 1024) (.exit 1024)) (.seq 268441616 (rg 4 268441616) (.cond (.seq 1024 (rg 1 1024) (.exit 1024)) .leaf))))) (.seq 0 (rg 7 0) (.seq 1024 (rg 1 1024) (.exit 1024))))))
theorem door {m0 : OA} {txn1 : Int} {y54 y73 data4 : ByteArray} {Q : VP} {h : Heap} (H :
let h1 : Heap := Array.push h (.cells #[.string y73] y19 (0, 0))
SpecH PP z305 [.pointer m0, .int .i64 txn1, .string y54, (.slice (some ⟨Array.size h, 0, none⟩) 1 1)] h1 (fun v h2 => ∃ (t20 : OA) (t20_1f0 t20_1f1 t20_1f2 : ByteArray) (t20_2 : Int), v = (.tuple #[.pointer t20, (.agg #[.string t20_1f0, .string t20_1f1, .string t20_1f2]), .int .i64 t20_2]) ∧
let k12 : Addr := ⟨Array.size h2, 0, none⟩
let h3 : Heap := Array.push h2 (.cells #[(.string (⟨#[]⟩ : ByteArray)), (.string (⟨#[]⟩ : ByteArray)), (.string (⟨#[]⟩ : ByteArray))] y16 (0, 0))
wrCells k12 0 [.string t20_1f0, .string t20_1f1, .string t20_1f2] (fun h4 =>
let t26 : Bool := (t20_2 != 0)
br t26 (
Q (.int .i64 t20_2) h4) (
let t30 : Int := (ByteArray.size data4 : Int)
let t31 : Bool := decide (t30 > 8192)
br t31 (
Q (.int .i64 145) h4) (
nilc t20 (fun t33 =>
∃ (t35 : OA), cellH h4 (Addr.add t33 1) = some (.pointer t35) ∧
∃ (t36f0 t36f1 t36f2 : ByteArray), rdCells h4 k12 0 [.string t36f0, .string t36f1, .string t36f2] ∧
SpecH PP z342 [.pointer t35, (.agg #[.string t36f0, .string t36f1, .string t36f2]), .string data4] h4 (fun v_1 h5 => v_1 = (.tuple #[]) ∧
Q (.int .i64 0) h5))))) h3)) : SpecH PP z299 [.pointer m0, .int .i64 txn1, .string y54, .string y73, .string data4] h Q :=
  spec_of_txt (ann := ann) Tryz.func28 rfl rfl (by kernel_rfl) H
end z298
namespace z278
def ann : Ann := (.seq 31 (rg 1 31) (.seq 14353 (rg 14 14353) (.seq 6161 (.seq 268449809 (rg 2 268449809) (.cond (.seq 1024 (rg 2 1024) (.exit 1024)) .leaf)) (.seq 88080 (rg 11 88080) (.seq 22544 (.seq 549755836432 (rg 2 549755836432) (.cond (rg 6 22544) .leaf)) (.join (.seq 22544 (.seq 72057594037950480 (rg 11 72057594037950480) (.join (.cond (.seq 1024 (rg 1 1024) (.exit 1024)) .leaf))) (.seq 0 (rg 9 0) (.seq 1024 (rg 1 1024) (.exit 1024))))))))))
noncomputable abbrev cd (n : Nat) : Code := sub (bodyOf Tryz.f29) (pth n)
abbrev an (n : Nat) : Ann := subA ann (pth n)
@[irreducible] def J1 (data4 : ByteArray) (t11 : OA) (k12 : Addr) (was14 : ByteArray) (Q : VP) (h : Heap) : Prop := Jn PP true (cd 63) (mkFr 0 66 [(4, .string data4), (11, .pointer t11), (12, (.pointer (some k12))), (14, .string was14)]) (bodyK PP Tryz.f29 Q) h
@[irreducible] def K1 (Q : VP) : EP := seqK (fun fr h => ev PP true none (cd 127) (an 127) (fr.mask 22544) (bodyK PP Tryz.f29 Q) h) (bodyK PP Tryz.f29 Q)
@[irreducible] def J2 (data4 : ByteArray) (t11 : OA) (k12 : Addr) (was14 : ByteArray) (t56 : Bool) (Q : VP) (h : Heap) : Prop := Jn PP true (cd 253) (mkFr 0 66 [(4, .string data4), (11, .pointer t11), (12, (.pointer (some k12))), (14, .string was14), (56, .bool t56)]) (K1 Q) h
theorem J1_of {data4 : ByteArray} {t11 : OA} {k12 : Addr} {was14 : ByteArray} {Q : VP} {h : Heap} (H :
let t47 : Int := (ByteArray.size data4 : Int)
let t48 : Bool := decide (t47 > 8192)
br t48 (
J2 data4 t11 k12 was14 true Q h) (
let t51 : Int := (ByteArray.size was14 : Int)
let t53 : Int := (ByteArray.size data4 : Int)
let t54 : Int := IntKind.i64.wrap (t51 + t53)
let t55 : Bool := decide (t54 > 8192)
J2 data4 t11 k12 was14 t55 Q h)) : J1 data4 t11 k12 was14 Q h := by unfold J1; exact Jn.of_txt (an 63) (by kernel_rfl) H
theorem J2_of {data4 : ByteArray} {t11 : OA} {k12 : Addr} {was14 : ByteArray} {t56 : Bool} {Q : VP} {h : Heap} (H :
br t56 (
Q (.int .i64 145) h) (
nilc t11 (fun t58 =>
∃ (t60 : OA), cellH h (Addr.add t58 1) = some (.pointer t60) ∧
∃ (t61f0 t61f1 t61f2 : ByteArray), rdCells h k12 0 [.string t61f0, .string t61f1, .string t61f2] ∧
br (decide (ByteArray.size was14 + ByteArray.size data4 ≤ 9223372036854775807)) (
let t64 : ByteArray := (was14 ++ data4)
SpecH PP z342 [.pointer t60, (.agg #[.string t61f0, .string t61f1, .string t61f2]), .string t64] h (fun v h1 => v = (.tuple #[]) ∧
Q (.int .i64 0) h1)) False))) : J2 data4 t11 k12 was14 t56 Q h := by unfold J2; exact Jn.of_txt (an 253) (by kernel_rfl) H
theorem door {m0 : OA} {txn1 : Int} {y54 y73 data4 : ByteArray} {Q : VP} {h : Heap} (H :
let h1 : Heap := Array.push h (.cells #[.string y73] y19 (0, 0))
SpecH PP z305 [.pointer m0, .int .i64 txn1, .string y54, (.slice (some ⟨Array.size h, 0, none⟩) 1 1)] h1 (fun v h2 => ∃ (t23 : OA) (t23_1f0 t23_1f1 t23_1f2 : ByteArray) (t23_2 : Int), v = (.tuple #[.pointer t23, (.agg #[.string t23_1f0, .string t23_1f1, .string t23_1f2]), .int .i64 t23_2]) ∧
let k12 : Addr := ⟨Array.size h2, 0, none⟩
let h3 : Heap := Array.push h2 (.cells #[(.string (⟨#[]⟩ : ByteArray)), (.string (⟨#[]⟩ : ByteArray)), (.string (⟨#[]⟩ : ByteArray))] y16 (0, 0))
wrCells k12 0 [.string t23_1f0, .string t23_1f1, .string t23_1f2] (fun h4 =>
let t28 : Bool := (t23_2 != 0)
br t28 (
Q (.int .i64 t23_2) h4) (
∃ (t33f0 t33f1 t33f2 : ByteArray), rdCells h4 k12 0 [.string t33f0, .string t33f1, .string t33f2] ∧
SpecH PP z319 [.pointer m0, .pointer t23, (.agg #[.string t33f0, .string t33f1, .string t33f2])] h4 (fun v_1 h5 => ∃ (t34 : ByteArray) (t34_1 t34_2 : Bool), v_1 = (.tuple #[.string t34, .bool t34_1, .bool t34_2]) ∧
let t39 : Bool := (!t34_2)
br t39 (
nilc t23 (fun t41 =>
∃ (t43 : OA), cellH h5 (Addr.add t41 1) = some (.pointer t43) ∧
∃ (t44f0 t44f1 t44f2 : ByteArray), rdCells h5 k12 0 [.string t44f0, .string t44f1, .string t44f2] ∧
SpecH PP z344 [.pointer t43, (.agg #[.string t44f0, .string t44f1, .string t44f2])] h5 (fun v_2 h6 => v_2 = (.tuple #[]) ∧
J1 data4 t23 k12 t34 Q h6))) (
J1 data4 t23 k12 t34 Q h5)))) h3)) : SpecH PP z279 [.pointer m0, .int .i64 txn1, .string y54, .string y73, .string data4] h Q :=
  spec_of_txt (ann := ann) Tryz.func29 rfl rfl (by kernel_rfl) H
end z278
namespace z286
def ann : Ann := (.seq 15 (rg 1 15) (.seq 3584 (rg 14 3584) (.seq 1536 (.seq 8392192 (rg 2 8392192) (.cond (.seq 256 (rg 2 256) (.exit 256)) .leaf)) (.seq 0 (rg 6 0) (.seq 256 (rg 1 256) (.exit 256))))))
theorem door {m0 : OA} {txn1 : Int} {y54 y73 : ByteArray} {Q : VP} {h : Heap} (H :
let h1 : Heap := Array.push h (.cells #[.string y73] y19 (0, 0))
SpecH PP z305 [.pointer m0, .int .i64 txn1, .string y54, (.slice (some ⟨Array.size h, 0, none⟩) 1 1)] h1 (fun v h2 => ∃ (t18 : OA) (t18_1f0 t18_1f1 t18_1f2 : ByteArray) (t18_2 : Int), v = (.tuple #[.pointer t18, (.agg #[.string t18_1f0, .string t18_1f1, .string t18_1f2]), .int .i64 t18_2]) ∧
let k10 : Addr := ⟨Array.size h2, 0, none⟩
let h3 : Heap := Array.push h2 (.cells #[(.string (⟨#[]⟩ : ByteArray)), (.string (⟨#[]⟩ : ByteArray)), (.string (⟨#[]⟩ : ByteArray))] y16 (0, 0))
wrCells k10 0 [.string t18_1f0, .string t18_1f1, .string t18_1f2] (fun h4 =>
let t23 : Bool := (t18_2 != 0)
br t23 (
Q (.int .i64 t18_2) h4) (
nilc t18 (fun t26 =>
∃ (t28 : OA), cellH h4 (Addr.add t26 1) = some (.pointer t28) ∧
∃ (t29f0 t29f1 t29f2 : ByteArray), rdCells h4 k10 0 [.string t29f0, .string t29f1, .string t29f2] ∧
SpecH PP z336 [.pointer t28, (.agg #[.string t29f0, .string t29f1, .string t29f2])] h4 (fun v_1 h5 => v_1 = (.tuple #[]) ∧
Q (.int .i64 0) h5)))) h3)) : SpecH PP z287 [.pointer m0, .int .i64 txn1, .string y54, .string y73] h Q :=
  spec_of_txt (ann := ann) Tryz.func30 rfl rfl (by kernel_rfl) H
end z286
namespace z294
def ann : Ann := (.seq 1 (rg 1 1) (.seq 9 (rg 1 9) (.seq 8 (.seq 73 (rg 2 73) (.cond (.seq 2056 (rg 5 2056) (.block (.loop 2056 (.seq 10248 (rg 2 10248) (.seq 2056 (.cond .leaf (.exit 8)) (.block (.seq 2072 (rg 3 2072) (rg 5 2056)))))))) .leaf)) (.join (.seq 8 (rg 2 8) (.seq 4 (rg 2 4) (.exit 4)))))))
noncomputable abbrev cd (n : Nat) : Code := sub (bodyOf Tryz.f31) (pth n)
abbrev an (n : Nat) : Ann := subA ann (pth n)
@[irreducible] def L1 (out3 : OA) (out3n out3c : Nat) (t11 : Value) (K : EP) (h : Heap) : Prop := Lp PP true (cd 468) (mkFr 0 23 [(3, (.slice out3 out3n out3c)), (11, t11)]) K h
@[irreducible] def J1 (out3 : OA) (out3n out3c : Nat) (Q : VP) (h : Heap) : Prop := Jn PP true (cd 15) (mkFr 0 23 [(3, (.slice out3 out3n out3c))]) (bodyK PP Tryz.f31 Q) h
@[irreducible] def K2 (Q : VP) : EP := seqK (fun fr h => Jn PP true (cd 15) (fr.mask 8) (bodyK PP Tryz.f31 Q) h) (bodyK PP Tryz.f31 Q)
@[irreducible] def K1 (Q : VP) : EP := blockK 0 (K2 Q)
theorem J1_of {out3 : OA} {out3n out3c : Nat} {Q : VP} {h : Heap} (H :
SpecH PP F_slices_Sort_int_int [(.slice out3 out3n out3c)] h (fun v h1 => v = (.tuple #[]) ∧
Q (.slice out3 out3n out3c) h1)) : J1 out3 out3n out3c Q h := by unfold J1; exact Jn.of_txt (an 15) (by kernel_rfl) H
theorem door {m0 : OA} {Q : VP} {h : Heap} (H :
let t6 : Bool := (!Option.isNone m0)
br t6 (
nilc m0 (fun t8 =>
∃ (t10 : ON), cellH h (Addr.add t8 2) = some (.map t10) ∧
hwp PP (Instr.range y29 (.map t10)) (fun v h1 => ∃ (t11 : Value), v = t11 ∧
L1 none 0 0 t11 (K1 Q) h1) h)) (
J1 none 0 0 Q h)) : SpecH PP z295 [.pointer m0] h Q :=
  spec_of_txt (ann := ann) Tryz.func31 rfl rfl (by kernel_rfl) H
end z294
namespace z302
def ann : Ann := (.seq 19 (rg 1 19) (.seq 51 (rg 1 51) (.seq 48 (.seq 14386 (rg 4 14386) (.block (.loop 14386 (.seq 30770 (rg 1 30770) (.seq 14386 (.cond .leaf (.exit 48)) (.seq 14386 (.block (.seq 14514 (rg 4 14514) (.seq 1063090 (rg 4 1063090) (.cond (.seq 14514 (rg 8 14514) (.seq 3758110770 (rg 4 3758110770) (.block (.loop 3758110770 (.seq 8053078066 (rg 1 8053078066) (.seq 3758110770 (.cond .leaf (.exit 14386)) (.seq 3758110770 (.block (.seq 3758111282 (rg 4 3758111282) (rg 8 3758110770))) (rg 2 3758110770)))))))) .leaf)))) (.join (rg 2 14386)))))))) (.seq 16 (rg 2 16) (.exit 16)))))
noncomputable abbrev cd (n : Nat) : Code := sub (bodyOf Tryz.f32) (pth n)
abbrev an (n : Nat) : Ann := subA ann (pth n)
@[irreducible] def X0 (t4 u5 : Addr) : Fr := (mkFr 0 45 [(4, (.pointer (some t4))), (5, (.pointer (some u5)))])
@[irreducible] def X2 (y32 : ByteArray) (t4 u5 : Addr) (t11 : OA) (t11n t11c : Nat) (t12 t13 : Int) : Fr := (mkFr 0 45 [(1, .string y32), (4, (.pointer (some t4))), (5, (.pointer (some u5))), (11, (.slice t11 t11n t11c)), (12, .int .i64 t12), (13, .int .i64 t13)])
@[irreducible] def L1 (y32 : ByteArray) (t4 u5 : Addr) (t11 : OA) (t11n t11c : Nat) (t12 t13 : Int) (K : EP) (h : Heap) : Prop := Lp PP true (cd 116) (mkFr 0 45 [(1, .string y32), (4, (.pointer (some t4))), (5, (.pointer (some u5))), (11, (.slice t11 t11n t11c)), (12, .int .i64 t12), (13, .int .i64 t13)]) K h
@[irreducible] def B1 (K : EP) : EP := seqK (fun fr h => Lp PP true (cd 116) (fr.mask 14386) K h) K
@[irreducible] def J1 (y32 : ByteArray) (t4 u5 : Addr) (t11 : OA) (t11n t11c : Nat) (t12 t13 : Int) (K : EP) (h : Heap) : Prop := Jn PP true (cd 935) (mkFr 0 45 [(1, .string y32), (4, (.pointer (some t4))), (5, (.pointer (some u5))), (11, (.slice t11 t11n t11c)), (12, .int .i64 t12), (13, .int .i64 t13)]) (B1 K) h
@[irreducible] def K3 (Q : VP) : EP := seqK (fun fr h => ev PP true none (cd 15) (an 15) (fr.mask 48) (bodyK PP Tryz.f32 Q) h) (bodyK PP Tryz.f32 Q)
@[irreducible] def K1 (Q : VP) : EP := blockK 0 (K3 Q)
@[irreducible] def K5 (K : EP) : EP := seqK (fun fr h => Jn PP true (cd 935) (fr.mask 14386) (B1 K) h) (B1 K)
@[irreducible] def K4 (K : EP) : EP := blockK 1 (K5 K)
@[irreducible] def K2 (K : EP) : EP := blockK 2 (K4 K)
@[irreducible] def L2 (y32 : ByteArray) (t4 u5 : Addr) (t11 : OA) (t11n t11c : Nat) (t12 t13 : Int) (t29 : OA) (t29n t29c : Nat) (t30 t31 : Int) (K : EP) (h : Heap) : Prop := Lp PP true (cd 239212) (mkFr 0 45 [(1, .string y32), (4, (.pointer (some t4))), (5, (.pointer (some u5))), (11, (.slice t11 t11n t11c)), (12, .int .i64 t12), (13, .int .i64 t13), (29, (.slice t29 t29n t29c)), (30, .int .i64 t30), (31, .int .i64 t31)]) K h
theorem L1_of {y32 : ByteArray} {t4 u5 : Addr} {t11 : OA} {t11n t11c : Nat} {t12 t13 : Int} {K : EP} {h : Heap} (H :
let t14 : Bool := decide (t13 < t12)
br t14 (
hwp PP (Instr.indexAt y39 (.slice t11 t11n t11c) (.int .i64 t13)) (fun v h1 => ∃ (t15 : Addr), v = (.pointer (some t15)) ∧
∃ (t16f0 t16f1 : ByteArray) (t16f2 : OA) (t16f2n t16f2c : Nat), rdCells h1 t15 0 [.string t16f0, .string t16f1, (.slice t16f2 t16f2n t16f2c)] ∧
let a7 : Addr := ⟨Array.size h1, 0, none⟩
let h2 : Heap := Array.push h1 (.cells #[(.string (⟨#[]⟩ : ByteArray)), (.string (⟨#[]⟩ : ByteArray)), (.slice none 0 0)] y33 (0, 0))
wrCells a7 0 [.string t16f0, .string t16f1, (.slice t16f2 t16f2n t16f2c)] (fun h3 =>
∃ (t18 : ByteArray), cellH h3 a7 = some (.string t18) ∧
let t20 : Bool := decide (t18 = y32)
br t20 (
∃ (t22 : Int), cellH h3 (Addr.add u5 1) = some (.int .i64 t22) ∧
∃ (t24 : OA) (t24n t24c : Nat), cellH h3 (Addr.add a7 2) = some (.slice t24 t24n t24c) ∧
let t26 : Int := IntKind.i64.wrap (t22 + (t24n : Int))
wr (Addr.add u5 1) (.int .i64 t26) (fun h4 =>
∃ (t29 : OA) (t29n t29c : Nat), cellH h4 (Addr.add a7 2) = some (.slice t29 t29n t29c) ∧
L2 y32 t4 u5 t11 t11n t11c t12 t13 t29 t29n t29c (t29n : Int) 0 (K2 K) h4) h3) (
J1 y32 t4 u5 t11 t11n t11c t12 t13 K h3)) h2) h) (
K (.exit 0) (X0 t4 u5) h)) : L1 y32 t4 u5 t11 t11n t11c t12 t13 K h := by unfold L1; exact Lp.of_txt (an 116) 14386 (by kernel_rfl) H
theorem L1_X0 {Q : VP} {t4 u5 : Addr} {h : Heap} (H :
∃ (t44f0 t44f1 : Int), rdCells h u5 0 [.int .i64 t44f0, .int .i64 t44f1] ∧
wrCells t4 0 [.int .i64 t44f0, .int .i64 t44f1] (fun h1 =>
∃ (t4_1f0 t4_1f1 : Int), rdCells h1 t4 0 [.int .i64 t4_1f0, .int .i64 t4_1f1] ∧
Q (.agg #[.int .i64 t4_1f0, .int .i64 t4_1f1]) h1) h) : (K1 Q) (.exit 0) (X0 t4 u5) h := of_eq_txt (by kernel_rfl) H
theorem J1_of {y32 : ByteArray} {t4 u5 : Addr} {t11 : OA} {t11n t11c : Nat} {t12 t13 : Int} {K : EP} {h : Heap} (H :
let t43 : Int := IntKind.i64.wrap (t13 + 1)
L1 y32 t4 u5 t11 t11n t11c t12 t43 K h) : J1 y32 t4 u5 t11 t11n t11c t12 t13 K h := by unfold J1; exact Jn.of_txt (an 935) (by kernel_rfl) H
theorem L2_of {y32 : ByteArray} {t4 u5 : Addr} {t11 : OA} {t11n t11c : Nat} {t12 t13 : Int} {t29 : OA} {t29n t29c : Nat} {t30 t31 : Int} {K : EP} {h : Heap} (H :
let t32 : Bool := decide (t31 < t30)
br t32 (
hwp PP (Instr.indexAt y75 (.slice t29 t29n t29c) (.int .i64 t31)) (fun v h1 => ∃ (t33 : Addr), v = (.pointer (some t33)) ∧
∃ (t34f0 t34f1 : ByteArray), rdCells h1 t33 0 [.string t34f0, .string t34f1] ∧
let x9 : Addr := ⟨Array.size h1, 0, none⟩
let h2 : Heap := Array.push h1 (.cells #[(.string (⟨#[]⟩ : ByteArray)), (.string (⟨#[]⟩ : ByteArray))] y84 (0, 0))
wrCells x9 0 [.string t34f0, .string t34f1] (fun h3 =>
∃ (t36 : Int), cellH h3 u5 = some (.int .i64 t36) ∧
∃ (t38 : ByteArray), cellH h3 (Addr.add x9 1) = some (.string t38) ∧
let t39 : Int := (ByteArray.size t38 : Int)
let t40 : Int := IntKind.i64.wrap (t36 + t39)
wr u5 (.int .i64 t40) (fun h4 =>
let t42 : Int := IntKind.i64.wrap (t31 + 1)
L2 y32 t4 u5 t11 t11n t11c t12 t13 t29 t29n t29c t30 t42 K h4) h3) h2) h) (
K (.exit 2) (X2 y32 t4 u5 t11 t11n t11c t12 t13) h)) : L2 y32 t4 u5 t11 t11n t11c t12 t13 t29 t29n t29c t30 t31 K h := by unfold L2; exact Lp.of_txt (an 239212) 3758110770 (by kernel_rfl) H
theorem L2_X2 {K : EP} {y32 : ByteArray} {t4 u5 : Addr} {t11 : OA} {t11n t11c : Nat} {t12 t13 : Int} {h : Heap} (H :
J1 y32 t4 u5 t11 t11n t11c t12 t13 K h) : (K2 K) (.exit 2) (X2 y32 t4 u5 t11 t11n t11c t12 t13) h := of_eq_txt (by kernel_rfl) H
theorem door {m0 : OA} {y32 : ByteArray} {Q : VP} {h : Heap} (H :
let t4 : Addr := ⟨Array.size h, 0, none⟩
let h1 : Heap := Array.push h (.cells #[.int .i64 0, .int .i64 0] y85 (0, 0))
let u5 : Addr := ⟨Array.size h1, 0, none⟩
let h2 : Heap := Array.push h1 (.cells #[.int .i64 0, .int .i64 0] y85 (0, 0))
SpecH PP z289 [.pointer m0] h2 (fun v h3 => ∃ (t11 : OA) (t11n t11c : Nat), v = (.slice t11 t11n t11c) ∧
L1 y32 t4 u5 t11 t11n t11c (t11n : Int) 0 (K1 Q) h3)) : SpecH PP z303 [.pointer m0, .string y32] h Q :=
  spec_of_txt (ann := ann) Tryz.func32 rfl rfl (by kernel_rfl) H
end z302
namespace z128
def ann : Ann := (.seq 3 (rg 1 3) (.seq 3 (.seq 1027 (rg 5 1027) (.cond (.seq 16 (rg 1 16) (.exit 16)) .leaf)) (.seq 0 (.seq 35 (rg 1 35) (.block (.loop 35 (.seq 35 (.seq 16419 (rg 4 16419) (.cond .leaf (.exit 0))) (.seq 35 (.block (.seq 33554467 (rg 9 33554467) (.cond (.seq 16 (rg 1 16) (.exit 16)) .leaf))) (rg 3 35)))))) (.seq 16 (rg 1 16) (.exit 16)))))
noncomputable abbrev cd (n : Nat) : Code := sub (bodyOf Tryz.f33) (pth n)
abbrev an (n : Nat) : Ann := subA ann (pth n)
@[irreducible] def Xret (t4 : Bool) : Fr := (mkFr 0 26 [(4, .bool t4)])
@[irreducible] def X0  : Fr := (mkFr 0 26 [])
@[irreducible] def L1 (a0 : OA) (a0n a0c : Nat) (b1 : OA) (b1n b1c : Nat) (i5 : Int) (K : EP) (h : Heap) : Prop := Lp PP true (cd 116) (mkFr 0 26 [(0, (.slice a0 a0n a0c)), (1, (.slice b1 b1n b1c)), (5, .int .i64 i5)]) K h
@[irreducible] def K2 (Q : VP) : EP := seqK (fun fr h => ev PP true none (cd 15) (an 15) (fr.mask 0) (bodyK PP Tryz.f33 Q) h) (bodyK PP Tryz.f33 Q)
@[irreducible] def K1 (Q : VP) : EP := blockK 0 (K2 Q)
theorem L1_of {a0 : OA} {a0n a0c : Nat} {b1 : OA} {b1n b1c : Nat} {i5 : Int} {K : EP} {h : Heap} (H :
let t14 : Bool := decide (i5 < (a0n : Int))
br t14 (
hwp PP (Instr.indexAt y49 (.slice a0 a0n a0c) (.int .i64 i5)) (fun v h1 => ∃ (t19 : Addr), v = (.pointer (some t19)) ∧
∃ (t20 : ByteArray), cellH h1 t19 = some (.string t20) ∧
hwp PP (Instr.indexAt y49 (.slice b1 b1n b1c) (.int .i64 i5)) (fun v_1 h2 => ∃ (t23 : Addr), v_1 = (.pointer (some t23)) ∧
∃ (t24 : ByteArray), cellH h2 t23 = some (.string t24) ∧
let t25 : Bool := (!decide (t20 = t24))
br t25 (
K .ret (Xret false) h2) (
let t16 : Int := IntKind.i64.wrap (i5 + 1)
L1 a0 a0n a0c b1 b1n b1c t16 K h2)) h1) h) (
K (.exit 0) (X0) h)) : L1 a0 a0n a0c b1 b1n b1c i5 K h := by unfold L1; exact Lp.of_txt (an 116) 35 (by kernel_rfl) H
theorem L1_X0 {Q : VP}  {h : Heap} (H :
Q (.bool true) h) : (K1 Q) (.exit 0) (X0 ) h := of_eq_txt (by kernel_rfl) H
theorem door {a0 : OA} {a0n a0c : Nat} {b1 : OA} {b1n b1c : Nat} {Q : VP} {h : Heap} (H :
let t10 : Bool := ((a0n : Int) != (b1n : Int))
br t10 (
Q (.bool false) h) (
L1 a0 a0n a0c b1 b1n b1c 0 (K1 Q) h)) : SpecH PP z129 [(.slice a0 a0n a0c), (.slice b1 b1n b1c)] h Q :=
  spec_of_txt (ann := ann) Tryz.func33 rfl rfl (by kernel_rfl) H
end z128
namespace z321
def ann : Ann := (.seq 1 (rg 1 1) (.seq 4 (rg 14 4) (.exit 4)))
theorem door {s0 : ByteArray} {Q : VP} {h : Heap} (H :
let t4 : Bool := (!decide (s0 = (⟨#[]⟩ : ByteArray)))
br t4 (
let t7 : Int := (ByteArray.size s0 : Int)
let t8 : Bool := decide (t7 ≤ 16)
br t8 (
hwp PP (Go.convert y19 T_sl_uint8 (.string s0)) (fun v h1 => ∃ (t12 : OA) (t12n t12c : Nat), v = (.slice t12 t12n t12c) ∧
SpecH PP z181 [(.slice t12 t12n t12c), (.func (.func z324) #[] #[])] h1 (fun v_1 h2 => ∃ (t13 : Bool), v_1 = (.bool t13) ∧
let t14 : Bool := (!t13)
Q (.bool t14) h2)) h) (
Q (.bool false) h)) (
Q (.bool false) h)) : SpecH PP z322 [.string s0] h Q :=
  spec_of_txt (ann := ann) Tryz.func34 rfl rfl (by kernel_rfl) H
end z321
namespace z327
def ann : Ann := (.seq 1 (rg 1 1) (.seq 4 (rg 7 4) (.exit 4)))
theorem door {at0 : Int} {Q : VP} {h : Heap} (H :
let h1 : Heap := Array.push h (.map #[] 0)
let h2 : Heap := Array.push h1 (.map #[] 0)
let h3 : Heap := Array.push h2 (.map #[] 0)
let t8 : Addr := ⟨Array.size h3, 0, none⟩
let h4 : Heap := Array.push h3 (.cells #[.int .i64 at0, (.map (some (Array.size h))), (.map (some (Array.size h1))), (.map (some (Array.size h2)))] y90 (0, 0))
Q (.pointer (some t8)) h4) : SpecH PP z328 [.int .i64 at0] h Q :=
  spec_of_txt (ann := ann) Tryz.func35 rfl rfl (by kernel_rfl) H
end z327
namespace z110
def ann : Ann := (.seq 9 (rg 2 9) (.seq 9 (.block (.seq 1033 (rg 3 1033) (.cond (.seq 16 (rg 1 16) (.exit 16)) (.seq 8201 (rg 8 8201) (.cond (.seq 16 (rg 1 16) (.exit 16)) .leaf))))) (.seq 9 (rg 6 9) (.seq 0 (.seq 939524105 (rg 4 939524105) (.block (.loop 939524105 (.seq 2013265929 (rg 1 2013265929) (.seq 939524105 (.cond .leaf (.exit 0)) (.seq 939524105 (.block (.seq 939524169 (rg 4 939524169) (.seq 939524297 (rg 7 939524297) (.seq 939524297 (.seq 550695338185 (rg 2 550695338185) (.cond (rg 4 939524297) .leaf)) (.join (.seq 939524553 (rg 8 939524553) (.seq 939525065 (rg 3 939525065) (.seq 18446744074649076681 (rg 13 18446744074649076681) (.join (.cond (rg 6 939524105) (.tree (.run [0, 1, 2, 4, 6, 7] (.alt 3 (.alt 5 (.run [8, 9, 10] .done) (.alt 8 (.alt 5 (.run [9, 10] .done) (.alt 9 (.run [5, 10] .done) .nil)) .nil)) (.alt 5 (.alt 3 (.run [8, 9, 10] .done) (.alt 8 (.alt 3 (.run [9, 10] .done) (.alt 9 (.run [3, 10] .done) .nil)) .nil)) (.alt 8 (.alt 3 (.alt 5 (.run [9, 10] .done) (.alt 9 (.run [5, 10] .done) .nil)) (.alt 5 (.alt 3 (.run [9, 10] .done) (.alt 9 (.run [3, 10] .done) .nil)) (.alt 9 (.run [3, 5, 10] .done) .nil))) .nil)))) 939524105))))))))))) (.join (rg 2 939524105)))))))) (.seq 16 (rg 1 16) (.exit 16))))))
noncomputable abbrev cd (n : Nat) : Code := sub (bodyOf Tryz.f36) (pth n)
abbrev an (n : Nat) : Ann := subA ann (pth n)
@[irreducible] def X1  : Fr := (mkFr 0 81 [])
@[irreducible] def L1 (s0 : OA) (c3 : Addr) (t27 : OA) (t27n t27c : Nat) (t28 t29 : Int) (K : EP) (h : Heap) : Prop := Lp PP true (cd 244) (mkFr 0 81 [(0, .pointer s0), (3, (.pointer (some c3))), (27, (.slice t27 t27n t27c)), (28, .int .i64 t28), (29, .int .i64 t29)]) K h
@[irreducible] def B1 (K : EP) : EP := seqK (fun fr h => Lp PP true (cd 244) (fr.mask 939524105) K h) K
@[irreducible] def K4 (K : EP) : EP := seqK (fun fr h => Jn PP true (cd 1959) (fr.mask 939524105) (B1 K) h) (B1 K)
@[irreducible] def K2 (K : EP) : EP := blockK 2 (K4 K)
@[irreducible] def J1 (s0 : OA) (c3 w6 v7 : Addr) (t27 : OA) (t27n t27c : Nat) (t28 t29 : Int) (K : EP) (h : Heap) : Prop := Jn PP true (cd 31335) (mkFr 0 81 [(0, .pointer s0), (3, (.pointer (some c3))), (6, (.pointer (some w6))), (7, (.pointer (some v7))), (27, (.slice t27 t27n t27c)), (28, .int .i64 t28), (29, .int .i64 t29)]) (K2 K) h
@[irreducible] def K3 (Q : VP) : EP := seqK (fun fr h => ev PP true none (cd 31) (an 31) (fr.mask 0) (bodyK PP Tryz.f36 Q) h) (bodyK PP Tryz.f36 Q)
@[irreducible] def K1 (Q : VP) : EP := blockK 1 (K3 Q)
@[irreducible] def J2 (s0 : OA) (c3 w6 v7 : Addr) (xl8 : OA) (xl8n xl8c : Nat) (xn9 : Int) (t27 : OA) (t27n t27c : Nat) (t28 t29 : Int) (t64 : Bool) (K : EP) (h : Heap) : Prop := Jn PP true (cd 250687) (mkFr 0 81 [(0, .pointer s0), (3, (.pointer (some c3))), (6, (.pointer (some w6))), (7, (.pointer (some v7))), (8, (.slice xl8 xl8n xl8c)), (9, .int .i64 xn9), (27, (.slice t27 t27n t27c)), (28, .int .i64 t28), (29, .int .i64 t29), (64, .bool t64)]) (K2 K) h
@[irreducible] def J3 (s0 : OA) (c3 : Addr) (t27 : OA) (t27n t27c : Nat) (t28 t29 : Int) (K : EP) (h : Heap) : Prop := Jn PP true (cd 1959) (mkFr 0 81 [(0, .pointer s0), (3, (.pointer (some c3))), (27, (.slice t27 t27n t27c)), (28, .int .i64 t28), (29, .int .i64 t29)]) (B1 K) h
theorem L1_of {s0 : OA} {c3 : Addr} {t27 : OA} {t27n t27c : Nat} {t28 t29 : Int} {K : EP} {h : Heap} (H :
let t30 : Bool := decide (t29 < t28)
br t30 (
hwp PP (Instr.indexAt y10 (.slice t27 t27n t27c) (.int .i64 t29)) (fun v h1 => ∃ (t31 : Addr), v = (.pointer (some t31)) ∧
∃ (t32f0 t32f1 t32f2 : ByteArray) (t32f3 : Bool) (t32f4 : ByteArray), rdCells h1 t31 0 [.string t32f0, .string t32f1, .string t32f2, .bool t32f3, .string t32f4] ∧
let w6 : Addr := ⟨Array.size h1, 0, none⟩
let h2 : Heap := Array.push h1 (.cells #[(.string (⟨#[]⟩ : ByteArray)), (.string (⟨#[]⟩ : ByteArray)), (.string (⟨#[]⟩ : ByteArray)), .bool false, (.string (⟨#[]⟩ : ByteArray))] y17 (0, 0))
wrCells w6 0 [.string t32f0, .string t32f1, .string t32f2, .bool t32f3, .string t32f4] (fun h3 =>
∃ (t34 : Int), cellH h3 c3 = some (.int .i64 t34) ∧
∃ (t36 : Bool), cellH h3 (Addr.add w6 3) = some (.bool t36) ∧
let v7 : Addr := ⟨Array.size h3, 0, none⟩
let h4 : Heap := Array.push h3 (.cells #[.int .i64 0, .bool false, (.string (⟨#[]⟩ : ByteArray))] y27 (0, 0))
wrCells v7 0 [.int .i64 t34, .bool t36, (.string (⟨#[]⟩ : ByteArray))] (fun h5 =>
∃ (t39 : Bool), cellH h5 (Addr.add w6 3) = some (.bool t39) ∧
br t39 (
∃ (t41 : ByteArray), cellH h5 (Addr.add w6 4) = some (.string t41) ∧
wr (Addr.add v7 2) (.string t41) (fun h6 =>
J1 s0 c3 w6 v7 t27 t27n t27c t28 t29 K h6) h5) (
J1 s0 c3 w6 v7 t27 t27n t27c t28 t29 K h5)) h4) h2) h) (
K (.exit 1) (X1) h)) : L1 s0 c3 t27 t27n t27c t28 t29 K h := by unfold L1; exact Lp.of_txt (an 244) 939524105 (by kernel_rfl) H
theorem L1_X1 {Q : VP}  {h : Heap} (H :
Q (.int .i64 0) h) : (K1 Q) (.exit 1) (X1 ) h := of_eq_txt (by kernel_rfl) H
theorem J1_of {s0 : OA} {c3 w6 v7 : Addr} {t27 : OA} {t27n t27c : Nat} {t28 t29 : Int} {K : EP} {h : Heap} (H :
nilc s0 (fun t44 =>
∃ (t46 : ON), cellH h t44 = some (.map t46) ∧
∃ (t48f0 t48f1 t48f2 : ByteArray), rdCells h w6 0 [.string t48f0, .string t48f1, .string t48f2] ∧
hwp PP (Instr.lookup y13 (.map t46) (.agg #[.string t48f0, .string t48f1, .string t48f2]) false) (fun v h1 => ∃ (t49 : OA) (t49n t49c : Nat), v = (.slice t49 t49n t49c) ∧
let t53 : Bool := decide ((t49n : Int) > 0)
br t53 (
let t57 : Int := IntKind.i64.wrap ((t49n : Int) - 1)
hwp PP (Instr.indexAt y15 (.slice t49 t49n t49c) (.int .i64 t57)) (fun v_1 h2 => ∃ (t58 : Addr), v_1 = (.pointer (some t58)) ∧
∃ (t60 : Int), cellH h2 t58 = some (.int .i64 t60) ∧
∃ (t62 : Int), cellH h2 c3 = some (.int .i64 t62) ∧
let t63 : Bool := (t60 == t62)
J2 s0 c3 w6 v7 t49 t49n t49c (t49n : Int) t27 t27n t27c t28 t29 t63 K h2) h1) (
J2 s0 c3 w6 v7 t49 t49n t49c (t49n : Int) t27 t27n t27c t28 t29 false K h1)) h)) : J1 s0 c3 w6 v7 t27 t27n t27c t28 t29 K h := by unfold J1; exact Jn.of_txt (an 31335) (by kernel_rfl) H
theorem J2_of {s0 : OA} {c3 w6 v7 : Addr} {xl8 : OA} {xl8n xl8c : Nat} {xn9 : Int} {t27 : OA} {t27n t27c : Nat} {t28 t29 : Int} {t64 : Bool} {K : EP} {h : Heap} (H :
br t64 (
let t67 : Int := IntKind.i64.wrap (xn9 - 1)
∃ (t68f0 : Int) (t68f1 : Bool) (t68f2 : ByteArray), rdCells h v7 0 [.int .i64 t68f0, .bool t68f1, .string t68f2] ∧
hwp PP (Instr.indexAt y15 (.slice xl8 xl8n xl8c) (.int .i64 t67)) (fun v h1 => ∃ (t69 : Addr), v = (.pointer (some t69)) ∧
wrCells t69 0 [.int .i64 t68f0, .bool t68f1, .string t68f2] (fun h2 =>
J3 s0 c3 t27 t27n t27c t28 t29 K h2) h1) h) (
nilc s0 (fun t71 =>
∃ (t77f0 : Int) (t77f1 : Bool) (t77f2 : ByteArray), rdCells h v7 0 [.int .i64 t77f0, .bool t77f1, .string t77f2] ∧
(
∃ (t73_7 : ON), cellH h t71 = some (.map t73_7) ∧
(
∃ (t75_7f0 t75_7f1 t75_7f2 : ByteArray), rdCells h w6 0 [.string t75_7f0, .string t75_7f1, .string t75_7f2] ∧
let h27 : Heap := Array.push h (.cells #[.int .i64 t77f0, .bool t77f1, .string t77f2] y27 (0, 0))
hwp PP (Builtin.append_ #[y15, y15] y15 #[(.slice xl8 xl8n xl8c), (.slice (some ⟨Array.size h, 0, none⟩) 1 1)]) (fun v_11 h28 => ∃ (t79_10 : OA) (t79_10n t79_10c : Nat), v_11 = (.slice t79_10 t79_10n t79_10c) ∧
hwp PP (Instr.mapUpdate y13 (.map t73_7) (.agg #[.string t75_7f0, .string t75_7f1, .string t75_7f2]) (.slice t79_10 t79_10n t79_10c)) (fun _ h29 =>
J3 s0 c3 t27 t27n t27c t28 t29 K h29) h28) h27) ∧
(
let h22 : Heap := Array.push h (.cells #[.int .i64 t77f0, .bool t77f1, .string t77f2] y27 (0, 0))
(
∃ (t75_6f0 t75_6f1 t75_6f2 : ByteArray), rdCells h22 w6 0 [.string t75_6f0, .string t75_6f1, .string t75_6f2] ∧
hwp PP (Builtin.append_ #[y15, y15] y15 #[(.slice xl8 xl8n xl8c), (.slice (some ⟨Array.size h, 0, none⟩) 1 1)]) (fun v_10 h25 => ∃ (t79_9 : OA) (t79_9n t79_9c : Nat), v_10 = (.slice t79_9 t79_9n t79_9c) ∧
hwp PP (Instr.mapUpdate y13 (.map t73_7) (.agg #[.string t75_6f0, .string t75_6f1, .string t75_6f2]) (.slice t79_9 t79_9n t79_9c)) (fun _ h26 =>
J3 s0 c3 t27 t27n t27c t28 t29 K h26) h25) h22) ∧
(
hwp PP (Builtin.append_ #[y15, y15] y15 #[(.slice xl8 xl8n xl8c), (.slice (some ⟨Array.size h, 0, none⟩) 1 1)]) (fun v_9 h23 => ∃ (t79_8 : OA) (t79_8n t79_8c : Nat), v_9 = (.slice t79_8 t79_8n t79_8c) ∧
∃ (t75_5f0 t75_5f1 t75_5f2 : ByteArray), rdCells h23 w6 0 [.string t75_5f0, .string t75_5f1, .string t75_5f2] ∧
hwp PP (Instr.mapUpdate y13 (.map t73_7) (.agg #[.string t75_5f0, .string t75_5f1, .string t75_5f2]) (.slice t79_8 t79_8n t79_8c)) (fun _ h24 =>
J3 s0 c3 t27 t27n t27c t28 t29 K h24) h23) h22) ∧
True) ∧
True) ∧
(
∃ (t75_4f0 t75_4f1 t75_4f2 : ByteArray), rdCells h w6 0 [.string t75_4f0, .string t75_4f1, .string t75_4f2] ∧
(
∃ (t73_6 : ON), cellH h t71 = some (.map t73_6) ∧
let h19 : Heap := Array.push h (.cells #[.int .i64 t77f0, .bool t77f1, .string t77f2] y27 (0, 0))
hwp PP (Builtin.append_ #[y15, y15] y15 #[(.slice xl8 xl8n xl8c), (.slice (some ⟨Array.size h, 0, none⟩) 1 1)]) (fun v_8 h20 => ∃ (t79_7 : OA) (t79_7n t79_7c : Nat), v_8 = (.slice t79_7 t79_7n t79_7c) ∧
hwp PP (Instr.mapUpdate y13 (.map t73_6) (.agg #[.string t75_4f0, .string t75_4f1, .string t75_4f2]) (.slice t79_7 t79_7n t79_7c)) (fun _ h21 =>
J3 s0 c3 t27 t27n t27c t28 t29 K h21) h20) h19) ∧
(
let h14 : Heap := Array.push h (.cells #[.int .i64 t77f0, .bool t77f1, .string t77f2] y27 (0, 0))
(
∃ (t73_5 : ON), cellH h14 t71 = some (.map t73_5) ∧
hwp PP (Builtin.append_ #[y15, y15] y15 #[(.slice xl8 xl8n xl8c), (.slice (some ⟨Array.size h, 0, none⟩) 1 1)]) (fun v_7 h17 => ∃ (t79_6 : OA) (t79_6n t79_6c : Nat), v_7 = (.slice t79_6 t79_6n t79_6c) ∧
hwp PP (Instr.mapUpdate y13 (.map t73_5) (.agg #[.string t75_4f0, .string t75_4f1, .string t75_4f2]) (.slice t79_6 t79_6n t79_6c)) (fun _ h18 =>
J3 s0 c3 t27 t27n t27c t28 t29 K h18) h17) h14) ∧
(
hwp PP (Builtin.append_ #[y15, y15] y15 #[(.slice xl8 xl8n xl8c), (.slice (some ⟨Array.size h, 0, none⟩) 1 1)]) (fun v_6 h15 => ∃ (t79_5 : OA) (t79_5n t79_5c : Nat), v_6 = (.slice t79_5 t79_5n t79_5c) ∧
∃ (t73_4 : ON), cellH h15 t71 = some (.map t73_4) ∧
hwp PP (Instr.mapUpdate y13 (.map t73_4) (.agg #[.string t75_4f0, .string t75_4f1, .string t75_4f2]) (.slice t79_5 t79_5n t79_5c)) (fun _ h16 =>
J3 s0 c3 t27 t27n t27c t28 t29 K h16) h15) h14) ∧
True) ∧
True) ∧
(
let h3 : Heap := Array.push h (.cells #[.int .i64 t77f0, .bool t77f1, .string t77f2] y27 (0, 0))
(
∃ (t73_3 : ON), cellH h3 t71 = some (.map t73_3) ∧
(
∃ (t75_3f0 t75_3f1 t75_3f2 : ByteArray), rdCells h3 w6 0 [.string t75_3f0, .string t75_3f1, .string t75_3f2] ∧
hwp PP (Builtin.append_ #[y15, y15] y15 #[(.slice xl8 xl8n xl8c), (.slice (some ⟨Array.size h, 0, none⟩) 1 1)]) (fun v_5 h12 => ∃ (t79_4 : OA) (t79_4n t79_4c : Nat), v_5 = (.slice t79_4 t79_4n t79_4c) ∧
hwp PP (Instr.mapUpdate y13 (.map t73_3) (.agg #[.string t75_3f0, .string t75_3f1, .string t75_3f2]) (.slice t79_4 t79_4n t79_4c)) (fun _ h13 =>
J3 s0 c3 t27 t27n t27c t28 t29 K h13) h12) h3) ∧
(
hwp PP (Builtin.append_ #[y15, y15] y15 #[(.slice xl8 xl8n xl8c), (.slice (some ⟨Array.size h, 0, none⟩) 1 1)]) (fun v_4 h10 => ∃ (t79_3 : OA) (t79_3n t79_3c : Nat), v_4 = (.slice t79_3 t79_3n t79_3c) ∧
∃ (t75_2f0 t75_2f1 t75_2f2 : ByteArray), rdCells h10 w6 0 [.string t75_2f0, .string t75_2f1, .string t75_2f2] ∧
hwp PP (Instr.mapUpdate y13 (.map t73_3) (.agg #[.string t75_2f0, .string t75_2f1, .string t75_2f2]) (.slice t79_3 t79_3n t79_3c)) (fun _ h11 =>
J3 s0 c3 t27 t27n t27c t28 t29 K h11) h10) h3) ∧
True) ∧
(
∃ (t75_1f0 t75_1f1 t75_1f2 : ByteArray), rdCells h3 w6 0 [.string t75_1f0, .string t75_1f1, .string t75_1f2] ∧
(
∃ (t73_2 : ON), cellH h3 t71 = some (.map t73_2) ∧
hwp PP (Builtin.append_ #[y15, y15] y15 #[(.slice xl8 xl8n xl8c), (.slice (some ⟨Array.size h, 0, none⟩) 1 1)]) (fun v_3 h8 => ∃ (t79_2 : OA) (t79_2n t79_2c : Nat), v_3 = (.slice t79_2 t79_2n t79_2c) ∧
hwp PP (Instr.mapUpdate y13 (.map t73_2) (.agg #[.string t75_1f0, .string t75_1f1, .string t75_1f2]) (.slice t79_2 t79_2n t79_2c)) (fun _ h9 =>
J3 s0 c3 t27 t27n t27c t28 t29 K h9) h8) h3) ∧
(
hwp PP (Builtin.append_ #[y15, y15] y15 #[(.slice xl8 xl8n xl8c), (.slice (some ⟨Array.size h, 0, none⟩) 1 1)]) (fun v_2 h6 => ∃ (t79_1 : OA) (t79_1n t79_1c : Nat), v_2 = (.slice t79_1 t79_1n t79_1c) ∧
∃ (t73_1 : ON), cellH h6 t71 = some (.map t73_1) ∧
hwp PP (Instr.mapUpdate y13 (.map t73_1) (.agg #[.string t75_1f0, .string t75_1f1, .string t75_1f2]) (.slice t79_1 t79_1n t79_1c)) (fun _ h7 =>
J3 s0 c3 t27 t27n t27c t28 t29 K h7) h6) h3) ∧
True) ∧
(
hwp PP (Builtin.append_ #[y15, y15] y15 #[(.slice xl8 xl8n xl8c), (.slice (some ⟨Array.size h, 0, none⟩) 1 1)]) (fun v_1 h4 => ∃ (t79 : OA) (t79n t79c : Nat), v_1 = (.slice t79 t79n t79c) ∧
∃ (t73 : ON), cellH h4 t71 = some (.map t73) ∧
∃ (t75f0 t75f1 t75f2 : ByteArray), rdCells h4 w6 0 [.string t75f0, .string t75f1, .string t75f2] ∧
hwp PP (Instr.mapUpdate y13 (.map t73) (.agg #[.string t75f0, .string t75f1, .string t75f2]) (.slice t79 t79n t79c)) (fun _ h5 =>
J3 s0 c3 t27 t27n t27c t28 t29 K h5) h4) h3) ∧
True) ∧
True))) : J2 s0 c3 w6 v7 xl8 xl8n xl8c xn9 t27 t27n t27c t28 t29 t64 K h := by unfold J2; exact Jn.of_txt (an 250687) (by kernel_rfl) H
theorem J3_of {s0 : OA} {c3 : Addr} {t27 : OA} {t27n t27c : Nat} {t28 t29 : Int} {K : EP} {h : Heap} (H :
let t80 : Int := IntKind.i64.wrap (t29 + 1)
L1 s0 c3 t27 t27n t27c t28 t80 K h) : J3 s0 c3 t27 t27n t27c t28 t29 K h := by unfold J3; exact Jn.of_txt (an 1959) (by kernel_rfl) H
theorem door {s0 : OA} {c1f0 : Int} {c1f1 : OA} {c1f1n c1f1c : Nat} {Q : VP} {h : Heap} (H :
let c3 : Addr := ⟨Array.size h, 0, none⟩
let h1 : Heap := Array.push h (.cells #[.int .i64 c1f0, (.slice c1f1 c1f1n c1f1c)] y20 (0, 0))
let t12 : Bool := (Option.isNone s0)
br t12 (
Q (.int .i64 3) h1) (
∃ (t15 : Int), cellH h1 c3 = some (.int .i64 t15) ∧
nilc s0 (fun t17 =>
∃ (t19 : Int), cellH h1 (Addr.add t17 1) = some (.int .i64 t19) ∧
let t20 : Bool := decide (t15 ≤ t19)
br t20 (
Q (.int .i64 120) h1) (
∃ (t23 : Int), cellH h1 c3 = some (.int .i64 t23) ∧
nilc s0 (fun t24 =>
wr (Addr.add t24 1) (.int .i64 t23) (fun h2 =>
∃ (t27 : OA) (t27n t27c : Nat), cellH h2 (Addr.add c3 1) = some (.slice t27 t27n t27c) ∧
L1 s0 c3 t27 t27n t27c (t27n : Int) 0 (K1 Q) h2) h1))))) : SpecH PP z111 [.pointer s0, (.agg #[.int .i64 c1f0, (.slice c1f1 c1f1n c1f1c)])] h Q :=
  spec_of_txt (ann := ann) Tryz.func36 rfl rfl (by kernel_rfl) H
end z110
namespace z308
def ann : Ann := (.seq 1 (rg 6 1) (.seq 17 (rg 4 17) (.seq 17 (.seq 262161 (rg 5 262161) (.block (.loop 262161 (.seq 1310737 (rg 2 1310737) (.seq 262161 (.cond .leaf (.exit 17)) (.block (.seq 262225 (rg 3 262225) (.tree (.run [1, 2, 3, 4] (.alt 0 (.run [5, 6, 7] .done) (.alt 5 (.run [0, 6, 7] .done) .nil))) 262161)))))))) (.seq 17 (rg 7 17) (rg 10 0)))))
noncomputable abbrev cd (n : Nat) : Code := sub (bodyOf Tryz.f37) (pth n)
abbrev an (n : Nat) : Ann := subA ann (pth n)
@[irreducible] def X0 (m0 : OA) (y70 : Addr) : Fr := (mkFr 0 46 [(0, .pointer m0), (4, (.pointer (some y70)))])
@[irreducible] def L1 (m0 : OA) (y70 : Addr) (t18 : Value) (K : EP) (h : Heap) : Prop := Lp PP true (cd 116) (mkFr 0 46 [(0, .pointer m0), (4, (.pointer (some y70))), (18, t18)]) K h
@[irreducible] def K2 (Q : VP) : EP := seqK (fun fr h => ev PP true none (cd 15) (an 15) (fr.mask 17) (bodyK PP Tryz.f37 Q) h) (bodyK PP Tryz.f37 Q)
@[irreducible] def K1 (Q : VP) : EP := blockK 0 (K2 Q)
theorem L1_of {m0 : OA} {y70 : Addr} {t18 : Value} {K : EP} {h : Heap} (H :
hwp PP (Instr.next t18 false T_) (fun v h1 => ∃ (b : Bool) (r : List Value), v = .tuple ((.bool b :: r).toArray) ∧
br b (
hwp PP (Instr.entry t18) (fun v_1 h2 => ∃ (t21 t21_1 : Value), v_1 = (.tuple #[t21, t21_1]) ∧
∃ (t22 : OA), t21_1 = (.pointer t22) ∧
nilc t22 (fun t25 =>
∃ (t27 : OA), cellH h2 (Addr.add t25 1) = some (.pointer t27) ∧
(
∃ (t23_1 : Int), cellH h2 y70 = some (.int .i64 t23_1) ∧
SpecH PP z330 [.pointer t27] h2 (fun v_3 h5 => ∃ (t28_1 : Int), v_3 = (.int .i64 t28_1) ∧
let t29_1 : Int := (if t28_1 < t23_1 then t28_1 else t23_1)
wr y70 (.int .i64 t29_1) (fun h6 =>
L1 m0 y70 t18 K h6) h5)) ∧
(
SpecH PP z330 [.pointer t27] h2 (fun v_2 h3 => ∃ (t28 : Int), v_2 = (.int .i64 t28) ∧
∃ (t23 : Int), cellH h3 y70 = some (.int .i64 t23) ∧
let t29 : Int := (if t28 < t23 then t28 else t23)
wr y70 (.int .i64 t29) (fun h4 =>
L1 m0 y70 t18 K h4) h3)) ∧
True)) h1) (
K (.exit 0) (X0 m0 y70) h1)) h) : L1 m0 y70 t18 K h := by unfold L1; exact Lp.of_txt (an 116) 262161 (by kernel_rfl) H
theorem L1_X0 {Q : VP} {m0 : OA} {y70 : Addr} {h : Heap} (H :
nilc m0 (fun t31 =>
∃ (t33 : OA), cellH h t31 = some (.pointer t33) ∧
∃ (t34 : Int), cellH h y70 = some (.int .i64 t34) ∧
let t35 : Int := IntKind.i64.wrap (t34 + 1)
SpecH PP z109 [.pointer t33, .int .i64 t35] h (fun v h1 => ∃ (t36 : Int), v = (.int .i64 t36) ∧
nilc m0 (fun t39 =>
∃ (t41 : OA) (t41n t41c : Nat), cellH h1 (Addr.add t39 1) = some (.slice t41 t41n t41c) ∧
SpecH PP z187 [(.slice t41 t41n t41c), (.func (.func z311) #[] #[(.pointer (some y70))])] h1 (fun v_1 h2 => ∃ (t43 : OA) (t43n t43c : Nat), v_1 = (.slice t43 t43n t43c) ∧
nilc m0 (fun t44 =>
wr (Addr.add t44 1) (.slice t43 t43n t43c) (fun h3 =>
Q (.tuple #[]) h3) h2)))))) : (K1 Q) (.exit 0) (X0 m0 y70) h := of_eq_txt (by kernel_rfl) H
theorem door {m0 : OA} {txn1 : Int} {Q : VP} {h : Heap} (H :
nilc m0 (fun t8 =>
∃ (t10 : ON), cellH h (Addr.add t8 2) = some (.map t10) ∧
hwp PP (Builtin.delete_ #[y29, y38] T_ #[.map t10, .int .i64 txn1]) (fun v h1 => v = (.tuple #[]) ∧
SpecH PP z293 [.pointer m0] h1 (fun v_1 h2 => ∃ (t13 : Int), v_1 = (.int .i64 t13) ∧
let y70 : Addr := ⟨Array.size h2, 0, none⟩
let h3 : Heap := Array.push h2 (.cells #[.int .i64 0] y38 (0, 0))
wr y70 (.int .i64 t13) (fun h4 =>
nilc m0 (fun t15 =>
∃ (t17 : ON), cellH h4 (Addr.add t15 2) = some (.map t17) ∧
hwp PP (Instr.range y29 (.map t17)) (fun v_2 h5 => ∃ (t18 : Value), v_2 = t18 ∧
L1 m0 y70 t18 (K1 Q) h5) h4)) h3)) h)) : SpecH PP z309 [.pointer m0, .int .i64 txn1] h Q :=
  spec_of_txt (ann := ann) Tryz.func37 rfl rfl (by kernel_rfl) H
end z308
namespace z345
def ann : Ann := (.seq 1 (rg 1 1) (.seq 1 (.seq 17 (rg 2 17) (.cond (.seq 4 (rg 1 4) (.exit 4)) .leaf)) (.seq 4 (rg 7 4) (.exit 4))))
theorem door {s0 : OA} {Q : VP} {h : Heap} (H :
let t4 : Bool := (Option.isNone s0)
br t4 (
Q (.slice none 0 0) h) (
nilc s0 (fun t6 =>
∃ (t8 : ON), cellH h (Addr.add t6 3) = some (.map t8) ∧
SpecH PP z151 [.map t8] h (fun v h1 => ∃ (t9 : Value), v = t9 ∧
SpecH PP z201 [t9, (.func (.func z348) #[] #[])] h1 (fun v_1 h2 => ∃ (t10 : OA) (t10n t10c : Nat), v_1 = (.slice t10 t10n t10c) ∧
Q (.slice t10 t10n t10c) h2))))) : SpecH PP z346 [.pointer s0] h Q :=
  spec_of_txt (ann := ann) Tryz.func38 rfl rfl (by kernel_rfl) H
end z345
namespace z329
def ann : Ann := (.seq 1 (rg 1 1) (.seq 1 (.seq 17 (rg 2 17) (.cond (.seq 4 (rg 1 4) (.exit 4)) .leaf)) (.seq 4 (rg 5 4) (.exit 4))))
theorem door {s0 : OA} {Q : VP} {h : Heap} (H :
let t4 : Bool := (Option.isNone s0)
br t4 (
Q (.int .i64 0) h) (
nilc s0 (fun t6 =>
∃ (t8 : Int), cellH h t6 = some (.int .i64 t8) ∧
Q (.int .i64 t8) h))) : SpecH PP z330 [.pointer s0] h Q :=
  spec_of_txt (ann := ann) Tryz.func39 rfl rfl (by kernel_rfl) H
end z329
namespace z331
def ann : Ann := (.seq 12 (rg 3 12) (.seq 16 (rg 18 16) (.exit 16)))
theorem door {s0 : OA} {c1f0 : Int} {c1f1 : OA} {c1f1n c1f1c : Nat} {Q : VP} {h : Heap} (H :
let s2 : Addr := ⟨Array.size h, 0, none⟩
let h1 : Heap := Array.push h (.cells #[.pointer s0] y78 (0, 0))
let c3 : Addr := ⟨Array.size h1, 0, none⟩
let h2 : Heap := Array.push h1 (.cells #[.int .i64 c1f0, (.slice c1f1 c1f1n c1f1c)] y20 (0, 0))
∃ (t5 : OA), cellH h2 s2 = some (.pointer t5) ∧
let t6 : Bool := (!Option.isNone t5)
br t6 (
∃ (t9 : Int), cellH h2 c3 = some (.int .i64 t9) ∧
∃ (t10 : OA), cellH h2 s2 = some (.pointer t10) ∧
nilc t10 (fun t11 =>
∃ (t13 : Int), cellH h2 t11 = some (.int .i64 t13) ∧
let t14 : Bool := decide (t9 > t13)
br t14 (
∃ (t18 : OA) (t18n t18c : Nat), cellH h2 (Addr.add c3 1) = some (.slice t18 t18n t18c) ∧
SpecH PP z179 [(.slice t18 t18n t18c), (.func (.func z334) #[] #[(.pointer (some s2))])] h2 (fun v h3 => ∃ (t20 : Bool), v = (.bool t20) ∧
Q (.bool t20) h3)) (
Q (.bool false) h2))) (
Q (.bool false) h2)) : SpecH PP z332 [.pointer s0, (.agg #[.int .i64 c1f0, (.slice c1f1 c1f1n c1f1c)])] h Q :=
  spec_of_txt (ann := ann) Tryz.func40 rfl rfl (by kernel_rfl) H
end z331
namespace z312
def ann : Ann := (.seq 7 (rg 1 7) (.seq 135 (rg 2 135) (.seq 133 (.seq 3670151 (rg 4 3670151) (.block (.loop 3670151 (.seq 7864455 (rg 1 7864455) (.seq 3670151 (.cond .leaf (.exit 133)) (.seq 3670151 (.block (.seq 3670663 (rg 4 3670663) (.seq 272106119 (rg 4 272106119) (.cond (rg 7 3670151) .leaf)))) (.join (rg 2 3670151)))))))) (.seq 128 (.seq 481036337281 (rg 3 481036337281) (.block (.loop 481036337281 (.seq 1030792151169 (rg 1 1030792151169) (.seq 481036337281 (.cond .leaf (.exit 128)) (.seq 481036337281 (.block (.seq 481036339329 (rg 4 481036339329) (.seq 481036347521 (.tree (.run [0, 1, 2, 4, 6] (.alt 3 (.alt 5 (.run [7, 8, 9, 10, 11, 12, 13, 14] .done) (.alt 7 (.run [5, 8, 9, 10, 11, 12, 13, 14] .done) .nil)) (.alt 5 (.alt 3 (.run [7, 8, 9, 10, 11, 12, 13, 14] .done) (.alt 7 (.run [3, 8, 9, 10, 11, 12, 13, 14] .done) .nil)) (.alt 7 (.run [3, 5, 8, 9, 10, 11, 12, 13, 14] .done) .nil)))) 481036347521) (.join (.block (.seq 36029278055311489 (rg 7 36029278055311489) (.join (.cond (rg 7 481036337281) (.seq 295147905660389165185 (rg 7 295147905660389165185) (.join (.cond (rg 7 481036337281) .leaf))))))))))) (.join (rg 2 481036337281)))))))) (.seq 16512 (rg 1 16512) (.seq 16384 (.seq 9671406556917033397665792 (rg 2 9671406556917033397665792) (.block (.loop 9671406556917033397665792 (.seq 48357032784585166988263424 (rg 2 48357032784585166988263424) (.seq 9671406556917033397665792 (.cond .leaf (.exit 16384)) (.block (.seq 9671406556917033397731328 (rg 3 9671406556917033397731328) (.seq 9671406556917033397731328 (.seq 628641426199607170847293440 (rg 2 628641426199607170847293440) (.cond (.seq 64 (rg 1 64) (.exit 64)) .leaf)) (.seq 2485551485127677583195914240 (rg 2 2485551485127677583195914240) (.cond (rg 3 9671406556917033397665792) .leaf)))))))))) (.seq 64 (rg 3 64) (.exit 64))))))))
noncomputable abbrev cd (n : Nat) : Code := sub (bodyOf Tryz.f41) (pth n)
abbrev an (n : Nat) : Ann := subA ann (pth n)
@[irreducible] def X0 (m0 xl2 : OA) (xl2n xl2c : Nat) (y37 : ON) : Fr := (mkFr 0 96 [(0, .pointer m0), (2, (.slice xl2 xl2n xl2c)), (7, .map y37)])
@[irreducible] def X2 (y37 : ON) : Fr := (mkFr 0 96 [(7, .map y37)])
@[irreducible] def Xret (t6 : Bool) : Fr := (mkFr 0 96 [(6, .bool t6)])
@[irreducible] def X5 (y76 : Int) : Fr := (mkFr 0 96 [(14, .int .i64 y76)])
@[irreducible] def L1 (m0 : OA) (y32 : ByteArray) (xl2 : OA) (xl2n xl2c : Nat) (y37 : ON) (t19 : OA) (t19n t19c : Nat) (t20 t21 : Int) (K : EP) (h : Heap) : Prop := Lp PP true (cd 116) (mkFr 0 96 [(0, .pointer m0), (1, .string y32), (2, (.slice xl2 xl2n xl2c)), (7, .map y37), (19, (.slice t19 t19n t19c)), (20, .int .i64 t20), (21, .int .i64 t21)]) K h
@[irreducible] def B1 (K : EP) : EP := seqK (fun fr h => Lp PP true (cd 116) (fr.mask 3670151) K h) K
@[irreducible] def J1 (m0 : OA) (y32 : ByteArray) (xl2 : OA) (xl2n xl2c : Nat) (y37 : ON) (t19 : OA) (t19n t19c : Nat) (t20 t21 : Int) (K : EP) (h : Heap) : Prop := Jn PP true (cd 935) (mkFr 0 96 [(0, .pointer m0), (1, .string y32), (2, (.slice xl2 xl2n xl2c)), (7, .map y37), (19, (.slice t19 t19n t19c)), (20, .int .i64 t20), (21, .int .i64 t21)]) (B1 K) h
@[irreducible] def K3 (Q : VP) : EP := seqK (fun fr h => ev PP true none (cd 15) (an 15) (fr.mask 133) (bodyK PP Tryz.f41 Q) h) (bodyK PP Tryz.f41 Q)
@[irreducible] def K1 (Q : VP) : EP := blockK 0 (K3 Q)
@[irreducible] def K4 (Q : VP) : EP := seqK (fun fr h => ev PP true none (cd 31) (an 31) (fr.mask 128) (bodyK PP Tryz.f41 Q) h) (bodyK PP Tryz.f41 Q)
@[irreducible] def K2 (Q : VP) : EP := blockK 2 (K4 Q)
@[irreducible] def L2 (m0 : OA) (y37 : ON) (t36 : OA) (t36n t36c : Nat) (t37 t38 : Int) (K : EP) (h : Heap) : Prop := Lp PP true (cd 244) (mkFr 0 96 [(0, .pointer m0), (7, .map y37), (36, (.slice t36 t36n t36c)), (37, .int .i64 t37), (38, .int .i64 t38)]) K h
@[irreducible] def B2 (K : EP) : EP := seqK (fun fr h => Lp PP true (cd 244) (fr.mask 481036337281) K h) K
@[irreducible] def K8 (K : EP) : EP := seqK (fun fr h => Jn PP true (cd 1959) (fr.mask 481036337281) (B2 K) h) (B2 K)
@[irreducible] def K6 (K : EP) : EP := blockK 3 (K8 K)
@[irreducible] def J2 (m0 : OA) (y37 : ON) (w11 : Addr) (there13 : Bool) (t36 : OA) (t36n t36c : Nat) (t37 t38 : Int) (K : EP) (h : Heap) : Prop := Jn PP true (cd 15667) (mkFr 0 96 [(0, .pointer m0), (7, .map y37), (11, (.pointer (some w11))), (13, .bool there13), (36, (.slice t36 t36n t36c)), (37, .int .i64 t37), (38, .int .i64 t38)]) (K6 K) h
@[irreducible] def K7 (Q : VP) : EP := seqK (fun fr h => ev PP true none (cd 127) (an 127) (fr.mask 16384) (bodyK PP Tryz.f41 Q) h) (bodyK PP Tryz.f41 Q)
@[irreducible] def K5 (Q : VP) : EP := blockK 5 (K7 Q)
@[irreducible] def L3 (y76 : Int) (t83 : Value) (K : EP) (h : Heap) : Prop := Lp PP true (cd 1012) (mkFr 0 96 [(14, .int .i64 y76), (83, t83)]) K h
@[irreducible] def K9 (K : EP) : EP := blockK 4 (K6 K)
@[irreducible] def J3 (m0 : OA) (y37 : ON) (w11 : Addr) (there13 : Bool) (t36 : OA) (t36n t36c : Nat) (t37 t38 : Int) (t55 : Bool) (K : EP) (h : Heap) : Prop := Jn PP true (cd 62669) (mkFr 0 96 [(0, .pointer m0), (7, .map y37), (11, (.pointer (some w11))), (13, .bool there13), (36, (.slice t36 t36n t36c)), (37, .int .i64 t37), (38, .int .i64 t38), (55, .bool t55)]) (K9 K) h
@[irreducible] def J4 (m0 : OA) (y37 : ON) (t36 : OA) (t36n t36c : Nat) (t37 t38 : Int) (K : EP) (h : Heap) : Prop := Jn PP true (cd 1959) (mkFr 0 96 [(0, .pointer m0), (7, .map y37), (36, (.slice t36 t36n t36c)), (37, .int .i64 t37), (38, .int .i64 t38)]) (B2 K) h
@[irreducible] def J5 (m0 : OA) (y37 : ON) (w11 : Addr) (t36 : OA) (t36n t36c : Nat) (t37 t38 : Int) (t68 : Bool) (K : EP) (h : Heap) : Prop := Jn PP true (cd 250679) (mkFr 0 96 [(0, .pointer m0), (7, .map y37), (11, (.pointer (some w11))), (36, (.slice t36 t36n t36c)), (37, .int .i64 t37), (38, .int .i64 t38), (68, .bool t68)]) (K9 K) h
theorem L1_of {m0 : OA} {y32 : ByteArray} {xl2 : OA} {xl2n xl2c : Nat} {y37 : ON} {t19 : OA} {t19n t19c : Nat} {t20 t21 : Int} {K : EP} {h : Heap} (H :
let t22 : Bool := decide (t21 < t20)
br t22 (
hwp PP (Instr.indexAt y39 (.slice t19 t19n t19c) (.int .i64 t21)) (fun v h1 => ∃ (t23 : Addr), v = (.pointer (some t23)) ∧
∃ (t24f0 t24f1 : ByteArray) (t24f2 : OA) (t24f2n t24f2c : Nat), rdCells h1 t23 0 [.string t24f0, .string t24f1, (.slice t24f2 t24f2n t24f2c)] ∧
let a9 : Addr := ⟨Array.size h1, 0, none⟩
let h2 : Heap := Array.push h1 (.cells #[(.string (⟨#[]⟩ : ByteArray)), (.string (⟨#[]⟩ : ByteArray)), (.slice none 0 0)] y33 (0, 0))
wrCells a9 0 [.string t24f0, .string t24f1, (.slice t24f2 t24f2n t24f2c)] (fun h3 =>
∃ (t26 : ByteArray), cellH h3 a9 = some (.string t26) ∧
let t28 : Bool := decide (t26 = y32)
br t28 (
∃ (t31 : ByteArray), cellH h3 (Addr.add a9 1) = some (.string t31) ∧
∃ (t33 : OA) (t33n t33c : Nat), cellH h3 (Addr.add a9 2) = some (.slice t33 t33n t33c) ∧
hwp PP (Instr.mapUpdate y61 (.map y37) (.string t31) (.int .i64 (t33n : Int))) (fun _ h4 =>
J1 m0 y32 xl2 xl2n xl2c y37 t19 t19n t19c t20 t21 K h4) h3) (
J1 m0 y32 xl2 xl2n xl2c y37 t19 t19n t19c t20 t21 K h3)) h2) h) (
K (.exit 0) (X0 m0 xl2 xl2n xl2c y37) h)) : L1 m0 y32 xl2 xl2n xl2c y37 t19 t19n t19c t20 t21 K h := by unfold L1; exact Lp.of_txt (an 116) 3670151 (by kernel_rfl) H
theorem L1_X0 {Q : VP} {m0 xl2 : OA} {xl2n xl2c : Nat} {y37 : ON} {h : Heap} (H :
L2 m0 y37 xl2 xl2n xl2c (xl2n : Int) 0 (K2 Q) h) : (K1 Q) (.exit 0) (X0 m0 xl2 xl2n xl2c y37) h := of_eq_txt (by kernel_rfl) H
theorem J1_of {m0 : OA} {y32 : ByteArray} {xl2 : OA} {xl2n xl2c : Nat} {y37 : ON} {t19 : OA} {t19n t19c : Nat} {t20 t21 : Int} {K : EP} {h : Heap} (H :
let t35 : Int := IntKind.i64.wrap (t21 + 1)
L1 m0 y32 xl2 xl2n xl2c y37 t19 t19n t19c t20 t35 K h) : J1 m0 y32 xl2 xl2n xl2c y37 t19 t19n t19c t20 t21 K h := by unfold J1; exact Jn.of_txt (an 935) (by kernel_rfl) H
theorem L2_of {m0 : OA} {y37 : ON} {t36 : OA} {t36n t36c : Nat} {t37 t38 : Int} {K : EP} {h : Heap} (H :
let t39 : Bool := decide (t38 < t37)
br t39 (
hwp PP (Instr.indexAt y10 (.slice t36 t36n t36c) (.int .i64 t38)) (fun v h1 => ∃ (t40 : Addr), v = (.pointer (some t40)) ∧
∃ (t41f0 t41f1 t41f2 : ByteArray) (t41f3 : Bool) (t41f4 : ByteArray), rdCells h1 t40 0 [.string t41f0, .string t41f1, .string t41f2, .bool t41f3, .string t41f4] ∧
let w11 : Addr := ⟨Array.size h1, 0, none⟩
let h2 : Heap := Array.push h1 (.cells #[(.string (⟨#[]⟩ : ByteArray)), (.string (⟨#[]⟩ : ByteArray)), (.string (⟨#[]⟩ : ByteArray)), .bool false, (.string (⟨#[]⟩ : ByteArray))] y17 (0, 0))
wrCells w11 0 [.string t41f0, .string t41f1, .string t41f2, .bool t41f3, .string t41f4] (fun h3 =>
nilc m0 (fun t44 =>
(
∃ (t46_3 : OA), cellH h3 t44 = some (.pointer t46_3) ∧
(
∃ (t48_3f0 t48_3f1 t48_3f2 : ByteArray), rdCells h3 w11 0 [.string t48_3f0, .string t48_3f1, .string t48_3f2] ∧
SpecH PP z293 [.pointer m0] h3 (fun v_9 h12 => ∃ (t50_4 : Int), v_9 = (.int .i64 t50_4) ∧
let t51_4 : Int := IntKind.i64.wrap (t50_4 + 1)
SpecH PP z101 [.pointer t46_3, (.agg #[.string t48_3f0, .string t48_3f1, .string t48_3f2]), .int .i64 t51_4] h12 (fun v_10 h13 => ∃ (t52_8 : ByteArray) (t52_9 : Bool), v_10 = (.tuple #[.string t52_8, .bool t52_9]) ∧
J2 m0 y37 w11 t52_9 t36 t36n t36c t37 t38 K h13))) ∧
(
SpecH PP z293 [.pointer m0] h3 (fun v_7 h10 => ∃ (t50_3 : Int), v_7 = (.int .i64 t50_3) ∧
∃ (t48_2f0 t48_2f1 t48_2f2 : ByteArray), rdCells h10 w11 0 [.string t48_2f0, .string t48_2f1, .string t48_2f2] ∧
let t51_3 : Int := IntKind.i64.wrap (t50_3 + 1)
SpecH PP z101 [.pointer t46_3, (.agg #[.string t48_2f0, .string t48_2f1, .string t48_2f2]), .int .i64 t51_3] h10 (fun v_8 h11 => ∃ (t52_6 : ByteArray) (t52_7 : Bool), v_8 = (.tuple #[.string t52_6, .bool t52_7]) ∧
J2 m0 y37 w11 t52_7 t36 t36n t36c t37 t38 K h11))) ∧
True) ∧
(
∃ (t48_1f0 t48_1f1 t48_1f2 : ByteArray), rdCells h3 w11 0 [.string t48_1f0, .string t48_1f1, .string t48_1f2] ∧
(
∃ (t46_2 : OA), cellH h3 t44 = some (.pointer t46_2) ∧
SpecH PP z293 [.pointer m0] h3 (fun v_5 h8 => ∃ (t50_2 : Int), v_5 = (.int .i64 t50_2) ∧
let t51_2 : Int := IntKind.i64.wrap (t50_2 + 1)
SpecH PP z101 [.pointer t46_2, (.agg #[.string t48_1f0, .string t48_1f1, .string t48_1f2]), .int .i64 t51_2] h8 (fun v_6 h9 => ∃ (t52_4 : ByteArray) (t52_5 : Bool), v_6 = (.tuple #[.string t52_4, .bool t52_5]) ∧
J2 m0 y37 w11 t52_5 t36 t36n t36c t37 t38 K h9))) ∧
(
SpecH PP z293 [.pointer m0] h3 (fun v_3 h6 => ∃ (t50_1 : Int), v_3 = (.int .i64 t50_1) ∧
∃ (t46_1 : OA), cellH h6 t44 = some (.pointer t46_1) ∧
let t51_1 : Int := IntKind.i64.wrap (t50_1 + 1)
SpecH PP z101 [.pointer t46_1, (.agg #[.string t48_1f0, .string t48_1f1, .string t48_1f2]), .int .i64 t51_1] h6 (fun v_4 h7 => ∃ (t52_2 : ByteArray) (t52_3 : Bool), v_4 = (.tuple #[.string t52_2, .bool t52_3]) ∧
J2 m0 y37 w11 t52_3 t36 t36n t36c t37 t38 K h7))) ∧
True) ∧
(
SpecH PP z293 [.pointer m0] h3 (fun v_1 h4 => ∃ (t50 : Int), v_1 = (.int .i64 t50) ∧
∃ (t46 : OA), cellH h4 t44 = some (.pointer t46) ∧
∃ (t48f0 t48f1 t48f2 : ByteArray), rdCells h4 w11 0 [.string t48f0, .string t48f1, .string t48f2] ∧
let t51 : Int := IntKind.i64.wrap (t50 + 1)
SpecH PP z101 [.pointer t46, (.agg #[.string t48f0, .string t48f1, .string t48f2]), .int .i64 t51] h4 (fun v_2 h5 => ∃ (t52 : ByteArray) (t52_1 : Bool), v_2 = (.tuple #[.string t52, .bool t52_1]) ∧
J2 m0 y37 w11 t52_1 t36 t36n t36c t37 t38 K h5))) ∧
True)) h2) h) (
K (.exit 2) (X2 y37) h)) : L2 m0 y37 t36 t36n t36c t37 t38 K h := by unfold L2; exact Lp.of_txt (an 244) 481036337281 (by kernel_rfl) H
theorem L2_X2 {Q : VP} {y37 : ON} {h : Heap} (H :
hwp PP (Instr.range y61 (.map y37)) (fun v h1 => ∃ (t83 : Value), v = t83 ∧
L3 0 t83 (K5 Q) h1) h) : (K2 Q) (.exit 2) (X2 y37) h := of_eq_txt (by kernel_rfl) H
theorem J2_of {m0 : OA} {y37 : ON} {w11 : Addr} {there13 : Bool} {t36 : OA} {t36n t36c : Nat} {t37 t38 : Int} {K : EP} {h : Heap} (H :
∃ (t57 : Bool), cellH h (Addr.add w11 3) = some (.bool t57) ∧
br t57 (
let t60 : Bool := (!there13)
J3 m0 y37 w11 there13 t36 t36n t36c t37 t38 t60 K h) (
J3 m0 y37 w11 there13 t36 t36n t36c t37 t38 false K h)) : J2 m0 y37 w11 there13 t36 t36n t36c t37 t38 K h := by unfold J2; exact Jn.of_txt (an 15667) (by kernel_rfl) H
theorem L3_of {y76 : Int} {t83 : Value} {K : EP} {h : Heap} (H :
hwp PP (Instr.next t83 false T_) (fun v h1 => ∃ (b : Bool) (r : List Value), v = .tuple ((.bool b :: r).toArray) ∧
br b (
hwp PP (Instr.entry t83) (fun v_1 h2 => ∃ (t86 t86_1 : Value), v_1 = (.tuple #[t86, t86_1]) ∧
∃ (t87 : Int), t86_1 = (.int .i64 t87) ∧
let t89 : Bool := decide (t87 > 64)
br t89 (
K .ret (Xret false) h2) (
let t91 : Bool := decide (t87 > 0)
br t91 (
let t93 : Int := IntKind.i64.wrap (y76 + 1)
L3 t93 t83 K h2) (
L3 y76 t83 K h2))) h1) (
K (.exit 5) (X5 y76) h1)) h) : L3 y76 t83 K h := by unfold L3; exact Lp.of_txt (an 1012) 9671406556917033397665792 (by kernel_rfl) H
theorem L3_Xret {Q : VP} {t6 : Bool} {h : Heap} (H :
Q (.bool t6) h) : (K5 Q) .ret (Xret t6) h := of_eq_txt (by kernel_rfl) H
theorem J3_of {m0 : OA} {y37 : ON} {w11 : Addr} {there13 : Bool} {t36 : OA} {t36n t36c : Nat} {t37 t38 : Int} {t55 : Bool} {K : EP} {h : Heap} (H :
br t55 (
∃ (t65 : ByteArray), cellH h (Addr.add w11 1) = some (.string t65) ∧
hwp PP (Instr.lookup y61 (.map y37) (.string t65) false) (fun v h1 => ∃ (t66 : Int), v = (.int .i64 t66) ∧
let t67 : Int := IntKind.i64.wrap (t66 + 1)
hwp PP (Instr.mapUpdate y61 (.map y37) (.string t65) (.int .i64 t67)) (fun _ h2 =>
J4 m0 y37 t36 t36n t36c t37 t38 K h2) h1) h) (
∃ (t70 : Bool), cellH h (Addr.add w11 3) = some (.bool t70) ∧
let t71 : Bool := (!t70)
br t71 (
J5 m0 y37 w11 t36 t36n t36c t37 t38 there13 K h) (
J5 m0 y37 w11 t36 t36n t36c t37 t38 false K h))) : J3 m0 y37 w11 there13 t36 t36n t36c t37 t38 t55 K h := by unfold J3; exact Jn.of_txt (an 62669) (by kernel_rfl) H
theorem L3_X5 {Q : VP} {y76 : Int} {h : Heap} (H :
let t95 : Bool := decide (y76 ≤ 16)
Q (.bool t95) h) : (K5 Q) (.exit 5) (X5 y76) h := of_eq_txt (by kernel_rfl) H
theorem J4_of {m0 : OA} {y37 : ON} {t36 : OA} {t36n t36c : Nat} {t37 t38 : Int} {K : EP} {h : Heap} (H :
let t81 : Int := IntKind.i64.wrap (t38 + 1)
L2 m0 y37 t36 t36n t36c t37 t81 K h) : J4 m0 y37 t36 t36n t36c t37 t38 K h := by unfold J4; exact Jn.of_txt (an 1959) (by kernel_rfl) H
theorem J5_of {m0 : OA} {y37 : ON} {w11 : Addr} {t36 : OA} {t36n t36c : Nat} {t37 t38 : Int} {t68 : Bool} {K : EP} {h : Heap} (H :
br t68 (
∃ (t78 : ByteArray), cellH h (Addr.add w11 1) = some (.string t78) ∧
hwp PP (Instr.lookup y61 (.map y37) (.string t78) false) (fun v h1 => ∃ (t79 : Int), v = (.int .i64 t79) ∧
let t80 : Int := IntKind.i64.wrap (t79 - 1)
hwp PP (Instr.mapUpdate y61 (.map y37) (.string t78) (.int .i64 t80)) (fun _ h2 =>
J4 m0 y37 t36 t36n t36c t37 t38 K h2) h1) h) (
J4 m0 y37 t36 t36n t36c t37 t38 K h)) : J5 m0 y37 w11 t36 t36n t36c t37 t38 t68 K h := by unfold J5; exact Jn.of_txt (an 250679) (by kernel_rfl) H
theorem door {m0 : OA} {y32 : ByteArray} {xl2 : OA} {xl2n xl2c : Nat} {Q : VP} {h : Heap} (H :
let h1 : Heap := Array.push h (.map #[] 0)
SpecH PP z289 [.pointer m0] h1 (fun v h2 => ∃ (t19 : OA) (t19n t19c : Nat), v = (.slice t19 t19n t19c) ∧
L1 m0 y32 xl2 xl2n xl2c (some (Array.size h)) t19 t19n t19c (t19n : Int) 0 (K1 Q) h2)) : SpecH PP z313 [.pointer m0, .string y32, (.slice xl2 xl2n xl2c)] h Q :=
  spec_of_txt (ann := ann) Tryz.func41 rfl rfl (by kernel_rfl) H
end z312
namespace z106
def ann : Ann := (.seq 1 (rg 1 1) (.seq 1 (.seq 17 (rg 2 17) (.cond (.seq 4 (rg 1 4) (.exit 4)) .leaf)) (.seq 4 (rg 5 4) (.exit 4))))
theorem door {s0 : OA} {Q : VP} {h : Heap} (H :
let t4 : Bool := (Option.isNone s0)
br t4 (
Q (.int .i64 0) h) (
nilc s0 (fun t6 =>
∃ (t8 : Int), cellH h (Addr.add t6 1) = some (.int .i64 t8) ∧
Q (.int .i64 t8) h))) : SpecH PP z107 [.pointer s0] h Q :=
  spec_of_txt (ann := ann) Tryz.func42 rfl rfl (by kernel_rfl) H
end z106
namespace z304
def ann : Ann := (.seq 527 (rg 3 527) (.seq 527 (.seq 33295 (rg 2 33295) (.cond (.seq 1792 (rg 4 1792) (.exit 1792)) .leaf)) (.seq 6668 (rg 11 6668) (.seq 2572 (.seq 134220300 (rg 2 134220300) (.cond (.seq 1792 (rg 4 1792) (.exit 1792)) .leaf)) (.seq 2572 (.seq 34359740940 (rg 7 34359740940) (.join (.cond (.seq 1792 (rg 4 1792) (.exit 1792)) .leaf))) (.seq 10760 (rg 8 10760) (.seq 10752 (.seq 35184372099592 (rg 3 35184372099592) (.cond (rg 5 10752) .leaf)) (.join (.seq 1792 (rg 5 1792) (.exit 1792))))))))))
noncomputable abbrev cd (n : Nat) : Code := sub (bodyOf Tryz.f43) (pth n)
abbrev an (n : Nat) : Ann := subA ann (pth n)
@[irreducible] def K1 (Q : VP) : EP := seqK (fun fr h => ev PP true none (cd 63) (an 63) (fr.mask 2572) (bodyK PP Tryz.f43 Q) h) (bodyK PP Tryz.f43 Q)
@[irreducible] def J1 (y54 : ByteArray) (y73 : OA) (entry3n entry3c : Nat) (t9 : Addr) (t11 : OA) (t35 : Bool) (Q : VP) (h : Heap) : Prop := Jn PP true (cd 125) (mkFr 0 52 [(2, .string y54), (3, (.slice y73 entry3n entry3c)), (9, (.pointer (some t9))), (11, .pointer t11), (35, .bool t35)]) (K1 Q) h
@[irreducible] def J2 (t9 : Addr) (t11 : OA) (k13 : Addr) (Q : VP) (h : Heap) : Prop := Jn PP true (cd 255) (mkFr 0 52 [(9, (.pointer (some t9))), (11, .pointer t11), (13, (.pointer (some k13)))]) (bodyK PP Tryz.f43 Q) h
theorem J1_of {y54 : ByteArray} {y73 : OA} {entry3n entry3c : Nat} {t9 : Addr} {t11 : OA} {t35 : Bool} {Q : VP} {h : Heap} (H :
br t35 (
wrCells t9 0 [(.string (⟨#[]⟩ : ByteArray)), (.string (⟨#[]⟩ : ByteArray)), (.string (⟨#[]⟩ : ByteArray))] (fun h1 =>
∃ (t9_1f0 t9_1f1 t9_1f2 : ByteArray), rdCells h1 t9 0 [.string t9_1f0, .string t9_1f1, .string t9_1f2] ∧
Q (.tuple #[.pointer none, (.agg #[.string t9_1f0, .string t9_1f1, .string t9_1f2]), .int .i64 143]) h1) h) (
nilc t11 (fun t38 =>
∃ (t40 : ByteArray), cellH h t38 = some (.string t40) ∧
let k13 : Addr := ⟨Array.size h, 0, none⟩
let h2 : Heap := Array.push h (.cells #[(.string (⟨#[]⟩ : ByteArray)), (.string (⟨#[]⟩ : ByteArray)), (.string (⟨#[]⟩ : ByteArray))] y16 (0, 0))
wrCells k13 0 [.string t40, .string y54, (.string (⟨#[]⟩ : ByteArray))] (fun h3 =>
let t45 : Bool := decide ((entry3n : Int) > 0)
br t45 (
hwp PP (Instr.indexAt y49 (.slice y73 entry3n entry3c) (.int .i64 0)) (fun v h4 => ∃ (t47 : Addr), v = (.pointer (some t47)) ∧
∃ (t48 : ByteArray), cellH h4 t47 = some (.string t48) ∧
wr (Addr.add k13 2) (.string t48) (fun h5 =>
J2 t9 t11 k13 Q h5) h4) h3) (
J2 t9 t11 k13 Q h3)) h2))) : J1 y54 y73 entry3n entry3c t9 t11 t35 Q h := by unfold J1; exact Jn.of_txt (an 125) (by kernel_rfl) H
theorem J2_of {t9 : Addr} {t11 : OA} {k13 : Addr} {Q : VP} {h : Heap} (H :
∃ (t51f0 t51f1 t51f2 : ByteArray), rdCells h k13 0 [.string t51f0, .string t51f1, .string t51f2] ∧
wrCells t9 0 [.string t51f0, .string t51f1, .string t51f2] (fun h1 =>
∃ (t9_1f0 t9_1f1 t9_1f2 : ByteArray), rdCells h1 t9 0 [.string t9_1f0, .string t9_1f1, .string t9_1f2] ∧
Q (.tuple #[.pointer t11, (.agg #[.string t9_1f0, .string t9_1f1, .string t9_1f2]), .int .i64 0]) h1) h) : J2 t9 t11 k13 Q h := by unfold J2; exact Jn.of_txt (an 255) (by kernel_rfl) H
theorem door {m0 : OA} {txn1 : Int} {y54 : ByteArray} {y73 : OA} {entry3n entry3c : Nat} {Q : VP} {h : Heap} (H :
let t9 : Addr := ⟨Array.size h, 0, none⟩
let h1 : Heap := Array.push h (.cells #[(.string (⟨#[]⟩ : ByteArray)), (.string (⟨#[]⟩ : ByteArray)), (.string (⟨#[]⟩ : ByteArray))] y16 (0, 0))
let t15 : Bool := (Option.isNone m0)
br t15 (
wrCells t9 0 [(.string (⟨#[]⟩ : ByteArray)), (.string (⟨#[]⟩ : ByteArray)), (.string (⟨#[]⟩ : ByteArray))] (fun h2 =>
∃ (t9_1f0 t9_1f1 t9_1f2 : ByteArray), rdCells h2 t9 0 [.string t9_1f0, .string t9_1f1, .string t9_1f2] ∧
Q (.tuple #[.pointer none, (.agg #[.string t9_1f0, .string t9_1f1, .string t9_1f2]), .int .i64 3]) h2) h1) (
nilc m0 (fun t19 =>
∃ (t21 : ON), cellH h1 (Addr.add t19 2) = some (.map t21) ∧
hwp PP (Instr.lookup y29 (.map t21) (.int .i64 txn1) true) (fun v h3 => ∃ (t23 : OA) (t23_1 : Bool), v = (.tuple #[.pointer t23, .bool t23_1]) ∧
let t27 : Bool := (!t23_1)
br t27 (
wrCells t9 0 [(.string (⟨#[]⟩ : ByteArray)), (.string (⟨#[]⟩ : ByteArray)), (.string (⟨#[]⟩ : ByteArray))] (fun h4 =>
∃ (t9_2f0 t9_2f1 t9_2f2 : ByteArray), rdCells h4 t9 0 [.string t9_2f0, .string t9_2f1, .string t9_2f2] ∧
Q (.tuple #[.pointer none, (.agg #[.string t9_2f0, .string t9_2f1, .string t9_2f2]), .int .i64 140]) h4) h3) (
SpecH PP z322 [.string y54] h3 (fun v_1 h5 => ∃ (t30 : Bool), v_1 = (.bool t30) ∧
let t31 : Bool := (!t30)
br t31 (
J1 y54 y73 entry3n entry3c t9 t23 true Q h5) (
SpecH PP z185 [(.slice y73 entry3n entry3c), (.func (.func z307) #[] #[])] h5 (fun v_2 h6 => ∃ (t34 : Bool), v_2 = (.bool t34) ∧
J1 y54 y73 entry3n entry3c t9 t23 t34 Q h6))))) h1))) : SpecH PP z305 [.pointer m0, .int .i64 txn1, .string y54, (.slice y73 entry3n entry3c)] h Q :=
  spec_of_txt (ann := ann) Tryz.func43 rfl rfl (by kernel_rfl) H
end z304
namespace z318
def ann : Ann := (.seq 35 (rg 4 35) (.seq 35 (.seq 1571 (.tree (.run [0, 1, 2, 3, 4] (.alt 5 (.run [6, 7, 8, 9, 10, 11] .done) (.alt 9 (.run [5, 6, 7, 8, 10, 11] .done) .nil))) 1571) (.join (.seq 1049123 (rg 1 1049123) (.cond (.seq 448 (rg 7 448) (.exit 448)) .leaf)))) (.seq 192 (.tree (.run [0, 1, 2, 5, 6, 7, 8] (.alt 3 (.alt 4 (.run [9, 10, 11, 12, 13, 14, 15, 16] .done) (.alt 9 (.run [4, 10, 11, 12, 13, 14, 15, 16] .done) .nil)) (.alt 4 (.alt 3 (.run [9, 10, 11, 12, 13, 14, 15, 16] .done) (.alt 9 (.run [3, 10, 11, 12, 13, 14, 15, 16] .done) .nil)) (.alt 9 (.run [3, 4, 10, 11, 12, 13, 14, 15, 16] .done) .nil)))) 192) (.join (.seq 448 (rg 5 448) (.exit 448))))))
noncomputable abbrev cd (n : Nat) : Code := sub (bodyOf Tryz.f44) (pth n)
abbrev an (n : Nat) : Ann := subA ann (pth n)
@[irreducible] def K1 (Q : VP) : EP := seqK (fun fr h => ev PP true none (cd 7) (an 7) (fr.mask 35) (bodyK PP Tryz.f44 Q) h) (bodyK PP Tryz.f44 Q)
@[irreducible] def J1 (m0 t1 : OA) (k5 w9 : Addr) (ok10 : Bool) (Q : VP) (h : Heap) : Prop := Jn PP true (cd 13) (mkFr 0 42 [(0, .pointer m0), (1, .pointer t1), (5, (.pointer (some k5))), (9, (.pointer (some w9))), (10, .bool ok10)]) (K1 Q) h
@[irreducible] def J2 (data6 : ByteArray) (there7 : Bool) (Q : VP) (h : Heap) : Prop := Jn PP true (cd 15) (mkFr 0 42 [(6, .string data6), (7, .bool there7)]) (bodyK PP Tryz.f44 Q) h
theorem J1_of {m0 t1 : OA} {k5 w9 : Addr} {ok10 : Bool} {Q : VP} {h : Heap} (H :
br ok10 (
∃ (t22 : ByteArray), cellH h (Addr.add w9 4) = some (.string t22) ∧
∃ (t24 : Bool), cellH h (Addr.add w9 3) = some (.bool t24) ∧
Q (.tuple #[.string t22, .bool t24, .bool true]) h) (
nilc m0 (fun t27 =>
nilc t1 (fun t32 =>
∃ (t34 : OA), cellH h (Addr.add t32 1) = some (.pointer t34) ∧
(
∃ (t29_3 : OA), cellH h t27 = some (.pointer t29_3) ∧
(
∃ (t30_3f0 t30_3f1 t30_3f2 : ByteArray), rdCells h k5 0 [.string t30_3f0, .string t30_3f1, .string t30_3f2] ∧
SpecH PP z330 [.pointer t34] h (fun v_8 h9 => ∃ (t35_4 : Int), v_8 = (.int .i64 t35_4) ∧
let t36_4 : Int := IntKind.i64.wrap (t35_4 + 1)
SpecH PP z101 [.pointer t29_3, (.agg #[.string t30_3f0, .string t30_3f1, .string t30_3f2]), .int .i64 t36_4] h9 (fun v_9 h10 => ∃ (t37_8 : ByteArray) (t37_9 : Bool), v_9 = (.tuple #[.string t37_8, .bool t37_9]) ∧
J2 t37_8 t37_9 Q h10))) ∧
(
SpecH PP z330 [.pointer t34] h (fun v_6 h7 => ∃ (t35_3 : Int), v_6 = (.int .i64 t35_3) ∧
∃ (t30_2f0 t30_2f1 t30_2f2 : ByteArray), rdCells h7 k5 0 [.string t30_2f0, .string t30_2f1, .string t30_2f2] ∧
let t36_3 : Int := IntKind.i64.wrap (t35_3 + 1)
SpecH PP z101 [.pointer t29_3, (.agg #[.string t30_2f0, .string t30_2f1, .string t30_2f2]), .int .i64 t36_3] h7 (fun v_7 h8 => ∃ (t37_6 : ByteArray) (t37_7 : Bool), v_7 = (.tuple #[.string t37_6, .bool t37_7]) ∧
J2 t37_6 t37_7 Q h8))) ∧
True) ∧
(
∃ (t30_1f0 t30_1f1 t30_1f2 : ByteArray), rdCells h k5 0 [.string t30_1f0, .string t30_1f1, .string t30_1f2] ∧
(
∃ (t29_2 : OA), cellH h t27 = some (.pointer t29_2) ∧
SpecH PP z330 [.pointer t34] h (fun v_4 h5 => ∃ (t35_2 : Int), v_4 = (.int .i64 t35_2) ∧
let t36_2 : Int := IntKind.i64.wrap (t35_2 + 1)
SpecH PP z101 [.pointer t29_2, (.agg #[.string t30_1f0, .string t30_1f1, .string t30_1f2]), .int .i64 t36_2] h5 (fun v_5 h6 => ∃ (t37_4 : ByteArray) (t37_5 : Bool), v_5 = (.tuple #[.string t37_4, .bool t37_5]) ∧
J2 t37_4 t37_5 Q h6))) ∧
(
SpecH PP z330 [.pointer t34] h (fun v_2 h3 => ∃ (t35_1 : Int), v_2 = (.int .i64 t35_1) ∧
∃ (t29_1 : OA), cellH h3 t27 = some (.pointer t29_1) ∧
let t36_1 : Int := IntKind.i64.wrap (t35_1 + 1)
SpecH PP z101 [.pointer t29_1, (.agg #[.string t30_1f0, .string t30_1f1, .string t30_1f2]), .int .i64 t36_1] h3 (fun v_3 h4 => ∃ (t37_2 : ByteArray) (t37_3 : Bool), v_3 = (.tuple #[.string t37_2, .bool t37_3]) ∧
J2 t37_2 t37_3 Q h4))) ∧
True) ∧
(
SpecH PP z330 [.pointer t34] h (fun v h1 => ∃ (t35 : Int), v = (.int .i64 t35) ∧
∃ (t29 : OA), cellH h1 t27 = some (.pointer t29) ∧
∃ (t30f0 t30f1 t30f2 : ByteArray), rdCells h1 k5 0 [.string t30f0, .string t30f1, .string t30f2] ∧
let t36 : Int := IntKind.i64.wrap (t35 + 1)
SpecH PP z101 [.pointer t29, (.agg #[.string t30f0, .string t30f1, .string t30f2]), .int .i64 t36] h1 (fun v_1 h2 => ∃ (t37 : ByteArray) (t37_1 : Bool), v_1 = (.tuple #[.string t37, .bool t37_1]) ∧
J2 t37 t37_1 Q h2))) ∧
True)))) : J1 m0 t1 k5 w9 ok10 Q h := by unfold J1; exact Jn.of_txt (an 13) (by kernel_rfl) H
theorem J2_of {data6 : ByteArray} {there7 : Bool} {Q : VP} {h : Heap} (H :
Q (.tuple #[.string data6, .bool there7, .bool false]) h) : J2 data6 there7 Q h := by unfold J2; exact Jn.of_txt (an 15) (by kernel_rfl) H
theorem door {m0 t1 : OA} {k2f0 k2f1 k2f2 : ByteArray} {Q : VP} {h : Heap} (H :
let k5 : Addr := ⟨Array.size h, 0, none⟩
let h1 : Heap := Array.push h (.cells #[.string k2f0, .string k2f1, .string k2f2] y16 (0, 0))
nilc t1 (fun t13 =>
∃ (t15 : OA), cellH h1 (Addr.add t13 1) = some (.pointer t15) ∧
∃ (t16f0 t16f1 t16f2 : ByteArray), rdCells h1 k5 0 [.string t16f0, .string t16f1, .string t16f2] ∧
(
SpecH PP z340 [.pointer t15, (.agg #[.string t16f0, .string t16f1, .string t16f2])] h1 (fun v_1 h5 => ∃ (t17_2f0 t17_2f1 t17_2f2 : ByteArray) (t17_2f3 : Bool) (t17_2f4 : ByteArray) (t17_3 : Bool), v_1 = (.tuple #[(.agg #[.string t17_2f0, .string t17_2f1, .string t17_2f2, .bool t17_2f3, .string t17_2f4]), .bool t17_3]) ∧
let w9_1 : Addr := ⟨Array.size h5, 0, none⟩
let h6 : Heap := Array.push h5 (.cells #[(.string (⟨#[]⟩ : ByteArray)), (.string (⟨#[]⟩ : ByteArray)), (.string (⟨#[]⟩ : ByteArray)), .bool false, (.string (⟨#[]⟩ : ByteArray))] y17 (0, 0))
wrCells w9_1 0 [.string t17_2f0, .string t17_2f1, .string t17_2f2, .bool t17_2f3, .string t17_2f4] (fun h7 =>
J1 m0 t1 k5 w9_1 t17_3 Q h7) h6)) ∧
(
let w9 : Addr := ⟨Array.size h1, 0, none⟩
let h2 : Heap := Array.push h1 (.cells #[(.string (⟨#[]⟩ : ByteArray)), (.string (⟨#[]⟩ : ByteArray)), (.string (⟨#[]⟩ : ByteArray)), .bool false, (.string (⟨#[]⟩ : ByteArray))] y17 (0, 0))
SpecH PP z340 [.pointer t15, (.agg #[.string t16f0, .string t16f1, .string t16f2])] h2 (fun v h3 => ∃ (t17f0 t17f1 t17f2 : ByteArray) (t17f3 : Bool) (t17f4 : ByteArray) (t17_1 : Bool), v = (.tuple #[(.agg #[.string t17f0, .string t17f1, .string t17f2, .bool t17f3, .string t17f4]), .bool t17_1]) ∧
wrCells w9 0 [.string t17f0, .string t17f1, .string t17f2, .bool t17f3, .string t17f4] (fun h4 =>
J1 m0 t1 k5 w9 t17_1 Q h4) h3)) ∧
True)) : SpecH PP z319 [.pointer m0, .pointer t1, (.agg #[.string k2f0, .string k2f1, .string k2f2])] h Q :=
  spec_of_txt (ann := ann) Tryz.func44 rfl rfl (by kernel_rfl) H
end z318
namespace z343
def ann : Ann := (.seq 9 (rg 1 9) (.seq 41 (rg 2 41) (.cond (rg 6 0) .leaf)))
theorem door {s0 : OA} {k1f0 k1f1 k1f2 : ByteArray} {Q : VP} {h : Heap} (H :
let k3 : Addr := ⟨Array.size h, 0, none⟩
let h1 : Heap := Array.push h (.cells #[.string k1f0, .string k1f1, .string k1f2] y16 (0, 0))
let t5 : Bool := (!Option.isNone s0)
br t5 (
nilc s0 (fun t7 =>
∃ (t9 : ON), cellH h1 (Addr.add t7 1) = some (.map t9) ∧
∃ (t10f0 t10f1 t10f2 : ByteArray), rdCells h1 k3 0 [.string t10f0, .string t10f1, .string t10f2] ∧
hwp PP (Instr.mapUpdate y82 (.map t9) (.agg #[.string t10f0, .string t10f1, .string t10f2]) (.bool true)) (fun _ h2 =>
Q (.tuple #[]) h2) h1)) (
Q (.tuple #[]) h1)) : SpecH PP z344 [.pointer s0, (.agg #[.string k1f0, .string k1f1, .string k1f2])] h Q :=
  spec_of_txt (ann := ann) Tryz.func45 rfl rfl (by kernel_rfl) H
end z343
namespace z96
def ann : Ann := (.seq 3 (rg 1 3) (.seq 35 (rg 1 35) (.seq 32 (.seq 114723 (rg 5 114723) (.block (.loop 114723 (.seq 245795 (rg 1 245795) (.seq 114723 (.cond .leaf (.exit 32)) (.seq 114723 (.block (.seq 114851 (rg 4 114851) (.seq 114851 (.seq 115107 (rg 3 115107) (.seq 35184372203683 (rg 24 35184372203683) (.join (.cond (rg 9 114851) .leaf)))) (.join (.seq 115363 (rg 9 115363) (.seq 117411 (rg 6 117411) (rg 14 114723))))))) (rg 2 114723))))))) (.seq 16 (rg 2 16) (.exit 16)))))
noncomputable abbrev cd (n : Nat) : Code := sub (bodyOf Tryz.f46) (pth n)
abbrev an (n : Nat) : Ann := subA ann (pth n)
@[irreducible] def X0 (out5 : OA) (out5n out5c : Nat) : Fr := (mkFr 0 81 [(5, (.slice out5 out5n out5c))])
@[irreducible] def L1 (s0 : OA) (at1 : Int) (out5 : OA) (out5n out5c : Nat) (t14 : OA) (t14n t14c : Nat) (t15 t16 : Int) (K : EP) (h : Heap) : Prop := Lp PP true (cd 116) (mkFr 0 81 [(0, .pointer s0), (1, .int .i64 at1), (5, (.slice out5 out5n out5c)), (14, (.slice t14 t14n t14c)), (15, .int .i64 t15), (16, .int .i64 t16)]) K h
@[irreducible] def B1 (K : EP) : EP := seqK (fun fr h => Lp PP true (cd 116) (fr.mask 114723) K h) K
@[irreducible] def K5 (K : EP) : EP := seqK (fun fr h => ev PP true none (cd 935) (an 935) (fr.mask 114723) (B1 K) h) (B1 K)
@[irreducible] def K4 (K : EP) : EP := blockK 1 (K5 K)
@[irreducible] def K2 (K : EP) : EP := seqK (fun fr h => Jn PP true (cd 7475) (fr.mask 114851) (K4 K) h) (K4 K)
@[irreducible] def J1 (s0 : OA) (at1 : Int) (out5 : OA) (out5n out5c : Nat) (k7 : Addr) (t14 : OA) (t14n t14c : Nat) (t15 t16 : Int) (t45 : Bool) (K : EP) (h : Heap) : Prop := Jn PP true (cd 29899) (mkFr 0 81 [(0, .pointer s0), (1, .int .i64 at1), (5, (.slice out5 out5n out5c)), (7, (.pointer (some k7))), (14, (.slice t14 t14n t14c)), (15, .int .i64 t15), (16, .int .i64 t16), (45, .bool t45)]) (K2 K) h
@[irreducible] def K3 (Q : VP) : EP := seqK (fun fr h => ev PP true none (cd 15) (an 15) (fr.mask 32) (bodyK PP Tryz.f46 Q) h) (bodyK PP Tryz.f46 Q)
@[irreducible] def K1 (Q : VP) : EP := blockK 0 (K3 Q)
@[irreducible] def J2 (s0 : OA) (at1 : Int) (out5 : OA) (out5n out5c : Nat) (k7 : Addr) (t14 : OA) (t14n t14c : Nat) (t15 t16 : Int) (K : EP) (h : Heap) : Prop := Jn PP true (cd 7475) (mkFr 0 81 [(0, .pointer s0), (1, .int .i64 at1), (5, (.slice out5 out5n out5c)), (7, (.pointer (some k7))), (14, (.slice t14 t14n t14c)), (15, .int .i64 t15), (16, .int .i64 t16)]) (K4 K) h
theorem L1_of {s0 : OA} {at1 : Int} {out5 : OA} {out5n out5c : Nat} {t14 : OA} {t14n t14c : Nat} {t15 t16 : Int} {K : EP} {h : Heap} (H :
let t17 : Bool := decide (t16 < t15)
br t17 (
hwp PP (Instr.indexAt y11 (.slice t14 t14n t14c) (.int .i64 t16)) (fun v h1 => ∃ (t18 : Addr), v = (.pointer (some t18)) ∧
∃ (t19f0 t19f1 t19f2 : ByteArray), rdCells h1 t18 0 [.string t19f0, .string t19f1, .string t19f2] ∧
let k7 : Addr := ⟨Array.size h1, 0, none⟩
let h2 : Heap := Array.push h1 (.cells #[(.string (⟨#[]⟩ : ByteArray)), (.string (⟨#[]⟩ : ByteArray)), (.string (⟨#[]⟩ : ByteArray))] y16 (0, 0))
wrCells k7 0 [.string t19f0, .string t19f1, .string t19f2] (fun h3 =>
let t23 : Bool := ((out5n : Int) == 0)
br t23 (
J1 s0 at1 out5 out5n out5c k7 t14 t14n t14c t15 t16 true K h3) (
let t27 : Int := IntKind.i64.wrap ((out5n : Int) - 1)
hwp PP (Instr.indexAt y39 (.slice out5 out5n out5c) (.int .i64 t27)) (fun v_1 h4 => ∃ (t28 : Addr), v_1 = (.pointer (some t28)) ∧
∃ (t30 : ByteArray), cellH h4 t28 = some (.string t30) ∧
∃ (t32 : ByteArray), cellH h4 k7 = some (.string t32) ∧
let t33 : Bool := (!decide (t30 = t32))
br t33 (
J1 s0 at1 out5 out5n out5c k7 t14 t14n t14c t15 t16 true K h4) (
let t38 : Int := IntKind.i64.wrap ((out5n : Int) - 1)
hwp PP (Instr.indexAt y39 (.slice out5 out5n out5c) (.int .i64 t38)) (fun v_2 h5 => ∃ (t39 : Addr), v_2 = (.pointer (some t39)) ∧
∃ (t41 : ByteArray), cellH h5 (Addr.add t39 1) = some (.string t41) ∧
∃ (t43 : ByteArray), cellH h5 (Addr.add k7 1) = some (.string t43) ∧
let t44 : Bool := (!decide (t41 = t43))
J1 s0 at1 out5 out5n out5c k7 t14 t14n t14c t15 t16 t44 K h5) h4)) h3)) h2) h) (
K (.exit 0) (X0 out5 out5n out5c) h)) : L1 s0 at1 out5 out5n out5c t14 t14n t14c t15 t16 K h := by unfold L1; exact Lp.of_txt (an 116) 114723 (by kernel_rfl) H
theorem L1_X0 {Q : VP} {out5 : OA} {out5n out5c : Nat} {h : Heap} (H :
Q (.slice out5 out5n out5c) h) : (K1 Q) (.exit 0) (X0 out5 out5n out5c) h := of_eq_txt (by kernel_rfl) H
theorem J1_of {s0 : OA} {at1 : Int} {out5 : OA} {out5n out5c : Nat} {k7 : Addr} {t14 : OA} {t14n t14c : Nat} {t15 t16 : Int} {t45 : Bool} {K : EP} {h : Heap} (H :
br t45 (
∃ (t48 : ByteArray), cellH h k7 = some (.string t48) ∧
∃ (t50 : ByteArray), cellH h (Addr.add k7 1) = some (.string t50) ∧
let h1 : Heap := Array.push h (.cells #[.string t48, .string t50, (.slice none 0 0)] y33 (0, 0))
hwp PP (Builtin.append_ #[y39, y39] y39 #[(.slice out5 out5n out5c), (.slice (some ⟨Array.size h, 0, none⟩) 1 1)]) (fun v h2 => ∃ (t53 : OA) (t53n t53c : Nat), v = (.slice t53 t53n t53c) ∧
J2 s0 at1 t53 t53n t53c k7 t14 t14n t14c t15 t16 K h2) h1) (
J2 s0 at1 out5 out5n out5c k7 t14 t14n t14c t15 t16 K h)) : J1 s0 at1 out5 out5n out5c k7 t14 t14n t14c t15 t16 t45 K h := by unfold J1; exact Jn.of_txt (an 29899) (by kernel_rfl) H
theorem J2_of {s0 : OA} {at1 : Int} {out5 : OA} {out5n out5c : Nat} {k7 : Addr} {t14 : OA} {t14n t14c : Nat} {t15 t16 : Int} {K : EP} {h : Heap} (H :
∃ (t56f0 t56f1 t56f2 : ByteArray), rdCells h k7 0 [.string t56f0, .string t56f1, .string t56f2] ∧
SpecH PP z101 [.pointer s0, (.agg #[.string t56f0, .string t56f1, .string t56f2]), .int .i64 at1] h (fun v h1 => ∃ (t58 : ByteArray) (t58_1 : Bool), v = (.tuple #[.string t58, .bool t58_1]) ∧
let t64 : Int := IntKind.i64.wrap ((out5n : Int) - 1)
hwp PP (Instr.indexAt y39 (.slice out5 out5n out5c) (.int .i64 t64)) (fun v_1 h2 => ∃ (t65 : Addr), v_1 = (.pointer (some t65)) ∧
∃ (t70 : OA) (t70n t70c : Nat), cellH h2 (Addr.add t65 2) = some (.slice t70 t70n t70c) ∧
∃ (t72 : ByteArray), cellH h2 (Addr.add k7 2) = some (.string t72) ∧
let h3 : Heap := Array.push h2 (.cells #[.string t72, .string t58] y84 (0, 0))
hwp PP (Builtin.append_ #[y75, y75] y75 #[(.slice t70 t70n t70c), (.slice (some ⟨Array.size h2, 0, none⟩) 1 1)]) (fun v_2 h4 => ∃ (t76 : OA) (t76n t76c : Nat), v_2 = (.slice t76 t76n t76c) ∧
wr (Addr.add t65 2) (.slice t76 t76n t76c) (fun h5 =>
let t79 : Int := IntKind.i64.wrap (t16 + 1)
L1 s0 at1 out5 out5n out5c t14 t14n t14c t15 t79 K h5) h4) h3) h1)) : J2 s0 at1 out5 out5n out5c k7 t14 t14n t14c t15 t16 K h := by unfold J2; exact Jn.of_txt (an 7475) (by kernel_rfl) H
theorem door {s0 : OA} {at1 : Int} {Q : VP} {h : Heap} (H :
SpecH PP z113 [.pointer s0, .int .i64 at1, (.func (.func z99) #[] #[])] h (fun v h1 => ∃ (t14 : OA) (t14n t14c : Nat), v = (.slice t14 t14n t14c) ∧
L1 s0 at1 none 0 0 t14 t14n t14c (t14n : Int) 0 (K1 Q) h1)) : SpecH PP z97 [.pointer s0, .int .i64 at1] h Q :=
  spec_of_txt (ann := ann) Tryz.func46 rfl rfl (by kernel_rfl) H
end z96
namespace z166
def ann : Ann := (.seq 1 (rg 1 1) (.seq 25 (rg 2 25) (.seq 57 (rg 1 57) (.seq 0 (.seq 14392 (rg 3 14392) (.block (.loop 14392 (.seq 30776 (rg 1 30776) (.seq 14392 (.cond .leaf (.exit 0)) (.seq 14392 (.block (.seq 14520 (rg 4 14520) (.seq 14520 (.block (.seq 145592 (rg 18 145592) (.join (.cond (.seq 4 (rg 1 4) (.exit 4)) (.seq 34359752888 (rg 6 34359752888) (.cond (.seq 14504 (rg 3 14504) (rg 1 14520)) (.seq 8796093036728 (rg 6 8796093036728) (.cond (.seq 4 (rg 1 4) (.exit 4)) .leaf)))))))) (.join (.seq 14520 (rg 3 14520) (.seq 14520 (.block (.seq 2251799813699768 (rg 7 2251799813699768) (.join (.cond (.seq 4 (rg 1 4) (.exit 4)) (.seq 288230376151726264 (rg 5 288230376151726264) (.cond (.seq 4 (rg 1 4) (.exit 4)) (.seq 9223372036854790328 (rg 5 9223372036854790328) (.cond (.seq 4 (rg 1 4) (.exit 4)) .leaf)))))))) (.seq 14776 (rg 1 14776) (.seq 14520 (.seq 4132070672510939576760 (rg 4 4132070672510939576760) (.block (.loop 4132070672510939576760 (.seq 8854437155380584790456 (rg 1 8854437155380584790456) (.seq 4132070672510939576760 (.cond .leaf (.exit 14520)) (.seq 4132070672510939576760 (.block (.seq 4132070672510939577784 (rg 4 4132070672510939577784) (.seq 4132070672510939577528 (.seq 19346945184506577734876344 (rg 10 19346945184506577734876344) (.join (.cond (.seq 4 (rg 1 4) (.exit 4)) .leaf))) (.seq 4132070672510939577528 (.seq 309489141892017579664358584 (rg 4 309489141892017579664358584) (.cond (.seq 4 (rg 1 4) (.exit 4)) .leaf)) (rg 3 4132070672510939576760))))) (rg 2 4132070672510939576760))))))) (rg 2 14392))))))))) (rg 2 14392))))))) (.seq 4 (rg 1 4) (.exit 4))))))
noncomputable abbrev cd (n : Nat) : Code := sub (bodyOf Tryz.f47) (pth n)
abbrev an (n : Nat) : Ann := subA ann (pth n)
@[irreducible] def X0  : Fr := (mkFr 0 94 [])
@[irreducible] def L1 (tenants3 boxes4 : Int) (last5 : Addr) (t11 : OA) (t11n t11c : Nat) (t12 t13 : Int) (K : EP) (h : Heap) : Prop := Lp PP true (cd 244) (mkFr 0 94 [(3, .int .i64 tenants3), (4, .int .i64 boxes4), (5, (.pointer (some last5))), (11, (.slice t11 t11n t11c)), (12, .int .i64 t12), (13, .int .i64 t13)]) K h
@[irreducible] def B1 (K : EP) : EP := seqK (fun fr h => Lp PP true (cd 244) (fr.mask 14392) K h) K
@[irreducible] def K6 (K : EP) : EP := seqK (fun fr h => ev PP true none (cd 1959) (an 1959) (fr.mask 14392) (B1 K) h) (B1 K)
@[irreducible] def K5 (K : EP) : EP := blockK 1 (K6 K)
@[irreducible] def K4 (K : EP) : EP := seqK (fun fr h => Jn PP true (cd 15667) (fr.mask 14520) (K5 K) h) (K5 K)
@[irreducible] def K2 (K : EP) : EP := blockK 2 (K4 K)
@[irreducible] def J1 (tenants3 boxes4 : Int) (last5 x7 : Addr) (t11 : OA) (t11n t11c : Nat) (t12 t13 : Int) (t17 : Bool) (K : EP) (h : Heap) : Prop := Jn PP true (cd 62665) (mkFr 0 94 [(3, .int .i64 tenants3), (4, .int .i64 boxes4), (5, (.pointer (some last5))), (7, (.pointer (some x7))), (11, (.slice t11 t11n t11c)), (12, .int .i64 t12), (13, .int .i64 t13), (17, .bool t17)]) (K2 K) h
@[irreducible] def K3 (Q : VP) : EP := seqK (fun fr h => ev PP true none (cd 31) (an 31) (fr.mask 0) (bodyK PP Tryz.f47 Q) h) (bodyK PP Tryz.f47 Q)
@[irreducible] def K1 (Q : VP) : EP := blockK 0 (K3 Q)
theorem L1_of {tenants3 boxes4 : Int} {last5 : Addr} {t11 : OA} {t11n t11c : Nat} {t12 t13 : Int} {K : EP} {h : Heap} (H :
let t14 : Bool := decide (t13 < t12)
br t14 (
hwp PP (Instr.indexAt y39 (.slice t11 t11n t11c) (.int .i64 t13)) (fun v h1 => ∃ (t15 : Addr), v = (.pointer (some t15)) ∧
∃ (t16f0 t16f1 : ByteArray) (t16f2 : OA) (t16f2n t16f2c : Nat), rdCells h1 t15 0 [.string t16f0, .string t16f1, (.slice t16f2 t16f2n t16f2c)] ∧
let x7 : Addr := ⟨Array.size h1, 0, none⟩
let h2 : Heap := Array.push h1 (.cells #[(.string (⟨#[]⟩ : ByteArray)), (.string (⟨#[]⟩ : ByteArray)), (.slice none 0 0)] y33 (0, 0))
wrCells x7 0 [.string t16f0, .string t16f1, (.slice t16f2 t16f2n t16f2c)] (fun h3 =>
∃ (t19 : ByteArray), cellH h3 x7 = some (.string t19) ∧
SpecH PP z169 [.string t19] h3 (fun v_1 h4 => ∃ (t20 : Bool), v_1 = (.bool t20) ∧
let t21 : Bool := (!t20)
br t21 (
J1 tenants3 boxes4 last5 x7 t11 t11n t11c t12 t13 true K h4) (
∃ (t24 : ByteArray), cellH h4 (Addr.add x7 1) = some (.string t24) ∧
SpecH PP z169 [.string t24] h4 (fun v_2 h5 => ∃ (t25 : Bool), v_2 = (.bool t25) ∧
let t26 : Bool := (!t25)
br t26 (
J1 tenants3 boxes4 last5 x7 t11 t11n t11c t12 t13 true K h5) (
∃ (t30 : ByteArray), cellH h5 x7 = some (.string t30) ∧
∃ (t32 : ByteArray), cellH h5 last5 = some (.string t32) ∧
let t33 : Bool := strLt t30 t32
J1 tenants3 boxes4 last5 x7 t11 t11n t11c t12 t13 t33 K h5))))) h2) h) (
K (.exit 0) (X0) h)) : L1 tenants3 boxes4 last5 t11 t11n t11c t12 t13 K h := by unfold L1; exact Lp.of_txt (an 244) 14392 (by kernel_rfl) H
theorem L1_X0 {Q : VP}  {h : Heap} (H :
Q (.int .i64 0) h) : (K1 Q) (.exit 0) (X0 ) h := of_eq_txt (by kernel_rfl) H
theorem door {xl0 : OA} {xl0n xl0c : Nat} {Q : VP} {h : Heap} (H :
let last5 : Addr := ⟨Array.size h, 0, none⟩
let h1 : Heap := Array.push h (.cells #[(.string (⟨#[]⟩ : ByteArray)), (.string (⟨#[]⟩ : ByteArray)), (.slice none 0 0)] y33 (0, 0))
L1 0 0 last5 xl0 xl0n xl0c (xl0n : Int) 0 (K1 Q) h1) : SpecH PP z167 [(.slice xl0 xl0n xl0c)] h Q :=
  spec_of_txt (ann := ann) Tryz.func47 rfl rfl (by kernel_rfl) H
end z166
namespace z94
def ann : Ann := (.seq 0 (rg 1 0) (.seq 1 (rg 4 1) (.exit 1)))
theorem door  {Q : VP} {h : Heap} (H :
let h1 : Heap := Array.push h (.map #[] 0)
let t3 : Addr := ⟨Array.size h1, 0, none⟩
let h2 : Heap := Array.push h1 (.cells #[(.map (some (Array.size h))), .int .i64 0, .int .i64 0] y30 (0, 0))
Q (.pointer (some t3)) h2) : SpecH PP z95 [] h Q :=
  spec_of_txt (ann := ann) Tryz.func48 rfl rfl (by kernel_rfl) H
end z94
namespace z337
def ann : Ann := (.seq 9 (rg 1 9) (.seq 41 (rg 2 41) (.cond (rg 6 0) .leaf)))
theorem door {s0 : OA} {b1f0 b1f1 : ByteArray} {Q : VP} {h : Heap} (H :
let b3 : Addr := ⟨Array.size h, 0, none⟩
let h1 : Heap := Array.push h (.cells #[.string b1f0, .string b1f1] y44 (0, 0))
let t5 : Bool := (!Option.isNone s0)
br t5 (
nilc s0 (fun t7 =>
∃ (t9 : ON), cellH h1 (Addr.add t7 2) = some (.map t9) ∧
∃ (t10f0 t10f1 : ByteArray), rdCells h1 b3 0 [.string t10f0, .string t10f1] ∧
hwp PP (Instr.mapUpdate y83 (.map t9) (.agg #[.string t10f0, .string t10f1]) (.bool true)) (fun _ h2 =>
Q (.tuple #[]) h2) h1)) (
Q (.tuple #[]) h1)) : SpecH PP z338 [.pointer s0, (.agg #[.string b1f0, .string b1f1])] h Q :=
  spec_of_txt (ann := ann) Tryz.func67 rfl rfl (by kernel_rfl) H
end z337
namespace z314
def ann : Ann := (.seq 56 (rg 4 56) (.seq 64 (rg 2 64) (.exit 64)))
theorem door {m0 t1 : OA} {b2f0 b2f1 : ByteArray} {Q : VP} {h : Heap} (H :
let m3 : Addr := ⟨Array.size h, 0, none⟩
let h1 : Heap := Array.push h (.cells #[.pointer m0] y63 (0, 0))
let t4 : Addr := ⟨Array.size h1, 0, none⟩
let h2 : Heap := Array.push h1 (.cells #[.pointer t1] y67 (0, 0))
let b5 : Addr := ⟨Array.size h2, 0, none⟩
let h3 : Heap := Array.push h2 (.cells #[.string b2f0, .string b2f1] y44 (0, 0))
Q (.func (.func z317) #[] #[(.pointer (some m3)), (.pointer (some b5)), (.pointer (some t4))]) h3) : SpecH PP z315 [.pointer m0, .pointer t1, (.agg #[.string b2f0, .string b2f1])] h Q :=
  spec_of_txt (ann := ann) Tryz.func68 rfl rfl (by kernel_rfl) H
end z314
namespace z341
def ann : Ann := (.seq 21 (rg 1 21) (.seq 149 (rg 2 149) (.cond (rg 9 0) .leaf)))
theorem door {s0 : OA} {k1f0 k1f1 k1f2 data2 : ByteArray} {Q : VP} {h : Heap} (H :
let k4 : Addr := ⟨Array.size h, 0, none⟩
let h1 : Heap := Array.push h (.cells #[.string k1f0, .string k1f1, .string k1f2] y16 (0, 0))
let t7 : Bool := (!Option.isNone s0)
br t7 (
nilc s0 (fun t9 =>
∃ (t11 : ON), cellH h1 (Addr.add t9 3) = some (.map t11) ∧
∃ (t12f0 t12f1 t12f2 : ByteArray), rdCells h1 k4 0 [.string t12f0, .string t12f1, .string t12f2] ∧
∃ (t13f0 t13f1 t13f2 : ByteArray), rdCells h1 k4 0 [.string t13f0, .string t13f1, .string t13f2] ∧
hwp PP (Instr.mapUpdate y24 (.map t11) (.agg #[.string t12f0, .string t12f1, .string t12f2]) (.agg #[.string t13f0, .string t13f1, .string t13f2, .bool true, .string data2])) (fun _ h2 =>
Q (.tuple #[]) h2) h1)) (
Q (.tuple #[]) h1)) : SpecH PP z342 [.pointer s0, (.agg #[.string k1f0, .string k1f1, .string k1f2]), .string data2] h Q :=
  spec_of_txt (ann := ann) Tryz.func70 rfl rfl (by kernel_rfl) H
end z341
namespace z335
def ann : Ann := (.seq 9 (rg 1 9) (.seq 41 (rg 2 41) (.cond (rg 8 0) .leaf)))
theorem door {s0 : OA} {k1f0 k1f1 k1f2 : ByteArray} {Q : VP} {h : Heap} (H :
let k3 : Addr := ⟨Array.size h, 0, none⟩
let h1 : Heap := Array.push h (.cells #[.string k1f0, .string k1f1, .string k1f2] y16 (0, 0))
let t5 : Bool := (!Option.isNone s0)
br t5 (
nilc s0 (fun t7 =>
∃ (t9 : ON), cellH h1 (Addr.add t7 3) = some (.map t9) ∧
∃ (t10f0 t10f1 t10f2 : ByteArray), rdCells h1 k3 0 [.string t10f0, .string t10f1, .string t10f2] ∧
∃ (t11f0 t11f1 t11f2 : ByteArray), rdCells h1 k3 0 [.string t11f0, .string t11f1, .string t11f2] ∧
hwp PP (Instr.mapUpdate y24 (.map t9) (.agg #[.string t10f0, .string t10f1, .string t10f2]) (.agg #[.string t11f0, .string t11f1, .string t11f2, .bool false, (.string (⟨#[]⟩ : ByteArray))])) (fun _ h2 =>
Q (.tuple #[]) h2) h1)) (
Q (.tuple #[]) h1)) : SpecH PP z336 [.pointer s0, (.agg #[.string k1f0, .string k1f1, .string k1f2])] h Q :=
  spec_of_txt (ann := ann) Tryz.func71 rfl rfl (by kernel_rfl) H
end z335
namespace z180
def ann : Ann := (.seq 3 (rg 1 3) (.seq 16 (rg 5 16) (.exit 16)))
theorem door {s0 : OA} {s0n s0c : Nat} {f1 : Value} {Q : VP} {h : Heap} (H :
SpecH PP z193 [(.slice s0 s0n s0c), f1] h (fun v h1 => ∃ (t7 : Int), v = (.int .i64 t7) ∧
let t8 : Bool := decide (t7 ≥ 0)
Q (.bool t8) h1)) : SpecH PP z181 [(.slice s0 s0n s0c), f1] h Q :=
  spec_of_txt (ann := ann) Tryz.func73 rfl rfl (by kernel_rfl) H
end z180
namespace z323
def ann : Ann := (.seq 1 (rg 1 1) (.seq 4 (rg 19 4) (.exit 4)))
theorem door {c0 : Int} {Q : VP} {h : Heap} (H :
let t4 : Bool := decide (c0 < 97)
br t4 (
let t11 : Bool := decide (c0 < 48)
br t11 (
let t19 : Bool := (c0 != 45)
Q (.bool t19) h) (
let t14 : Bool := decide (c0 > 57)
br t14 (
let t19_1 : Bool := (c0 != 45)
Q (.bool t19_1) h) (
Q (.bool false) h))) (
let t7 : Bool := decide (c0 > 122)
br t7 (
let t11_1 : Bool := decide (c0 < 48)
br t11_1 (
let t19_2 : Bool := (c0 != 45)
Q (.bool t19_2) h) (
let t14_1 : Bool := decide (c0 > 57)
br t14_1 (
let t19_3 : Bool := (c0 != 45)
Q (.bool t19_3) h) (
Q (.bool false) h))) (
Q (.bool false) h))) : SpecH PP z324 [.int .u8 c0] h Q :=
  spec_of_txt (ann := ann) Tryz.func74 rfl rfl (by kernel_rfl) H
end z323
namespace z108
def ann : Ann := (.seq 3 (rg 1 3) (.seq 3 (.seq 262147 (rg 10 262147) (.join (.cond (.seq 16 (rg 1 16) (.exit 16)) .leaf))) (.seq 1 (rg 10 1) (.seq 33 (rg 1 33) (.seq 32 (.seq 4294967329 (rg 5 4294967329) (.block (.loop 4294967329 (.seq 21474836513 (rg 2 21474836513) (.seq 4294967329 (.cond .leaf (.exit 32)) (.block (.seq 4294967521 (rg 6 4294967521) (.seq 4294967777 (rg 8 4294967777) (.seq 4294967777 (.seq 18014402804449761 (rg 10 18014402804449761) (.join (.cond (rg 3 4294967777) .leaf))) (.join (.seq 4294967777 (rg 4 4294967777) (.seq 9223372041149743585 (rg 4 9223372041149743585) (.cond (rg 6 4294967329) (.seq 1180591620721706271201 (rg 2 1180591620721706271201) (.cond (.tree (.run [0, 1, 2, 5, 6, 7] (.alt 3 (.alt 4 (.run [8, 9] .done) (.alt 8 (.run [4, 9] .done) .nil)) (.alt 4 (.alt 3 (.run [8, 9] .done) (.alt 8 (.run [3, 9] .done) .nil)) (.alt 8 (.run [3, 4, 9] .done) .nil)))) 4294967329) .leaf))))))))))))))) (.seq 16 (rg 2 16) (.exit 16)))))))
noncomputable abbrev cd (n : Nat) : Code := sub (bodyOf Tryz.f75) (pth n)
abbrev an (n : Nat) : Ann := subA ann (pth n)
@[irreducible] def X0 (gone5 : Int) : Fr := (mkFr 0 81 [(5, .int .i64 gone5)])
@[irreducible] def K1 (Q : VP) : EP := seqK (fun fr h => ev PP true none (cd 7) (an 7) (fr.mask 3) (bodyK PP Tryz.f75 Q) h) (bodyK PP Tryz.f75 Q)
@[irreducible] def J1 (s0 : OA) (at1 : Int) (t18 : Bool) (Q : VP) (h : Heap) : Prop := Jn PP true (cd 13) (mkFr 0 81 [(0, .pointer s0), (1, .int .i64 at1), (18, .bool t18)]) (K1 Q) h
@[irreducible] def K3 (Q : VP) : EP := seqK (fun fr h => ev PP true none (cd 63) (an 63) (fr.mask 32) (bodyK PP Tryz.f75 Q) h) (bodyK PP Tryz.f75 Q)
@[irreducible] def K2 (Q : VP) : EP := blockK 0 (K3 Q)
@[irreducible] def L1 (s0 : OA) (gone5 : Int) (t32 : Value) (K : EP) (h : Heap) : Prop := Lp PP true (cd 500) (mkFr 0 81 [(0, .pointer s0), (5, .int .i64 gone5), (32, t32)]) K h
@[irreducible] def B1 (K : EP) : EP := seqK (fun fr h => Lp PP true (cd 500) (fr.mask 4294967329) K h) K
@[irreducible] def K5 (K : EP) : EP := blockK 1 (B1 K)
@[irreducible] def K4 (K : EP) : EP := seqK (fun fr h => Jn PP true (cd 32055) (fr.mask 4294967777) (K5 K) h) (K5 K)
@[irreducible] def J2 (s0 : OA) (gone5 : Int) (k6 : Addr) (xl7 : OA) (xl7n xl7c : Nat) (xn8 : Int) (t32 : Value) (t54 : Bool) (K : EP) (h : Heap) : Prop := Jn PP true (cd 64109) (mkFr 0 81 [(0, .pointer s0), (5, .int .i64 gone5), (6, (.pointer (some k6))), (7, (.slice xl7 xl7n xl7c)), (8, .int .i64 xn8), (32, t32), (54, .bool t54)]) (K4 K) h
@[irreducible] def J3 (s0 : OA) (gone5 : Int) (k6 : Addr) (xl7 : OA) (xl7n xl7c : Nat) (xn8 : Int) (t32 : Value) (K : EP) (h : Heap) : Prop := Jn PP true (cd 32055) (mkFr 0 81 [(0, .pointer s0), (5, .int .i64 gone5), (6, (.pointer (some k6))), (7, (.slice xl7 xl7n xl7c)), (8, .int .i64 xn8), (32, t32)]) (K5 K) h
theorem J1_of {s0 : OA} {at1 : Int} {t18 : Bool} {Q : VP} {h : Heap} (H :
br t18 (
Q (.int .i64 0) h) (
nilc s0 (fun t22 =>
∃ (t24 : Int), cellH h (Addr.add t22 1) = some (.int .i64 t24) ∧
let t25 : Int := (if t24 < at1 then t24 else at1)
nilc s0 (fun t26 =>
wr (Addr.add t26 2) (.int .i64 t25) (fun h1 =>
nilc s0 (fun t29 =>
∃ (t31 : ON), cellH h1 t29 = some (.map t31) ∧
hwp PP (Instr.range y13 (.map t31)) (fun v h2 => ∃ (t32 : Value), v = t32 ∧
L1 s0 0 t32 (K2 Q) h2) h1)) h)))) : J1 s0 at1 t18 Q h := by unfold J1; exact Jn.of_txt (an 13) (by kernel_rfl) H
theorem L1_of {s0 : OA} {gone5 : Int} {t32 : Value} {K : EP} {h : Heap} (H :
hwp PP (Instr.next t32 false T_) (fun v h1 => ∃ (b : Bool) (r : List Value), v = .tuple ((.bool b :: r).toArray) ∧
br b (
hwp PP (Instr.entry t32) (fun v_1 h2 => ∃ (t35 t35_1 : Value), v_1 = (.tuple #[t35, t35_1]) ∧
∃ (t36f0 t36f1 t36f2 : ByteArray), t35 = (.agg #[.string t36f0, .string t36f1, .string t36f2]) ∧
∃ (t37 : OA) (t37n t37c : Nat), t35_1 = (.slice t37 t37n t37c) ∧
let k6 : Addr := ⟨Array.size h2, 0, none⟩
let h3 : Heap := Array.push h2 (.cells #[(.string (⟨#[]⟩ : ByteArray)), (.string (⟨#[]⟩ : ByteArray)), (.string (⟨#[]⟩ : ByteArray))] y16 (0, 0))
wrCells k6 0 [.string t36f0, .string t36f1, .string t36f2] (fun h4 =>
nilc s0 (fun t41 =>
∃ (t43 : Int), cellH h4 (Addr.add t41 2) = some (.int .i64 t43) ∧
SpecH PP z117 [.pointer s0, (.slice t37 t37n t37c), .int .i64 t43] h4 (fun v_2 h5 => ∃ (t44 : Int), v_2 = (.int .i64 t44) ∧
let t46 : Bool := decide (t44 > 0)
br t46 (
let t50 : Int := IntKind.i64.wrap (t44 - 1)
hwp PP (Instr.indexAt y15 (.slice t37 t37n t37c) (.int .i64 t50)) (fun v_3 h6 => ∃ (t51 : Addr), v_3 = (.pointer (some t51)) ∧
∃ (t53 : Bool), cellH h6 (Addr.add t51 1) = some (.bool t53) ∧
J2 s0 gone5 k6 t37 t37n t37c t44 t32 t53 K h6) h5) (
J2 s0 gone5 k6 t37 t37n t37c t44 t32 false K h5)))) h3) h1) (
K (.exit 0) (X0 gone5) h1)) h) : L1 s0 gone5 t32 K h := by unfold L1; exact Lp.of_txt (an 500) 4294967329 (by kernel_rfl) H
theorem L1_X0 {Q : VP} {gone5 : Int} {h : Heap} (H :
Q (.int .i64 gone5) h) : (K2 Q) (.exit 0) (X0 gone5) h := of_eq_txt (by kernel_rfl) H
theorem J2_of {s0 : OA} {gone5 : Int} {k6 : Addr} {xl7 : OA} {xl7n xl7c : Nat} {xn8 : Int} {t32 : Value} {t54 : Bool} {K : EP} {h : Heap} (H :
br t54 (
let t56 : Int := IntKind.i64.wrap (xn8 - 1)
J3 s0 gone5 k6 xl7 xl7n xl7c t56 t32 K h) (
J3 s0 gone5 k6 xl7 xl7n xl7c xn8 t32 K h)) : J2 s0 gone5 k6 xl7 xl7n xl7c xn8 t32 t54 K h := by unfold J2; exact Jn.of_txt (an 64109) (by kernel_rfl) H
theorem J3_of {s0 : OA} {gone5 : Int} {k6 : Addr} {xl7 : OA} {xl7n xl7c : Nat} {xn8 : Int} {t32 : Value} {K : EP} {h : Heap} (H :
let t59 : Int := IntKind.i64.wrap (gone5 + xn8)
let t63 : Bool := (xn8 == (xl7n : Int))
br t63 (
nilc s0 (fun t65 =>
∃ (t67 : ON), cellH h t65 = some (.map t67) ∧
∃ (t68f0 t68f1 t68f2 : ByteArray), rdCells h k6 0 [.string t68f0, .string t68f1, .string t68f2] ∧
hwp PP (Builtin.delete_ #[y13, y16] T_ #[.map t67, (.agg #[.string t68f0, .string t68f1, .string t68f2])]) (fun v h1 => v = (.tuple #[]) ∧
L1 s0 t59 t32 K h1) h)) (
let t70 : Bool := decide (xn8 > 0)
br t70 (
nilc s0 (fun t72 =>
hwp PP (Instr.sliceAt y15 (.slice xl7 xl7n xl7c) (some (.int .i64 xn8)) none none) (fun v_1 h2 => ∃ (t78 : OA) (t78n t78c : Nat), v_1 = (.slice t78 t78n t78c) ∧
(
∃ (t74_3 : ON), cellH h2 t72 = some (.map t74_3) ∧
(
∃ (t75_3f0 t75_3f1 t75_3f2 : ByteArray), rdCells h2 k6 0 [.string t75_3f0, .string t75_3f1, .string t75_3f2] ∧
SpecH PP z175 [(.slice t78 t78n t78c)] h2 (fun v_6 h11 => ∃ (t79_4 : OA) (t79_4n t79_4c : Nat), v_6 = (.slice t79_4 t79_4n t79_4c) ∧
hwp PP (Instr.mapUpdate y13 (.map t74_3) (.agg #[.string t75_3f0, .string t75_3f1, .string t75_3f2]) (.slice t79_4 t79_4n t79_4c)) (fun _ h12 =>
L1 s0 t59 t32 K h12) h11)) ∧
(
SpecH PP z175 [(.slice t78 t78n t78c)] h2 (fun v_5 h9 => ∃ (t79_3 : OA) (t79_3n t79_3c : Nat), v_5 = (.slice t79_3 t79_3n t79_3c) ∧
∃ (t75_2f0 t75_2f1 t75_2f2 : ByteArray), rdCells h9 k6 0 [.string t75_2f0, .string t75_2f1, .string t75_2f2] ∧
hwp PP (Instr.mapUpdate y13 (.map t74_3) (.agg #[.string t75_2f0, .string t75_2f1, .string t75_2f2]) (.slice t79_3 t79_3n t79_3c)) (fun _ h10 =>
L1 s0 t59 t32 K h10) h9)) ∧
True) ∧
(
∃ (t75_1f0 t75_1f1 t75_1f2 : ByteArray), rdCells h2 k6 0 [.string t75_1f0, .string t75_1f1, .string t75_1f2] ∧
(
∃ (t74_2 : ON), cellH h2 t72 = some (.map t74_2) ∧
SpecH PP z175 [(.slice t78 t78n t78c)] h2 (fun v_4 h7 => ∃ (t79_2 : OA) (t79_2n t79_2c : Nat), v_4 = (.slice t79_2 t79_2n t79_2c) ∧
hwp PP (Instr.mapUpdate y13 (.map t74_2) (.agg #[.string t75_1f0, .string t75_1f1, .string t75_1f2]) (.slice t79_2 t79_2n t79_2c)) (fun _ h8 =>
L1 s0 t59 t32 K h8) h7)) ∧
(
SpecH PP z175 [(.slice t78 t78n t78c)] h2 (fun v_3 h5 => ∃ (t79_1 : OA) (t79_1n t79_1c : Nat), v_3 = (.slice t79_1 t79_1n t79_1c) ∧
∃ (t74_1 : ON), cellH h5 t72 = some (.map t74_1) ∧
hwp PP (Instr.mapUpdate y13 (.map t74_1) (.agg #[.string t75_1f0, .string t75_1f1, .string t75_1f2]) (.slice t79_1 t79_1n t79_1c)) (fun _ h6 =>
L1 s0 t59 t32 K h6) h5)) ∧
True) ∧
(
SpecH PP z175 [(.slice t78 t78n t78c)] h2 (fun v_2 h3 => ∃ (t79 : OA) (t79n t79c : Nat), v_2 = (.slice t79 t79n t79c) ∧
∃ (t74 : ON), cellH h3 t72 = some (.map t74) ∧
∃ (t75f0 t75f1 t75f2 : ByteArray), rdCells h3 k6 0 [.string t75f0, .string t75f1, .string t75f2] ∧
hwp PP (Instr.mapUpdate y13 (.map t74) (.agg #[.string t75f0, .string t75f1, .string t75f2]) (.slice t79 t79n t79c)) (fun _ h4 =>
L1 s0 t59 t32 K h4) h3)) ∧
True) h)) (
L1 s0 t59 t32 K h))) : J3 s0 gone5 k6 xl7 xl7n xl7c xn8 t32 K h := by unfold J3; exact Jn.of_txt (an 32055) (by kernel_rfl) H
theorem door {s0 : OA} {at1 : Int} {Q : VP} {h : Heap} (H :
let t10 : Bool := (Option.isNone s0)
br t10 (
J1 s0 at1 true Q h) (
nilc s0 (fun t14 =>
∃ (t16 : Int), cellH h (Addr.add t14 2) = some (.int .i64 t16) ∧
let t17 : Bool := decide (at1 ≤ t16)
J1 s0 at1 t17 Q h))) : SpecH PP z109 [.pointer s0, .int .i64 at1] h Q :=
  spec_of_txt (ann := ann) Tryz.func75 rfl rfl (by kernel_rfl) H
end z108
namespace z186
def ann : Ann := (.seq 3 (rg 1 3) (.seq 35 (rg 4 35) (.seq 35 (.seq 4131 (rg 2 4131) (.cond (.seq 16 (rg 2 16) (.exit 16)) .leaf)) (.seq 33 (.seq 99 (rg 3 99) (.block (.loop 99 (.seq 99 (.seq 524387 (rg 4 524387) (.cond .leaf (.exit 33))) (.seq 99 (.block (.seq 227 (rg 6 227) (.seq 536871139 (rg 4 536871139) (.cond (.seq 99 (rg 5 99) (rg 3 99)) .leaf)))) (.join (rg 3 99))))))) (.seq 33 (rg 4 33) (.seq 16 (rg 4 16) (.exit 16)))))))
noncomputable abbrev cd (n : Nat) : Code := sub (bodyOf Tryz.f76) (pth n)
abbrev an (n : Nat) : Ann := subA ann (pth n)
@[irreducible] def X0 (s0 : OA) (s0n s0c : Nat) (i5 : Int) : Fr := (mkFr 0 42 [(0, (.slice s0 s0n s0c)), (5, .int .i64 i5)])
@[irreducible] def L1 (s0 : OA) (s0n s0c : Nat) (del1 : Value) (i5 j6 : Int) (K : EP) (h : Heap) : Prop := Lp PP true (cd 244) (mkFr 0 42 [(0, (.slice s0 s0n s0c)), (1, del1), (5, .int .i64 i5), (6, .int .i64 j6)]) K h
@[irreducible] def B1 (K : EP) : EP := seqK (fun fr h => Lp PP true (cd 244) (fr.mask 99) K h) K
@[irreducible] def J1 (s0 : OA) (s0n s0c : Nat) (del1 : Value) (i5 j6 : Int) (K : EP) (h : Heap) : Prop := Jn PP true (cd 979) (mkFr 0 42 [(0, (.slice s0 s0n s0c)), (1, del1), (5, .int .i64 i5), (6, .int .i64 j6)]) (B1 K) h
@[irreducible] def K2 (Q : VP) : EP := seqK (fun fr h => ev PP true none (cd 31) (an 31) (fr.mask 33) (bodyK PP Tryz.f76 Q) h) (bodyK PP Tryz.f76 Q)
@[irreducible] def K1 (Q : VP) : EP := blockK 0 (K2 Q)
theorem L1_of {s0 : OA} {s0n s0c : Nat} {del1 : Value} {i5 j6 : Int} {K : EP} {h : Heap} (H :
let t19 : Bool := decide (j6 < (s0n : Int))
br t19 (
hwp PP (Instr.indexAt y60 (.slice s0 s0n s0c) (.int .i64 j6)) (fun v h1 => ∃ (t24 : Addr), v = (.pointer (some t24)) ∧
∃ (t25f0 : Int) (t25f1 : OA) (t25f1n t25f1c : Nat), rdCells h1 t24 0 [.int .i64 t25f0, (.slice t25f1 t25f1n t25f1c)] ∧
let v7 : Addr := ⟨Array.size h1, 0, none⟩
let h2 : Heap := Array.push h1 (.cells #[.int .i64 0, (.slice none 0 0)] y20 (0, 0))
wrCells v7 0 [.int .i64 t25f0, (.slice t25f1 t25f1n t25f1c)] (fun h3 =>
∃ (t27f0 : Int) (t27f1 : OA) (t27f1n t27f1c : Nat), rdCells h3 v7 0 [.int .i64 t27f0, (.slice t27f1 t27f1n t27f1c)] ∧
callV PP del1 [(.agg #[.int .i64 t27f0, (.slice t27f1 t27f1n t27f1c)])] (fun v_1 h4 => ∃ (t28 : Bool), v_1 = (.bool t28) ∧
let t29 : Bool := (!t28)
br t29 (
∃ (t32f0 : Int) (t32f1 : OA) (t32f1n t32f1c : Nat), rdCells h4 v7 0 [.int .i64 t32f0, (.slice t32f1 t32f1n t32f1c)] ∧
hwp PP (Instr.indexAt y60 (.slice s0 s0n s0c) (.int .i64 i5)) (fun v_2 h5 => ∃ (t33 : Addr), v_2 = (.pointer (some t33)) ∧
wrCells t33 0 [.int .i64 t32f0, (.slice t32f1 t32f1n t32f1c)] (fun h6 =>
let t35 : Int := IntKind.i64.wrap (i5 + 1)
J1 s0 s0n s0c del1 t35 j6 K h6) h5) h4) (
J1 s0 s0n s0c del1 i5 j6 K h4)) h3) h2) h) (
K (.exit 0) (X0 s0 s0n s0c i5) h)) : L1 s0 s0n s0c del1 i5 j6 K h := by unfold L1; exact Lp.of_txt (an 244) 99 (by kernel_rfl) H
theorem L1_X0 {Q : VP} {s0 : OA} {s0n s0c : Nat} {i5 : Int} {h : Heap} (H :
hwp PP (Instr.sliceAt y60 (.slice s0 s0n s0c) (some (.int .i64 i5)) none none) (fun v h1 => ∃ (t38 : OA) (t38n t38c : Nat), v = (.slice t38 t38n t38c) ∧
hwp PP (Builtin.clear_ #[y60] T_ #[(.slice t38 t38n t38c)]) (fun v_1 h2 => v_1 = (.tuple #[]) ∧
hwp PP (Instr.sliceAt y60 (.slice s0 s0n s0c) none (some (.int .i64 i5)) none) (fun v_2 h3 => ∃ (t41 : OA) (t41n t41c : Nat), v_2 = (.slice t41 t41n t41c) ∧
Q (.slice t41 t41n t41c) h3) h2) h1) h) : (K1 Q) (.exit 0) (X0 s0 s0n s0c i5) h := of_eq_txt (by kernel_rfl) H
theorem J1_of {s0 : OA} {s0n s0c : Nat} {del1 : Value} {i5 j6 : Int} {K : EP} {h : Heap} (H :
let t21 : Int := IntKind.i64.wrap (j6 + 1)
L1 s0 s0n s0c del1 i5 t21 K h) : J1 s0 s0n s0c del1 i5 j6 K h := by unfold J1; exact Jn.of_txt (an 979) (by kernel_rfl) H
theorem door {s0 : OA} {s0n s0c : Nat} {del1 : Value} {Q : VP} {h : Heap} (H :
SpecH PP z189 [(.slice s0 s0n s0c), del1] h (fun v h1 => ∃ (t10 : Int), v = (.int .i64 t10) ∧
let t12 : Bool := (t10 == (-1))
br t12 (
Q (.slice s0 s0n s0c) h1) (
let t15 : Int := IntKind.i64.wrap (t10 + 1)
L1 s0 s0n s0c del1 t10 t15 (K1 Q) h1))) : SpecH PP z187 [(.slice s0 s0n s0c), del1] h Q :=
  spec_of_txt (ann := ann) Tryz.func76 rfl rfl (by kernel_rfl) H
end z186
namespace z310
def ann : Ann := (.seq 6 (rg 2 6) (.seq 8 (rg 5 8) (.exit 8)))
theorem door {c0f0 : Int} {c0f1 : OA} {c0f1n c0f1c : Nat} {t1 : Addr} {Q : VP} {h : Heap} (H :
let c2 : Addr := ⟨Array.size h, 0, none⟩
let h1 : Heap := Array.push h (.cells #[.int .i64 c0f0, (.slice c0f1 c0f1n c0f1c)] y20 (0, 0))
∃ (t5 : Int), cellH h1 c2 = some (.int .i64 t5) ∧
∃ (t6 : Int), cellH h1 t1 = some (.int .i64 t6) ∧
let t7 : Bool := decide (t5 ≤ t6)
Q (.bool t7) h1) : SpecH PP z311 [(.agg #[.int .i64 c0f0, (.slice c0f1 c0f1n c0f1c)]), (.pointer (some t1))] h Q :=
  spec_of_txt (ann := ann) Tryz.func77 rfl rfl (by kernel_rfl) H
end z310
namespace z200
def ann : Ann := (.seq 3 (rg 1 3) (.seq 34 (rg 3 34) (.seq 32 (rg 3 32) (.seq 16 (rg 2 16) (.exit 16)))))
theorem door {seq0 cmp1 : Value} {Q : VP} {h : Heap} (H :
SpecH PP z177 [seq0] h (fun v h1 => ∃ (t7 : OA) (t7n t7c : Nat), v = (.slice t7 t7n t7c) ∧
SpecH PP z199 [(.slice t7 t7n t7c), cmp1] h1 (fun v_1 h2 => v_1 = (.tuple #[]) ∧
Q (.slice t7 t7n t7c) h2))) : SpecH PP z201 [seq0, cmp1] h Q :=
  spec_of_txt (ann := ann) Tryz.func78 rfl rfl (by kernel_rfl) H
end z200
namespace z150
def ann : Ann := (.seq 2 (rg 2 2) (.seq 4 (rg 2 4) (.exit 4)))
theorem door {m0 : ON} {Q : VP} {h : Heap} (H :
let m1 : Addr := ⟨Array.size h, 0, none⟩
let h1 : Heap := Array.push h (.cells #[.map m0] y24 (0, 0))
Q (.func (.func z153) #[] #[(.pointer (some m1))]) h1) : SpecH PP z151 [.map m0] h Q :=
  spec_of_txt (ann := ann) Tryz.func79 rfl rfl (by kernel_rfl) H
end z150
namespace z347
def ann : Ann := (.seq 12 (rg 3 12) (.seq 16 (rg 24 16) (.exit 16)))
theorem door {a0f0 a0f1 a0f2 : ByteArray} {a0f3 : Bool} {a0f4 b1f0 b1f1 b1f2 : ByteArray} {b1f3 : Bool} {b1f4 : ByteArray} {Q : VP} {h : Heap} (H :
let a2 : Addr := ⟨Array.size h, 0, none⟩
let h1 : Heap := Array.push h (.cells #[.string a0f0, .string a0f1, .string a0f2, .bool a0f3, .string a0f4] y17 (0, 0))
let b3 : Addr := ⟨Array.size h1, 0, none⟩
let h2 : Heap := Array.push h1 (.cells #[.string b1f0, .string b1f1, .string b1f2, .bool b1f3, .string b1f4] y17 (0, 0))
∃ (t7 : ByteArray), cellH h2 a2 = some (.string t7) ∧
∃ (t10 : ByteArray), cellH h2 b3 = some (.string t10) ∧
∃ v, PureAt PP z121 [.string t7, .string t10] v ∧
∃ (t11 : Int), v = (.int .i64 t11) ∧
∃ (t14 : ByteArray), cellH h2 (Addr.add a2 1) = some (.string t14) ∧
∃ (t17 : ByteArray), cellH h2 (Addr.add b3 1) = some (.string t17) ∧
∃ v_1, PureAt PP z121 [.string t14, .string t17] v_1 ∧
∃ (t18 : Int), v_1 = (.int .i64 t18) ∧
∃ (t21 : ByteArray), cellH h2 (Addr.add a2 2) = some (.string t21) ∧
∃ (t24 : ByteArray), cellH h2 (Addr.add b3 2) = some (.string t24) ∧
∃ v_2, PureAt PP z121 [.string t21, .string t24] v_2 ∧
∃ (t25 : Int), v_2 = (.int .i64 t25) ∧
let h3 : Heap := Array.push h2 (.cells #[.int .i64 t11, .int .i64 t18, .int .i64 t25] y38 (0, 0))
SpecH PP z125 [(.slice (some ⟨Array.size h2, 0, none⟩) 3 3)] h3 (fun v_3 h4 => ∃ (t27 : Int), v_3 = (.int .i64 t27) ∧
Q (.int .i64 t27) h4)) : SpecH PP z348 [(.agg #[.string a0f0, .string a0f1, .string a0f2, .bool a0f3, .string a0f4]), (.agg #[.string b1f0, .string b1f1, .string b1f2, .bool b1f3, .string b1f4])] h Q :=
  spec_of_txt (ann := ann) Tryz.func80 rfl rfl (by kernel_rfl) H
end z347
namespace z124
def ann : Ann := (.seq 1 (rg 1 1) (.seq 9 (rg 1 9) (.seq 8 (.seq 456 (rg 3 456) (.block (.loop 456 (.seq 968 (rg 1 968) (.seq 456 (.cond .leaf (.exit 8)) (.seq 456 (.block (.seq 488 (rg 3 488) (.seq 16872 (rg 3 16872) (.cond (.seq 4 (rg 2 4) (.exit 4)) .leaf)))) (rg 2 456))))))) (.seq 4 (rg 2 4) (.exit 4)))))
noncomputable abbrev cd (n : Nat) : Code := sub (bodyOf Tryz.f81) (pth n)
abbrev an (n : Nat) : Ann := subA ann (pth n)
@[irreducible] def Xret (t2 : Int) : Fr := (mkFr 0 18 [(2, .int .i64 t2)])
@[irreducible] def X0 (zero3 : Int) : Fr := (mkFr 0 18 [(3, .int .i64 zero3)])
@[irreducible] def L1 (zero3 : Int) (t6 : OA) (t6n t6c : Nat) (t7 t8 : Int) (K : EP) (h : Heap) : Prop := Lp PP true (cd 116) (mkFr 0 18 [(3, .int .i64 zero3), (6, (.slice t6 t6n t6c)), (7, .int .i64 t7), (8, .int .i64 t8)]) K h
@[irreducible] def K2 (Q : VP) : EP := seqK (fun fr h => ev PP true none (cd 15) (an 15) (fr.mask 8) (bodyK PP Tryz.f81 Q) h) (bodyK PP Tryz.f81 Q)
@[irreducible] def K1 (Q : VP) : EP := blockK 0 (K2 Q)
theorem L1_of {zero3 : Int} {t6 : OA} {t6n t6c : Nat} {t7 t8 : Int} {K : EP} {h : Heap} (H :
let t9 : Bool := decide (t8 < t7)
br t9 (
hwp PP (Instr.indexAt T_sl_int (.slice t6 t6n t6c) (.int .i64 t8)) (fun v h1 => ∃ (t10 : Addr), v = (.pointer (some t10)) ∧
∃ (t11 : Int), cellH h1 t10 = some (.int .i64 t11) ∧
let t14 : Bool := (t11 != zero3)
br t14 (
K .ret (Xret t11) h1) (
let t16 : Int := IntKind.i64.wrap (t8 + 1)
L1 zero3 t6 t6n t6c t7 t16 K h1)) h) (
K (.exit 0) (X0 zero3) h)) : L1 zero3 t6 t6n t6c t7 t8 K h := by unfold L1; exact Lp.of_txt (an 116) 456 (by kernel_rfl) H
theorem L1_Xret {Q : VP} {t2 : Int} {h : Heap} (H :
Q (.int .i64 t2) h) : (K1 Q) .ret (Xret t2) h := of_eq_txt (by kernel_rfl) H
theorem L1_X0 {Q : VP} {zero3 : Int} {h : Heap} (H :
Q (.int .i64 zero3) h) : (K1 Q) (.exit 0) (X0 zero3) h := of_eq_txt (by kernel_rfl) H
theorem door {vals0 : OA} {vals0n vals0c : Nat} {Q : VP} {h : Heap} (H :
L1 0 vals0 vals0n vals0c (vals0n : Int) 0 (K1 Q) h) : SpecH PP z125 [(.slice vals0 vals0n vals0c)] h Q :=
  spec_of_txt (ann := ann) Tryz.func81 rfl rfl (by kernel_rfl) H
end z124
namespace z120
def ann : Ann := (.seq 3 (rg 1 3) (.seq 35 (rg 3 35) (.seq 99 (rg 3 99) (.seq 67 (.seq 2115 (rg 1 2115) (.cond (.seq 0 (.seq 4096 (rg 1 4096) (.cond (.seq 16 (rg 1 16) (.exit 16)) .leaf)) (.seq 16 (rg 1 16) (.exit 16))) .leaf)) (.seq 3 (.seq 8195 (rg 1 8195) (.cond (.seq 16 (rg 1 16) (.exit 16)) .leaf)) (.seq 3 (.seq 65539 (rg 3 65539) (.cond (.seq 16 (rg 1 16) (.exit 16)) .leaf)) (.seq 0 (.seq 524288 (rg 3 524288) (.cond (.seq 16 (rg 1 16) (.exit 16)) .leaf)) (.seq 16 (rg 1 16) (.exit 16)))))))))
theorem door {x0 y1 : ByteArray} {Q : VP} {h : Heap} (H :
∃ v, PureAt PP z127 [.string x0] v ∧
∃ (t8 : Bool), v = (.bool t8) ∧
∃ v_1, PureAt PP z127 [.string y1] v_1 ∧
∃ (t10 : Bool), v_1 = (.bool t10) ∧
br t8 (
br t10 (
Q (.int .i64 0) h) (
Q (.int .i64 (-1)) h)) (
br t10 (
Q (.int .i64 1) h) (
let t16 : Bool := strLt x0 y1
br t16 (
Q (.int .i64 (-1)) h) (
let t19 : Bool := (!(strLt x0 y1 || decide (x0 = y1)))
br t19 (
Q (.int .i64 1) h) (
Q (.int .i64 0) h))))) : SpecH PP z121 [.string x0, .string y1] h Q :=
  spec_of_txt (ann := ann) Tryz.func82 rfl rfl (by kernel_rfl) H
end z120
namespace z178
def ann : Ann := (.seq 3 (rg 1 3) (.seq 16 (rg 5 16) (.exit 16)))
theorem door {s0 : OA} {s0n s0c : Nat} {f1 : Value} {Q : VP} {h : Heap} (H :
SpecH PP z191 [(.slice s0 s0n s0c), f1] h (fun v h1 => ∃ (t7 : Int), v = (.int .i64 t7) ∧
let t8 : Bool := decide (t7 ≥ 0)
Q (.bool t8) h1)) : SpecH PP z179 [(.slice s0 s0n s0c), f1] h Q :=
  spec_of_txt (ann := ann) Tryz.func83 rfl rfl (by kernel_rfl) H
end z178
namespace z333
def ann : Ann := (.seq 6 (rg 2 6) (.seq 8 (rg 22 8) (.exit 8)))
theorem door {w0f0 w0f1 w0f2 : ByteArray} {w0f3 : Bool} {w0f4 : ByteArray} {t1 : Addr} {Q : VP} {h : Heap} (H :
let w2 : Addr := ⟨Array.size h, 0, none⟩
let h1 : Heap := Array.push h (.cells #[.string w0f0, .string w0f1, .string w0f2, .bool w0f3, .string w0f4] y17 (0, 0))
∃ (t4 : OA), cellH h1 t1 = some (.pointer t4) ∧
nilc t4 (fun t5 =>
∃ (t7 : ON), cellH h1 (Addr.add t5 1) = some (.map t7) ∧
∃ (t9f0 t9f1 t9f2 : ByteArray), rdCells h1 w2 0 [.string t9f0, .string t9f1, .string t9f2] ∧
hwp PP (Instr.lookup y82 (.map t7) (.agg #[.string t9f0, .string t9f1, .string t9f2]) false) (fun v h2 => ∃ (t10 : Bool), v = (.bool t10) ∧
br t10 (
Q (.bool true) h2) (
∃ (t12 : OA), cellH h2 t1 = some (.pointer t12) ∧
nilc t12 (fun t13 =>
∃ (t15 : ON), cellH h2 (Addr.add t13 2) = some (.map t15) ∧
∃ (t18 : ByteArray), cellH h2 w2 = some (.string t18) ∧
∃ (t21 : ByteArray), cellH h2 (Addr.add w2 1) = some (.string t21) ∧
hwp PP (Instr.lookup y83 (.map t15) (.agg #[.string t18, .string t21]) false) (fun v_1 h3 => ∃ (t23 : Bool), v_1 = (.bool t23) ∧
Q (.bool t23) h3) h2))) h1)) : SpecH PP z334 [(.agg #[.string w0f0, .string w0f1, .string w0f2, .bool w0f3, .string w0f4]), (.pointer (some t1))] h Q :=
  spec_of_txt (ann := ann) Tryz.func84 rfl rfl (by kernel_rfl) H
end z333
namespace z100
def ann : Ann := (.seq 21 (rg 3 21) (.seq 21 (.seq 2069 (rg 2 2069) (.cond (.seq 192 (rg 2 192) (.exit 192)) .leaf)) (.seq 261 (rg 7 261) (.seq 768 (rg 5 768) (.seq 768 (.seq 4294968064 (rg 11 4294968064) (.join (.cond (.seq 192 (rg 2 192) (.exit 192)) .leaf))) (.seq 192 (rg 8 192) (.exit 192)))))))
noncomputable abbrev cd (n : Nat) : Code := sub (bodyOf Tryz.f85) (pth n)
abbrev an (n : Nat) : Ann := subA ann (pth n)
@[irreducible] def K1 (Q : VP) : EP := seqK (fun fr h => ev PP true none (cd 63) (an 63) (fr.mask 768) (bodyK PP Tryz.f85 Q) h) (bodyK PP Tryz.f85 Q)
@[irreducible] def J1 (xl8 : OA) (xl8n xl8c : Nat) (xn9 : Int) (t32 : Bool) (Q : VP) (h : Heap) : Prop := Jn PP true (cd 125) (mkFr 0 39 [(8, (.slice xl8 xl8n xl8c)), (9, .int .i64 xn9), (32, .bool t32)]) (K1 Q) h
theorem J1_of {xl8 : OA} {xl8n xl8c : Nat} {xn9 : Int} {t32 : Bool} {Q : VP} {h : Heap} (H :
br t32 (
Q (.tuple #[(.string (⟨#[]⟩ : ByteArray)), .bool false]) h) (
let t35 : Int := IntKind.i64.wrap (xn9 - 1)
hwp PP (Instr.indexAt y15 (.slice xl8 xl8n xl8c) (.int .i64 t35)) (fun v h1 => ∃ (t36 : Addr), v = (.pointer (some t36)) ∧
∃ (t38 : ByteArray), cellH h1 (Addr.add t36 2) = some (.string t38) ∧
Q (.tuple #[.string t38, .bool true]) h1) h)) : J1 xl8 xl8n xl8c xn9 t32 Q h := by unfold J1; exact Jn.of_txt (an 125) (by kernel_rfl) H
theorem door {s0 : OA} {k1f0 k1f1 k1f2 : ByteArray} {at2 : Int} {Q : VP} {h : Heap} (H :
let k4 : Addr := ⟨Array.size h, 0, none⟩
let h1 : Heap := Array.push h (.cells #[.string k1f0, .string k1f1, .string k1f2] y16 (0, 0))
let t11 : Bool := (Option.isNone s0)
br t11 (
Q (.tuple #[(.string (⟨#[]⟩ : ByteArray)), .bool false]) h1) (
nilc s0 (fun t13 =>
∃ (t15 : ON), cellH h1 t13 = some (.map t15) ∧
∃ (t16f0 t16f1 t16f2 : ByteArray), rdCells h1 k4 0 [.string t16f0, .string t16f1, .string t16f2] ∧
hwp PP (Instr.lookup y13 (.map t15) (.agg #[.string t16f0, .string t16f1, .string t16f2]) false) (fun v h2 => ∃ (t17 : OA) (t17n t17c : Nat), v = (.slice t17 t17n t17c) ∧
SpecH PP z117 [.pointer s0, (.slice t17 t17n t17c), .int .i64 at2] h2 (fun v_1 h3 => ∃ (t21 : Int), v_1 = (.int .i64 t21) ∧
let t23 : Bool := (t21 == 0)
br t23 (
J1 t17 t17n t17c t21 true Q h3) (
let t27 : Int := IntKind.i64.wrap (t21 - 1)
hwp PP (Instr.indexAt y15 (.slice t17 t17n t17c) (.int .i64 t27)) (fun v_2 h4 => ∃ (t28 : Addr), v_2 = (.pointer (some t28)) ∧
∃ (t30 : Bool), cellH h4 (Addr.add t28 1) = some (.bool t30) ∧
let t31 : Bool := (!t30)
J1 t17 t17n t17c t21 t31 Q h4) h3))) h1))) : SpecH PP z101 [.pointer s0, (.agg #[.string k1f0, .string k1f1, .string k1f2]), .int .i64 at2] h Q :=
  spec_of_txt (ann := ann) Tryz.func85 rfl rfl (by kernel_rfl) H
end z100
namespace z184
def ann : Ann := (.seq 3 (rg 1 3) (.seq 16 (rg 5 16) (.exit 16)))
theorem door {s0 : OA} {s0n s0c : Nat} {f1 : Value} {Q : VP} {h : Heap} (H :
SpecH PP z195 [(.slice s0 s0n s0c), f1] h (fun v h1 => ∃ (t7 : Int), v = (.int .i64 t7) ∧
let t8 : Bool := decide (t7 ≥ 0)
Q (.bool t8) h1)) : SpecH PP z185 [(.slice s0 s0n s0c), f1] h Q :=
  spec_of_txt (ann := ann) Tryz.func86 rfl rfl (by kernel_rfl) H
end z184
namespace z306
def ann : Ann := (.seq 1 (rg 1 1) (.seq 4 (rg 4 4) (.exit 4)))
theorem door {s0 : ByteArray} {Q : VP} {h : Heap} (H :
SpecH PP z350 [.string s0] h (fun v h1 => ∃ (t4 : Bool), v = (.bool t4) ∧
let t5 : Bool := (!t4)
Q (.bool t5) h1)) : SpecH PP z307 [.string s0] h Q :=
  spec_of_txt (ann := ann) Tryz.func87 rfl rfl (by kernel_rfl) H
end z306
namespace z349
def ann : Ann := (.seq 5 (rg 1 5) (.seq 5 (.seq 1029 (rg 7 1029) (.join (.cond (.seq 4 (rg 1 4) (.exit 4)) .leaf))) (.seq 5 (.seq 4101 (rg 2 4101) (.block (.range 5 (rg 1 12) (.block (.seq 8388612 (rg 10 8388612) (.join (.cond (.seq 0 (rg 1 0) (.exit 0)) .leaf))))))) (.seq 4 (rg 4 4) (.exit 4)))))
noncomputable abbrev cd (n : Nat) : Code := sub (bodyOf Tryz.f88) (pth n)
abbrev an (n : Nat) : Ann := subA ann (pth n)
@[irreducible] def K1 (Q : VP) : EP := seqK (fun fr h => ev PP true none (cd 7) (an 7) (fr.mask 5) (bodyKR PP Tryz.f88 Q) h) (bodyKR PP Tryz.f88 Q)
@[irreducible] def J1 (s0 : ByteArray) (t2 : Addr) (t10 : Bool) (Q : VP) (h : Heap) : Prop := Jn PP true (cd 13) (mkFr 0 27 [(0, .string s0), (2, (.pointer (some t2))), (10, .bool t10)]) (K1 Q) h
@[irreducible] def K3 (Q : VP) : EP := seqK (fun fr h => ev PP true none (cd 15) (an 15) (fr.mask 5) (bodyKR PP Tryz.f88 Q) h) (bodyKR PP Tryz.f88 Q)
@[irreducible] def K2 (Q : VP) : EP := blockK 0 (K3 Q)
@[irreducible] def R1 (s0 : ByteArray) (t2 : Addr) (t13 : ByteArray) (l : Nat) (K : VP) (h : Heap) : Prop := ev PP false none (cd 116) (an 116) (setAll (mkFr 0 27 [(0, .string s0), (2, (.pointer (some t2)))]) [(13, .string t13)]) (roundK PP l (cd 117) (an 117) 12 K) h
@[irreducible] def K4 (l : Nat) (K : VP) : EP := blockK 1 (roundEnd l K)
@[irreducible] def J2 (t2 : Addr) (t23 : Bool) (l : Nat) (K : VP) (h : Heap) : Prop := Jn PP false (cd 469) (mkFr 0 27 [(2, (.pointer (some t2))), (23, .bool t23)]) (K4 l K) h
theorem J1_of {s0 : ByteArray} {t2 : Addr} {t10 : Bool} {Q : VP} {h : Heap} (H :
br t10 (
wr t2 (.bool false) (fun h1 =>
∃ (t2_1 : Bool), cellH h1 t2 = some (.bool t2_1) ∧
∀ h2, Takes h1 h2 → Q (.bool t2_1) h2) h) (
SpecH PP z269 [.string s0, (.string (⟨#[47]⟩ : ByteArray))] h (fun v h3 => ∃ (t12 : Value), v = t12 ∧
rangeK PP t12 #[13] (cd 116) (cd 117) (mkFr 0 27 [(0, .string s0), (2, (.pointer (some t2)))]) (K2 Q) h3))) : J1 s0 t2 t10 Q h := by unfold J1; exact Jn.of_txt (an 13) (by kernel_rfl) H
theorem R1_of {s0 : ByteArray} {t2 : Addr} {t13 : ByteArray} {l : Nat} {K : VP} {h : Heap} (H :
∃ xL : Loop, h[l]? = some (.loop xL) ∧ xL.state = .ready ∧
let h1 : Heap := h.setIfInBounds l (.loop { xL with state := .busy })
let t15 : Bool := decide (t13 = (⟨#[]⟩ : ByteArray))
br t15 (
J2 t2 true l K h1) (
let t18 : Bool := decide (t13 = (⟨#[46]⟩ : ByteArray))
br t18 (
J2 t2 true l K h1) (
let t22 : Bool := decide (t13 = (⟨#[46, 46]⟩ : ByteArray))
J2 t2 t22 l K h1))) : R1 s0 t2 t13 l K h := of_eq_txt (by kernel_rfl) H
theorem R1_yield {s0 : ByteArray} {t2 : Addr} {t13 : ByteArray} {l : Nat} {K : VP} {h : Heap} {L : Loop} (hl : h[l]? = some (.loop L)) (hp : L.params = #[13]) (ha : L.assign = (cd 116)) (hb : L.body = (cd 117)) (hf : FrRel (mkFr 0 27 [(0, .string s0), (2, (.pointer (some t2)))]) L.tmps) (H : R1 s0 t2 t13 l K h) : callV PP (.func (.yield l) #[] #[]) [.string t13] K h := by
  unfold R1 at H
  refine yield_ok (ann := an 116) (annB := an 117) (m := 12) hl (by rw [hp]; rfl) hf ?_
  rw [ha, hb, hp]; exact H
theorem R1_outn0 {Q : VP} {s0 : ByteArray} {t2 : Addr} {h : Heap} (H :
SpecH PP z265 [.string s0, (.func (.func z352) #[] #[])] h (fun v h1 => ∃ (t25 : Int), v = (.int .i64 t25) ∧
let t26 : Bool := decide (t25 < 0)
wr t2 (.bool t26) (fun h2 =>
∃ (t2_1 : Bool), cellH h2 t2 = some (.bool t2_1) ∧
∀ h3, Takes h2 h3 → Q (.bool t2_1) h3) h1)) : (K2 Q) .normal (mkFr 0 27 [(0, .string s0), (2, (.pointer (some t2)))]) h := of_eq_txt (by kernel_rfl) H
theorem R1_outret {Q : VP} {s0 : ByteArray} {t2 : Addr} {h : Heap} (H :
∃ (t2_1 : Bool), cellH h t2 = some (.bool t2_1) ∧
∀ h1, Takes h h1 → Q (.bool t2_1) h1) : (K2 Q) .ret (mkFr 0 27 [(0, .string s0), (2, (.pointer (some t2)))]) h := of_eq_txt (by kernel_rfl) H
theorem J2_of {t2 : Addr} {t23 : Bool} {l : Nat} {K : VP} {h : Heap} (H :
br t23 (
wr t2 (.bool false) (fun h1 =>
∃ xL, h1[l]? = some (.loop xL) ∧ K (.bool false) (h1.setIfInBounds l (endL xL (some .ret)))) h) (
∃ xL_1, h[l]? = some (.loop xL_1) ∧ K (.bool true) (h.setIfInBounds l (endL xL_1 none)))) : J2 t2 t23 l K h := by unfold J2; exact Jn.of_txt (an 469) (by kernel_rfl) H
theorem door {s0 : ByteArray} {Q : VP} {h : Heap} (H :
let t2 : Addr := ⟨Array.size h, 0, none⟩
let h1 : Heap := Array.push h (.cells #[.bool false] T_bool (0, 0))
let t5 : Bool := decide (s0 = (⟨#[]⟩ : ByteArray))
br t5 (
J1 s0 t2 true Q h1) (
let t8 : Int := (ByteArray.size s0 : Int)
let t9 : Bool := decide (t8 > 64)
J1 s0 t2 t9 Q h1)) : SpecH PP z350 [.string s0] h Q :=
  spec_of_txtR (ann := ann) Tryz.func88 rfl (by kernel_rfl) H
end z349
namespace z339
def ann : Ann := (.seq 25 (rg 3 25) (.seq 25 (.seq 537 (rg 2 537) (.cond (.seq 48 (rg 3 48) (.exit 48)) .leaf)) (.seq 208 (.tree (.run [0, 1, 2, 3, 4] (.alt 5 (.run [6, 7, 8, 9, 10, 11] .done) (.alt 9 (.run [5, 6, 7, 8, 10, 11] .done) .nil))) 208) (.join (.seq 48 (rg 4 48) (.exit 48))))))
noncomputable abbrev cd (n : Nat) : Code := sub (bodyOf Tryz.f89) (pth n)
abbrev an (n : Nat) : Ann := subA ann (pth n)
@[irreducible] def J1 (t4 w6 : Addr) (ok7 : Bool) (Q : VP) (h : Heap) : Prop := Jn PP true (cd 15) (mkFr 0 22 [(4, (.pointer (some t4))), (6, (.pointer (some w6))), (7, .bool ok7)]) (bodyK PP Tryz.f89 Q) h
theorem J1_of {t4 w6 : Addr} {ok7 : Bool} {Q : VP} {h : Heap} (H :
∃ (t20f0 t20f1 t20f2 : ByteArray) (t20f3 : Bool) (t20f4 : ByteArray), rdCells h w6 0 [.string t20f0, .string t20f1, .string t20f2, .bool t20f3, .string t20f4] ∧
wrCells t4 0 [.string t20f0, .string t20f1, .string t20f2, .bool t20f3, .string t20f4] (fun h1 =>
∃ (t4_1f0 t4_1f1 t4_1f2 : ByteArray) (t4_1f3 : Bool) (t4_1f4 : ByteArray), rdCells h1 t4 0 [.string t4_1f0, .string t4_1f1, .string t4_1f2, .bool t4_1f3, .string t4_1f4] ∧
Q (.tuple #[(.agg #[.string t4_1f0, .string t4_1f1, .string t4_1f2, .bool t4_1f3, .string t4_1f4]), .bool ok7]) h1) h) : J1 t4 w6 ok7 Q h := by unfold J1; exact Jn.of_txt (an 15) (by kernel_rfl) H
theorem door {s0 : OA} {k1f0 k1f1 k1f2 : ByteArray} {Q : VP} {h : Heap} (H :
let k3 : Addr := ⟨Array.size h, 0, none⟩
let h1 : Heap := Array.push h (.cells #[.string k1f0, .string k1f1, .string k1f2] y16 (0, 0))
let t4 : Addr := ⟨Array.size h1, 0, none⟩
let h2 : Heap := Array.push h1 (.cells #[(.string (⟨#[]⟩ : ByteArray)), (.string (⟨#[]⟩ : ByteArray)), (.string (⟨#[]⟩ : ByteArray)), .bool false, (.string (⟨#[]⟩ : ByteArray))] y17 (0, 0))
let t9 : Bool := (Option.isNone s0)
br t9 (
wrCells t4 0 [(.string (⟨#[]⟩ : ByteArray)), (.string (⟨#[]⟩ : ByteArray)), (.string (⟨#[]⟩ : ByteArray)), .bool false, (.string (⟨#[]⟩ : ByteArray))] (fun h3 =>
∃ (t4_1f0 t4_1f1 t4_1f2 : ByteArray) (t4_1f3 : Bool) (t4_1f4 : ByteArray), rdCells h3 t4 0 [.string t4_1f0, .string t4_1f1, .string t4_1f2, .bool t4_1f3, .string t4_1f4] ∧
Q (.tuple #[(.agg #[.string t4_1f0, .string t4_1f1, .string t4_1f2, .bool t4_1f3, .string t4_1f4]), .bool false]) h3) h2) (
nilc s0 (fun t13 =>
∃ (t15 : ON), cellH h2 (Addr.add t13 3) = some (.map t15) ∧
∃ (t16f0 t16f1 t16f2 : ByteArray), rdCells h2 k3 0 [.string t16f0, .string t16f1, .string t16f2] ∧
(
hwp PP (Instr.lookup y24 (.map t15) (.agg #[.string t16f0, .string t16f1, .string t16f2]) true) (fun v_1 h7 => ∃ (t17_2f0 t17_2f1 t17_2f2 : ByteArray) (t17_2f3 : Bool) (t17_2f4 : ByteArray) (t17_3 : Bool), v_1 = (.tuple #[(.agg #[.string t17_2f0, .string t17_2f1, .string t17_2f2, .bool t17_2f3, .string t17_2f4]), .bool t17_3]) ∧
let w6_1 : Addr := ⟨Array.size h7, 0, none⟩
let h8 : Heap := Array.push h7 (.cells #[(.string (⟨#[]⟩ : ByteArray)), (.string (⟨#[]⟩ : ByteArray)), (.string (⟨#[]⟩ : ByteArray)), .bool false, (.string (⟨#[]⟩ : ByteArray))] y17 (0, 0))
wrCells w6_1 0 [.string t17_2f0, .string t17_2f1, .string t17_2f2, .bool t17_2f3, .string t17_2f4] (fun h9 =>
J1 t4 w6_1 t17_3 Q h9) h8) h2) ∧
(
let w6 : Addr := ⟨Array.size h2, 0, none⟩
let h4 : Heap := Array.push h2 (.cells #[(.string (⟨#[]⟩ : ByteArray)), (.string (⟨#[]⟩ : ByteArray)), (.string (⟨#[]⟩ : ByteArray)), .bool false, (.string (⟨#[]⟩ : ByteArray))] y17 (0, 0))
hwp PP (Instr.lookup y24 (.map t15) (.agg #[.string t16f0, .string t16f1, .string t16f2]) true) (fun v h5 => ∃ (t17f0 t17f1 t17f2 : ByteArray) (t17f3 : Bool) (t17f4 : ByteArray) (t17_1 : Bool), v = (.tuple #[(.agg #[.string t17f0, .string t17f1, .string t17f2, .bool t17f3, .string t17f4]), .bool t17_1]) ∧
wrCells w6 0 [.string t17f0, .string t17f1, .string t17f2, .bool t17f3, .string t17f4] (fun h6 =>
J1 t4 w6 t17_1 Q h6) h5) h4) ∧
True))) : SpecH PP z340 [.pointer s0, (.agg #[.string k1f0, .string k1f1, .string k1f2])] h Q :=
  spec_of_txt (ann := ann) Tryz.func89 rfl rfl (by kernel_rfl) H
end z339
namespace z112
def ann : Ann := (.seq 7 (rg 1 7) (.seq 135 (rg 1 135) (.seq 135 (.seq 4231 (rg 2 4231) (.cond (.seq 64 (rg 2 64) (.exit 64)) .leaf)) (.seq 128 (.seq 262279 (rg 5 262279) (.block (.loop 262279 (.seq 1310855 (rg 2 1310855) (.seq 262279 (.cond .leaf (.exit 128)) (.block (.seq 262535 (rg 4 262535) (.seq 263559 (rg 9 263559) (.seq 34360000903 (rg 6 34360000903) (.join (.cond (rg 5 262279) .leaf))))))))))) (.seq 128 (rg 2 128) (.seq 64 (rg 2 64) (.exit 64)))))))
noncomputable abbrev cd (n : Nat) : Code := sub (bodyOf Tryz.f90) (pth n)
abbrev an (n : Nat) : Ann := subA ann (pth n)
@[irreducible] def X0 (out7 : OA) (out7n out7c : Nat) : Fr := (mkFr 0 43 [(7, (.slice out7 out7n out7c))])
@[irreducible] def L1 (s0 : OA) (at1 : Int) (y80 : Value) (out7 : OA) (out7n out7c : Nat) (t18 : Value) (K : EP) (h : Heap) : Prop := Lp PP true (cd 244) (mkFr 0 43 [(0, .pointer s0), (1, .int .i64 at1), (2, y80), (7, (.slice out7 out7n out7c)), (18, t18)]) K h
@[irreducible] def B1 (K : EP) : EP := seqK (fun fr h => Lp PP true (cd 244) (fr.mask 262279) K h) K
@[irreducible] def K2 (K : EP) : EP := blockK 1 (B1 K)
@[irreducible] def J1 (s0 : OA) (at1 : Int) (y80 : Value) (out7 : OA) (out7n out7c : Nat) (k8 : Addr) (t18 : Value) (t35 : Bool) (K : EP) (h : Heap) : Prop := Jn PP true (cd 15671) (mkFr 0 43 [(0, .pointer s0), (1, .int .i64 at1), (2, y80), (7, (.slice out7 out7n out7c)), (8, (.pointer (some k8))), (18, t18), (35, .bool t35)]) (K2 K) h
@[irreducible] def K3 (Q : VP) : EP := seqK (fun fr h => ev PP true none (cd 31) (an 31) (fr.mask 128) (bodyK PP Tryz.f90 Q) h) (bodyK PP Tryz.f90 Q)
@[irreducible] def K1 (Q : VP) : EP := blockK 0 (K3 Q)
theorem L1_of {s0 : OA} {at1 : Int} {y80 : Value} {out7 : OA} {out7n out7c : Nat} {t18 : Value} {K : EP} {h : Heap} (H :
hwp PP (Instr.next t18 false T_) (fun v h1 => ∃ (b : Bool) (r : List Value), v = .tuple ((.bool b :: r).toArray) ∧
br b (
hwp PP (Instr.entry t18) (fun v_1 h2 => ∃ (t21 t21_1 : Value), v_1 = (.tuple #[t21, t21_1]) ∧
∃ (t22f0 t22f1 t22f2 : ByteArray), t21 = (.agg #[.string t22f0, .string t22f1, .string t22f2]) ∧
let k8 : Addr := ⟨Array.size h2, 0, none⟩
let h3 : Heap := Array.push h2 (.cells #[(.string (⟨#[]⟩ : ByteArray)), (.string (⟨#[]⟩ : ByteArray)), (.string (⟨#[]⟩ : ByteArray))] y16 (0, 0))
wrCells k8 0 [.string t22f0, .string t22f1, .string t22f2] (fun h4 =>
∃ (t25f0 t25f1 t25f2 : ByteArray), rdCells h4 k8 0 [.string t25f0, .string t25f1, .string t25f2] ∧
SpecH PP z101 [.pointer s0, (.agg #[.string t25f0, .string t25f1, .string t25f2]), .int .i64 at1] h4 (fun v_2 h5 => ∃ (t27 : ByteArray) (t27_1 : Bool), v_2 = (.tuple #[.string t27, .bool t27_1]) ∧
br t27_1 (
∃ (t33f0 t33f1 t33f2 : ByteArray), rdCells h5 k8 0 [.string t33f0, .string t33f1, .string t33f2] ∧
callV PP y80 [(.agg #[.string t33f0, .string t33f1, .string t33f2])] (fun v_3 h6 => ∃ (t34 : Bool), v_3 = (.bool t34) ∧
J1 s0 at1 y80 out7 out7n out7c k8 t18 t34 K h6) h5) (
J1 s0 at1 y80 out7 out7n out7c k8 t18 false K h5))) h3) h1) (
K (.exit 0) (X0 out7 out7n out7c) h1)) h) : L1 s0 at1 y80 out7 out7n out7c t18 K h := by unfold L1; exact Lp.of_txt (an 244) 262279 (by kernel_rfl) H
theorem L1_X0 {Q : VP} {out7 : OA} {out7n out7c : Nat} {h : Heap} (H :
SpecH PP z197 [(.slice out7 out7n out7c), (.func (.func z115) #[] #[])] h (fun v h1 => v = (.tuple #[]) ∧
Q (.slice out7 out7n out7c) h1)) : (K1 Q) (.exit 0) (X0 out7 out7n out7c) h := of_eq_txt (by kernel_rfl) H
theorem J1_of {s0 : OA} {at1 : Int} {y80 : Value} {out7 : OA} {out7n out7c : Nat} {k8 : Addr} {t18 : Value} {t35 : Bool} {K : EP} {h : Heap} (H :
br t35 (
∃ (t37f0 t37f1 t37f2 : ByteArray), rdCells h k8 0 [.string t37f0, .string t37f1, .string t37f2] ∧
let h1 : Heap := Array.push h (.cells #[.string t37f0, .string t37f1, .string t37f2] y16 (0, 0))
hwp PP (Builtin.append_ #[y11, y11] y11 #[(.slice out7 out7n out7c), (.slice (some ⟨Array.size h, 0, none⟩) 1 1)]) (fun v h2 => ∃ (t39 : OA) (t39n t39c : Nat), v = (.slice t39 t39n t39c) ∧
L1 s0 at1 y80 t39 t39n t39c t18 K h2) h1) (
L1 s0 at1 y80 out7 out7n out7c t18 K h)) : J1 s0 at1 y80 out7 out7n out7c k8 t18 t35 K h := by unfold J1; exact Jn.of_txt (an 15671) (by kernel_rfl) H
theorem door {s0 : OA} {at1 : Int} {y80 : Value} {Q : VP} {h : Heap} (H :
let t12 : Bool := (Option.isNone s0)
br t12 (
Q (.slice none 0 0) h) (
nilc s0 (fun t15 =>
∃ (t17 : ON), cellH h t15 = some (.map t17) ∧
hwp PP (Instr.range y13 (.map t17)) (fun v h1 => ∃ (t18 : Value), v = t18 ∧
L1 s0 at1 y80 none 0 0 t18 (K1 Q) h1) h))) : SpecH PP z113 [.pointer s0, .int .i64 at1, y80] h Q :=
  spec_of_txt (ann := ann) Tryz.func90 rfl rfl (by kernel_rfl) H
end z112
namespace z98
def ann : Ann := (.seq 0 (rg 2 0) (.seq 4 (rg 1 4) (.exit 4)))
theorem door {t0f0 t0f1 t0f2 : ByteArray} {Q : VP} {h : Heap} (H :
let t1 : Addr := ⟨Array.size h, 0, none⟩
let h1 : Heap := Array.push h (.cells #[.string t0f0, .string t0f1, .string t0f2] y16 (0, 0))
Q (.bool true) h1) : SpecH PP z99 [(.agg #[.string t0f0, .string t0f1, .string t0f2])] h Q :=
  spec_of_txt (ann := ann) Tryz.func91 rfl rfl (by kernel_rfl) H
end z98
namespace z168
end z168
namespace z316
def ann : Ann := (.seq 13 (.seq 29360141 (.tree (.run [5, 6, 7, 8, 13] (.alt 0 (.run [1, 2] (.alt 3 (.alt 4 (.run [9, 10, 11, 12] .done) (.alt 9 (.run [4, 10, 11, 12] .done) .nil)) (.alt 4 (.alt 3 (.run [9, 10, 11, 12] .done) (.alt 9 (.run [3, 10, 11, 12] .done) .nil)) (.alt 9 (.run [3, 4, 10, 11, 12] .done) .nil)))) (.alt 4 (.alt 0 (.run [1, 2] (.alt 3 (.run [9, 10, 11, 12] .done) (.alt 9 (.run [3, 10, 11, 12] .done) .nil))) (.alt 9 (.run [0, 1, 2, 3, 10, 11, 12] .done) .nil)) (.alt 9 (.run [0, 1, 2, 3, 4, 10, 11, 12] .done) .nil)))) 29360141) (.join (.block (.loop 29360141 (.seq 62914573 (rg 1 62914573) (.seq 29360141 (.cond .leaf (.exit 13)) (.seq 29360141 (.block (.seq 29360205 (rg 3 29360205) (.seq 29360461 (.tree (.run [0, 1, 2, 3, 4, 5, 6, 7, 8, 9] (.alt 10 (.run [11, 12, 13, 14, 15, 16] .done) (.alt 14 (.run [10, 11, 12, 13, 15, 16] .done) .nil))) 29360461) (.join (.seq 562949982781453 (rg 8 562949982781453) (.cond (.exit 0) .leaf)))))) (.join (rg 2 29360141))))))))) (.seq 252201579132747781 (rg 7 252201579132747781) (.block (.loop 252201579132747781 (.seq 540431955284459525 (rg 1 540431955284459525) (.seq 252201579132747781 (.cond .leaf (.exit 0)) (.seq 252201579132747781 (.block (.seq 252201579132748805 (rg 4 252201579132748805) (.seq 302231707105236426424325 (rg 18 302231707105236426424325) (.cond (.exit 0) .leaf)))) (.join (rg 2 252201579132747781)))))))))
noncomputable abbrev cd (n : Nat) : Code := sub (bodyOf Tryz.f106) (pth n)
abbrev an (n : Nat) : Ann := subA ann (pth n)
@[irreducible] def X0 (y26 : Value) (t2 t3 : Addr) : Fr := (mkFr 0 80 [(0, y26), (2, (.pointer (some t2))), (3, (.pointer (some t3)))])
@[irreducible] def Xret  : Fr := (mkFr 0 80 [])
@[irreducible] def X2  : Fr := (mkFr 0 80 [])
@[irreducible] def K1 (Q : VP) : EP := seqK (fun fr h => ev PP true none (cd 3) (an 3) (fr.mask 13) (bodyK PP Tryz.f106 Q) h) (bodyK PP Tryz.f106 Q)
@[irreducible] def J1 (y26 : Value) (t2 t3 : Addr) (t22 : OA) (t22n t22c : Nat) (t23 t24 : Int) (Q : VP) (h : Heap) : Prop := Jn PP true (cd 5) (mkFr 0 80 [(0, y26), (2, (.pointer (some t2))), (3, (.pointer (some t3))), (22, (.slice t22 t22n t22c)), (23, .int .i64 t23), (24, .int .i64 t24)]) (K1 Q) h
@[irreducible] def K2 (Q : VP) : EP := blockK 0 (K1 Q)
@[irreducible] def L1 (y26 : Value) (t2 t3 : Addr) (t22 : OA) (t22n t22c : Nat) (t23 t24 : Int) (K : EP) (h : Heap) : Prop := Lp PP true (cd 20) (mkFr 0 80 [(0, y26), (2, (.pointer (some t2))), (3, (.pointer (some t3))), (22, (.slice t22 t22n t22c)), (23, .int .i64 t23), (24, .int .i64 t24)]) K h
@[irreducible] def B1 (K : EP) : EP := seqK (fun fr h => Lp PP true (cd 20) (fr.mask 29360141) K h) K
@[irreducible] def K5 (K : EP) : EP := seqK (fun fr h => Jn PP true (cd 167) (fr.mask 29360141) (B1 K) h) (B1 K)
@[irreducible] def K4 (K : EP) : EP := blockK 1 (K5 K)
@[irreducible] def J2 (y26 : Value) (t2 t3 : Addr) (s6 : ByteArray) (own8 : Bool) (t22 : OA) (t22n t22c : Nat) (t23 t24 : Int) (K : EP) (h : Heap) : Prop := Jn PP true (cd 1331) (mkFr 0 80 [(0, y26), (2, (.pointer (some t2))), (3, (.pointer (some t3))), (6, .string s6), (8, .bool own8), (22, (.slice t22 t22n t22c)), (23, .int .i64 t23), (24, .int .i64 t24)]) (K4 K) h
@[irreducible] def K3 (Q : VP) : EP := blockK 2 (bodyK PP Tryz.f106 Q)
@[irreducible] def L2 (y26 : Value) (t2 : Addr) (t55 : OA) (t55n t55c : Nat) (t56 t57 : Int) (K : EP) (h : Heap) : Prop := Lp PP true (cd 28) (mkFr 0 80 [(0, y26), (2, (.pointer (some t2))), (55, (.slice t55 t55n t55c)), (56, .int .i64 t56), (57, .int .i64 t57)]) K h
@[irreducible] def B2 (K : EP) : EP := seqK (fun fr h => Lp PP true (cd 28) (fr.mask 252201579132747781) K h) K
@[irreducible] def J3 (y26 : Value) (t2 t3 : Addr) (t22 : OA) (t22n t22c : Nat) (t23 t24 : Int) (K : EP) (h : Heap) : Prop := Jn PP true (cd 167) (mkFr 0 80 [(0, y26), (2, (.pointer (some t2))), (3, (.pointer (some t3))), (22, (.slice t22 t22n t22c)), (23, .int .i64 t23), (24, .int .i64 t24)]) (B1 K) h
@[irreducible] def J4 (y26 : Value) (t2 : Addr) (t55 : OA) (t55n t55c : Nat) (t56 t57 : Int) (K : EP) (h : Heap) : Prop := Jn PP true (cd 231) (mkFr 0 80 [(0, y26), (2, (.pointer (some t2))), (55, (.slice t55 t55n t55c)), (56, .int .i64 t56), (57, .int .i64 t57)]) (B2 K) h
theorem J1_of {y26 : Value} {t2 t3 : Addr} {t22 : OA} {t22n t22c : Nat} {t23 t24 : Int} {Q : VP} {h : Heap} (H :
L1 y26 t2 t3 t22 t22n t22c t23 t24 (K2 Q) h) : J1 y26 t2 t3 t22 t22n t22c t23 t24 Q h := by unfold J1; exact Jn.of_txt (an 5) (by kernel_rfl) H
theorem L1_of {y26 : Value} {t2 t3 : Addr} {t22 : OA} {t22n t22c : Nat} {t23 t24 : Int} {K : EP} {h : Heap} (H :
let t25 : Bool := decide (t24 < t23)
br t25 (
hwp PP (Instr.indexAt y49 (.slice t22 t22n t22c) (.int .i64 t24)) (fun v h1 => ∃ (t26 : Addr), v = (.pointer (some t26)) ∧
∃ (t27 : ByteArray), cellH h1 t26 = some (.string t27) ∧
∃ (t29 : OA), cellH h1 t3 = some (.pointer t29) ∧
nilc t29 (fun t30 =>
∃ (t32 : OA), cellH h1 (Addr.add t30 1) = some (.pointer t32) ∧
∃ (t34 : ByteArray), cellH h1 t2 = some (.string t34) ∧
∃ (t36 : ByteArray), cellH h1 (Addr.add t2 1) = some (.string t36) ∧
(
SpecH PP z340 [.pointer t32, (.agg #[.string t34, .string t36, .string t27])] h1 (fun v_2 h5 => ∃ (t39_2f0 t39_2f1 t39_2f2 : ByteArray) (t39_2f3 : Bool) (t39_2f4 : ByteArray) (t39_3 : Bool), v_2 = (.tuple #[(.agg #[.string t39_2f0, .string t39_2f1, .string t39_2f2, .bool t39_2f3, .string t39_2f4]), .bool t39_3]) ∧
let t7_1 : Addr := ⟨Array.size h5, 0, none⟩
let h6 : Heap := Array.push h5 (.cells #[(.string (⟨#[]⟩ : ByteArray)), (.string (⟨#[]⟩ : ByteArray)), (.string (⟨#[]⟩ : ByteArray)), .bool false, (.string (⟨#[]⟩ : ByteArray))] y17 (0, 0))
wrCells t7_1 0 [.string t39_2f0, .string t39_2f1, .string t39_2f2, .bool t39_2f3, .string t39_2f4] (fun h7 =>
J2 y26 t2 t3 t27 t39_3 t22 t22n t22c t23 t24 K h7) h6)) ∧
(
let t7 : Addr := ⟨Array.size h1, 0, none⟩
let h2 : Heap := Array.push h1 (.cells #[(.string (⟨#[]⟩ : ByteArray)), (.string (⟨#[]⟩ : ByteArray)), (.string (⟨#[]⟩ : ByteArray)), .bool false, (.string (⟨#[]⟩ : ByteArray))] y17 (0, 0))
SpecH PP z340 [.pointer t32, (.agg #[.string t34, .string t36, .string t27])] h2 (fun v_1 h3 => ∃ (t39f0 t39f1 t39f2 : ByteArray) (t39f3 : Bool) (t39f4 : ByteArray) (t39_1 : Bool), v_1 = (.tuple #[(.agg #[.string t39f0, .string t39f1, .string t39f2, .bool t39f3, .string t39f4]), .bool t39_1]) ∧
wrCells t7 0 [.string t39f0, .string t39f1, .string t39f2, .bool t39f3, .string t39f4] (fun h4 =>
J2 y26 t2 t3 t27 t39_1 t22 t22n t22c t23 t24 K h4) h3)) ∧
True)) h) (
K (.exit 0) (X0 y26 t2 t3) h)) : L1 y26 t2 t3 t22 t22n t22c t23 t24 K h := by unfold L1; exact Lp.of_txt (an 20) 29360141 (by kernel_rfl) H
theorem L1_X0 {Q : VP} {y26 : Value} {t2 t3 : Addr} {h : Heap} (H :
∃ (t51 : OA), cellH h t3 = some (.pointer t51) ∧
nilc t51 (fun t52 =>
∃ (t54 : OA), cellH h (Addr.add t52 1) = some (.pointer t54) ∧
SpecH PP z346 [.pointer t54] h (fun v h1 => ∃ (t55 : OA) (t55n t55c : Nat), v = (.slice t55 t55n t55c) ∧
L2 y26 t2 t55 t55n t55c (t55n : Int) 0 (K3 Q) h1))) : (K2 Q) (.exit 0) (X0 y26 t2 t3) h := of_eq_txt (by kernel_rfl) H
theorem J2_of {y26 : Value} {t2 t3 : Addr} {s6 : ByteArray} {own8 : Bool} {t22 : OA} {t22n t22c : Nat} {t23 t24 : Int} {K : EP} {h : Heap} (H :
let t43 : Bool := (!own8)
br t43 (
callV PP y26 [.string s6] (fun v h1 => ∃ (t47 : Bool), v = (.bool t47) ∧
let t48 : Bool := (!t47)
br t48 (
K .ret (Xret) h1) (
J3 y26 t2 t3 t22 t22n t22c t23 t24 K h1)) h) (
J3 y26 t2 t3 t22 t22n t22c t23 t24 K h)) : J2 y26 t2 t3 s6 own8 t22 t22n t22c t23 t24 K h := by unfold J2; exact Jn.of_txt (an 1331) (by kernel_rfl) H
theorem L2_of {y26 : Value} {t2 : Addr} {t55 : OA} {t55n t55c : Nat} {t56 t57 : Int} {K : EP} {h : Heap} (H :
let t58 : Bool := decide (t57 < t56)
br t58 (
hwp PP (Instr.indexAt y10 (.slice t55 t55n t55c) (.int .i64 t57)) (fun v h1 => ∃ (t59 : Addr), v = (.pointer (some t59)) ∧
∃ (t60f0 t60f1 t60f2 : ByteArray) (t60f3 : Bool) (t60f4 : ByteArray), rdCells h1 t59 0 [.string t60f0, .string t60f1, .string t60f2, .bool t60f3, .string t60f4] ∧
let w10 : Addr := ⟨Array.size h1, 0, none⟩
let h2 : Heap := Array.push h1 (.cells #[(.string (⟨#[]⟩ : ByteArray)), (.string (⟨#[]⟩ : ByteArray)), (.string (⟨#[]⟩ : ByteArray)), .bool false, (.string (⟨#[]⟩ : ByteArray))] y17 (0, 0))
wrCells w10 0 [.string t60f0, .string t60f1, .string t60f2, .bool t60f3, .string t60f4] (fun h3 =>
∃ (t62 : Bool), cellH h3 (Addr.add w10 3) = some (.bool t62) ∧
br t62 (
∃ (t66 : ByteArray), cellH h3 (Addr.add w10 1) = some (.string t66) ∧
∃ (t68 : ByteArray), cellH h3 (Addr.add t2 1) = some (.string t68) ∧
let t69 : Bool := decide (t66 = t68)
br t69 (
∃ (t75 : ByteArray), cellH h3 (Addr.add w10 2) = some (.string t75) ∧
callV PP y26 [.string t75] (fun v_1 h4 => ∃ (t76 : Bool), v_1 = (.bool t76) ∧
let t77 : Bool := (!t76)
br t77 (
K .ret (Xret) h4) (
J4 y26 t2 t55 t55n t55c t56 t57 K h4)) h3) (
J4 y26 t2 t55 t55n t55c t56 t57 K h3)) (
J4 y26 t2 t55 t55n t55c t56 t57 K h3)) h2) h) (
K (.exit 2) (X2) h)) : L2 y26 t2 t55 t55n t55c t56 t57 K h := by unfold L2; exact Lp.of_txt (an 28) 252201579132747781 (by kernel_rfl) H
theorem J3_of {y26 : Value} {t2 t3 : Addr} {t22 : OA} {t22n t22c : Nat} {t23 t24 : Int} {K : EP} {h : Heap} (H :
let t50 : Int := IntKind.i64.wrap (t24 + 1)
L1 y26 t2 t3 t22 t22n t22c t23 t50 K h) : J3 y26 t2 t3 t22 t22n t22c t23 t24 K h := by unfold J3; exact Jn.of_txt (an 167) (by kernel_rfl) H
theorem J4_of {y26 : Value} {t2 : Addr} {t55 : OA} {t55n t55c : Nat} {t56 t57 : Int} {K : EP} {h : Heap} (H :
let t79 : Int := IntKind.i64.wrap (t57 + 1)
L2 y26 t2 t55 t55n t55c t56 t79 K h) : J4 y26 t2 t55 t55n t55c t56 t57 K h := by unfold J4; exact Jn.of_txt (an 231) (by kernel_rfl) H
theorem L2_X2 {Q : VP}  {h : Heap} (H :
Q (.tuple #[]) h) : (K3 Q) (.exit 2) (X2 ) h := of_eq_txt (by kernel_rfl) H
theorem door {y26 : Value} {t1 t2 t3 : Addr} {Q : VP} {h : Heap} (H :
∃ (t16 : OA), cellH h t3 = some (.pointer t16) ∧
nilc t16 (fun t17 =>
∃ (t19 : OA), cellH h (Addr.add t17 1) = some (.pointer t19) ∧
(
∃ (t11_3 : OA), cellH h t1 = some (.pointer t11_3) ∧
nilc t11_3 (fun t12_3 =>
(
∃ (t14_7 : OA), cellH h t12_3 = some (.pointer t14_7) ∧
(
∃ (t15_5f0 t15_5f1 : ByteArray), rdCells h t2 0 [.string t15_5f0, .string t15_5f1] ∧
SpecH PP z330 [.pointer t19] h (fun v_16 h17 => ∃ (t20_8 : Int), v_16 = (.int .i64 t20_8) ∧
let t21_8 : Int := IntKind.i64.wrap (t20_8 + 1)
SpecH PP z103 [.pointer t14_7, (.agg #[.string t15_5f0, .string t15_5f1]), .int .i64 t21_8] h17 (fun v_17 h18 => ∃ (t22_8 : OA) (t22_8n t22_8c : Nat), v_17 = (.slice t22_8 t22_8n t22_8c) ∧
J1 y26 t2 t3 t22_8 t22_8n t22_8c (t22_8n : Int) 0 Q h18))) ∧
(
SpecH PP z330 [.pointer t19] h (fun v_14 h15 => ∃ (t20_7 : Int), v_14 = (.int .i64 t20_7) ∧
∃ (t15_4f0 t15_4f1 : ByteArray), rdCells h15 t2 0 [.string t15_4f0, .string t15_4f1] ∧
let t21_7 : Int := IntKind.i64.wrap (t20_7 + 1)
SpecH PP z103 [.pointer t14_7, (.agg #[.string t15_4f0, .string t15_4f1]), .int .i64 t21_7] h15 (fun v_15 h16 => ∃ (t22_7 : OA) (t22_7n t22_7c : Nat), v_15 = (.slice t22_7 t22_7n t22_7c) ∧
J1 y26 t2 t3 t22_7 t22_7n t22_7c (t22_7n : Int) 0 Q h16))) ∧
True) ∧
(
∃ (t15_3f0 t15_3f1 : ByteArray), rdCells h t2 0 [.string t15_3f0, .string t15_3f1] ∧
(
∃ (t14_6 : OA), cellH h t12_3 = some (.pointer t14_6) ∧
SpecH PP z330 [.pointer t19] h (fun v_12 h13 => ∃ (t20_6 : Int), v_12 = (.int .i64 t20_6) ∧
let t21_6 : Int := IntKind.i64.wrap (t20_6 + 1)
SpecH PP z103 [.pointer t14_6, (.agg #[.string t15_3f0, .string t15_3f1]), .int .i64 t21_6] h13 (fun v_13 h14 => ∃ (t22_6 : OA) (t22_6n t22_6c : Nat), v_13 = (.slice t22_6 t22_6n t22_6c) ∧
J1 y26 t2 t3 t22_6 t22_6n t22_6c (t22_6n : Int) 0 Q h14))) ∧
(
SpecH PP z330 [.pointer t19] h (fun v_10 h11 => ∃ (t20_5 : Int), v_10 = (.int .i64 t20_5) ∧
∃ (t14_5 : OA), cellH h11 t12_3 = some (.pointer t14_5) ∧
let t21_5 : Int := IntKind.i64.wrap (t20_5 + 1)
SpecH PP z103 [.pointer t14_5, (.agg #[.string t15_3f0, .string t15_3f1]), .int .i64 t21_5] h11 (fun v_11 h12 => ∃ (t22_5 : OA) (t22_5n t22_5c : Nat), v_11 = (.slice t22_5 t22_5n t22_5c) ∧
J1 y26 t2 t3 t22_5 t22_5n t22_5c (t22_5n : Int) 0 Q h12))) ∧
True) ∧
(
SpecH PP z330 [.pointer t19] h (fun v_8 h9 => ∃ (t20_4 : Int), v_8 = (.int .i64 t20_4) ∧
∃ (t14_4 : OA), cellH h9 t12_3 = some (.pointer t14_4) ∧
∃ (t15_2f0 t15_2f1 : ByteArray), rdCells h9 t2 0 [.string t15_2f0, .string t15_2f1] ∧
let t21_4 : Int := IntKind.i64.wrap (t20_4 + 1)
SpecH PP z103 [.pointer t14_4, (.agg #[.string t15_2f0, .string t15_2f1]), .int .i64 t21_4] h9 (fun v_9 h10 => ∃ (t22_4 : OA) (t22_4n t22_4c : Nat), v_9 = (.slice t22_4 t22_4n t22_4c) ∧
J1 y26 t2 t3 t22_4 t22_4n t22_4c (t22_4n : Int) 0 Q h10))) ∧
True)) ∧
(
∃ (t15_1f0 t15_1f1 : ByteArray), rdCells h t2 0 [.string t15_1f0, .string t15_1f1] ∧
(
∃ (t11_2 : OA), cellH h t1 = some (.pointer t11_2) ∧
nilc t11_2 (fun t12_2 =>
(
∃ (t14_3 : OA), cellH h t12_2 = some (.pointer t14_3) ∧
SpecH PP z330 [.pointer t19] h (fun v_6 h7 => ∃ (t20_3 : Int), v_6 = (.int .i64 t20_3) ∧
let t21_3 : Int := IntKind.i64.wrap (t20_3 + 1)
SpecH PP z103 [.pointer t14_3, (.agg #[.string t15_1f0, .string t15_1f1]), .int .i64 t21_3] h7 (fun v_7 h8 => ∃ (t22_3 : OA) (t22_3n t22_3c : Nat), v_7 = (.slice t22_3 t22_3n t22_3c) ∧
J1 y26 t2 t3 t22_3 t22_3n t22_3c (t22_3n : Int) 0 Q h8))) ∧
(
SpecH PP z330 [.pointer t19] h (fun v_4 h5 => ∃ (t20_2 : Int), v_4 = (.int .i64 t20_2) ∧
∃ (t14_2 : OA), cellH h5 t12_2 = some (.pointer t14_2) ∧
let t21_2 : Int := IntKind.i64.wrap (t20_2 + 1)
SpecH PP z103 [.pointer t14_2, (.agg #[.string t15_1f0, .string t15_1f1]), .int .i64 t21_2] h5 (fun v_5 h6 => ∃ (t22_2 : OA) (t22_2n t22_2c : Nat), v_5 = (.slice t22_2 t22_2n t22_2c) ∧
J1 y26 t2 t3 t22_2 t22_2n t22_2c (t22_2n : Int) 0 Q h6))) ∧
True)) ∧
(
SpecH PP z330 [.pointer t19] h (fun v_2 h3 => ∃ (t20_1 : Int), v_2 = (.int .i64 t20_1) ∧
∃ (t11_1 : OA), cellH h3 t1 = some (.pointer t11_1) ∧
nilc t11_1 (fun t12_1 =>
∃ (t14_1 : OA), cellH h3 t12_1 = some (.pointer t14_1) ∧
let t21_1 : Int := IntKind.i64.wrap (t20_1 + 1)
SpecH PP z103 [.pointer t14_1, (.agg #[.string t15_1f0, .string t15_1f1]), .int .i64 t21_1] h3 (fun v_3 h4 => ∃ (t22_1 : OA) (t22_1n t22_1c : Nat), v_3 = (.slice t22_1 t22_1n t22_1c) ∧
J1 y26 t2 t3 t22_1 t22_1n t22_1c (t22_1n : Int) 0 Q h4)))) ∧
True) ∧
(
SpecH PP z330 [.pointer t19] h (fun v h1 => ∃ (t20 : Int), v = (.int .i64 t20) ∧
∃ (t11 : OA), cellH h1 t1 = some (.pointer t11) ∧
nilc t11 (fun t12 =>
∃ (t14 : OA), cellH h1 t12 = some (.pointer t14) ∧
∃ (t15f0 t15f1 : ByteArray), rdCells h1 t2 0 [.string t15f0, .string t15f1] ∧
let t21 : Int := IntKind.i64.wrap (t20 + 1)
SpecH PP z103 [.pointer t14, (.agg #[.string t15f0, .string t15f1]), .int .i64 t21] h1 (fun v_1 h2 => ∃ (t22 : OA) (t22n t22c : Nat), v_1 = (.slice t22 t22n t22c) ∧
J1 y26 t2 t3 t22 t22n t22c (t22n : Int) 0 Q h2)))) ∧
True)) : SpecH PP z317 [y26, (.pointer (some t1)), (.pointer (some t2)), (.pointer (some t3))] h Q :=
  spec_of_txt (ann := ann) Tryz.func106 rfl rfl (by kernel_rfl) H
end z316
namespace z102
def ann : Ann := (.seq 21 (rg 2 21) (.seq 149 (rg 1 149) (.seq 128 (.seq 57472 (rg 6 57472) (.block (.loop 57472 (.seq 123008 (rg 1 123008) (.seq 57472 (.cond .leaf (.exit 128)) (.seq 57472 (.block (.seq 57984 (rg 4 57984) (rg 6 57472))) (rg 2 57472))))))) (.seq 64 (rg 2 64) (.exit 64)))))
noncomputable abbrev cd (n : Nat) : Code := sub (bodyOf Tryz.f107) (pth n)
abbrev an (n : Nat) : Ann := subA ann (pth n)
@[irreducible] def X0 (out7 : OA) (out7n out7c : Nat) : Fr := (mkFr 0 26 [(7, (.slice out7 out7n out7c))])
@[irreducible] def L1 (out7 : OA) (out7n out7c : Nat) (t13 : OA) (t13n t13c : Nat) (t14 t15 : Int) (K : EP) (h : Heap) : Prop := Lp PP true (cd 116) (mkFr 0 26 [(7, (.slice out7 out7n out7c)), (13, (.slice t13 t13n t13c)), (14, .int .i64 t14), (15, .int .i64 t15)]) K h
@[irreducible] def K2 (Q : VP) : EP := seqK (fun fr h => ev PP true none (cd 15) (an 15) (fr.mask 128) (bodyK PP Tryz.f107 Q) h) (bodyK PP Tryz.f107 Q)
@[irreducible] def K1 (Q : VP) : EP := blockK 0 (K2 Q)
theorem L1_of {out7 : OA} {out7n out7c : Nat} {t13 : OA} {t13n t13c : Nat} {t14 t15 : Int} {K : EP} {h : Heap} (H :
let t16 : Bool := decide (t15 < t14)
br t16 (
hwp PP (Instr.indexAt y11 (.slice t13 t13n t13c) (.int .i64 t15)) (fun v h1 => ∃ (t17 : Addr), v = (.pointer (some t17)) ∧
∃ (t18f0 t18f1 t18f2 : ByteArray), rdCells h1 t17 0 [.string t18f0, .string t18f1, .string t18f2] ∧
let k9 : Addr := ⟨Array.size h1, 0, none⟩
let h2 : Heap := Array.push h1 (.cells #[(.string (⟨#[]⟩ : ByteArray)), (.string (⟨#[]⟩ : ByteArray)), (.string (⟨#[]⟩ : ByteArray))] y16 (0, 0))
wrCells k9 0 [.string t18f0, .string t18f1, .string t18f2] (fun h3 =>
∃ (t21 : ByteArray), cellH h3 (Addr.add k9 2) = some (.string t21) ∧
let h4 : Heap := Array.push h3 (.cells #[.string t21] y19 (0, 0))
hwp PP (Builtin.append_ #[y49, y49] y49 #[(.slice out7 out7n out7c), (.slice (some ⟨Array.size h3, 0, none⟩) 1 1)]) (fun v_1 h5 => ∃ (t23 : OA) (t23n t23c : Nat), v_1 = (.slice t23 t23n t23c) ∧
let t24 : Int := IntKind.i64.wrap (t15 + 1)
L1 t23 t23n t23c t13 t13n t13c t14 t24 K h5) h4) h2) h) (
K (.exit 0) (X0 out7 out7n out7c) h)) : L1 out7 out7n out7c t13 t13n t13c t14 t15 K h := by unfold L1; exact Lp.of_txt (an 116) 57472 (by kernel_rfl) H
theorem L1_X0 {Q : VP} {out7 : OA} {out7n out7c : Nat} {h : Heap} (H :
Q (.slice out7 out7n out7c) h) : (K1 Q) (.exit 0) (X0 out7 out7n out7c) h := of_eq_txt (by kernel_rfl) H
theorem door {s0 : OA} {b1f0 b1f1 : ByteArray} {at2 : Int} {Q : VP} {h : Heap} (H :
let b4 : Addr := ⟨Array.size h, 0, none⟩
let h1 : Heap := Array.push h (.cells #[.string b1f0, .string b1f1] y44 (0, 0))
SpecH PP z113 [.pointer s0, .int .i64 at2, (.func (.func z105) #[] #[(.pointer (some b4))])] h1 (fun v h2 => ∃ (t13 : OA) (t13n t13c : Nat), v = (.slice t13 t13n t13c) ∧
L1 none 0 0 t13 t13n t13c (t13n : Int) 0 (K1 Q) h2)) : SpecH PP z103 [.pointer s0, (.agg #[.string b1f0, .string b1f1]), .int .i64 at2] h Q :=
  spec_of_txt (ann := ann) Tryz.func107 rfl rfl (by kernel_rfl) H
end z102
namespace z154
def ann : Ann := (.seq 1 (rg 1 1) (.seq 1 (.cond (.seq 4 (rg 4 4) (.exit 4)) .leaf) (.seq 4 (rg 3 4) (.exit 4))))
theorem door {x0 : Int} {Q : VP} {h : Heap} (H :
SpecH PP z159 [.int .u64 x0] h (fun v h1 => ∃ (t7 : Int), v = (.int .i64 t7) ∧
Q (.int .i64 t7) h1)) : SpecH PP z155 [.int .u64 x0] h Q :=
  spec_of_txt (ann := ann) Tryz.func109 rfl rfl (by kernel_rfl) H
end z154
namespace z192
def ann : Ann := (.seq 3 (rg 1 3) (.seq 0 (.seq 387 (rg 3 387) (.block (.loop 387 (.seq 899 (rg 1 899) (.seq 387 (.cond .leaf (.exit 0)) (.seq 387 (.block (.seq 419 (rg 2 419) (.seq 65955 (rg 6 65955) (.cond (.seq 16 (rg 2 16) (.exit 16)) .leaf)))) (rg 2 387))))))) (.seq 16 (rg 1 16) (.exit 16))))
noncomputable abbrev cd (n : Nat) : Code := sub (bodyOf Tryz.f111) (pth n)
abbrev an (n : Nat) : Ann := subA ann (pth n)
@[irreducible] def Xret (t4 : Int) : Fr := (mkFr 0 19 [(4, .int .i64 t4)])
@[irreducible] def X0  : Fr := (mkFr 0 19 [])
@[irreducible] def L1 (s0 : OA) (s0n s0c : Nat) (f1 : Value) (t7 t8 : Int) (K : EP) (h : Heap) : Prop := Lp PP true (cd 52) (mkFr 0 19 [(0, (.slice s0 s0n s0c)), (1, f1), (7, .int .i64 t7), (8, .int .i64 t8)]) K h
@[irreducible] def K2 (Q : VP) : EP := seqK (fun fr h => ev PP true none (cd 7) (an 7) (fr.mask 0) (bodyK PP Tryz.f111 Q) h) (bodyK PP Tryz.f111 Q)
@[irreducible] def K1 (Q : VP) : EP := blockK 0 (K2 Q)
theorem L1_of {s0 : OA} {s0n s0c : Nat} {f1 : Value} {t7 t8 : Int} {K : EP} {h : Heap} (H :
let t9 : Bool := decide (t8 < t7)
br t9 (
hwp PP (Instr.indexAt T_sl_uint8 (.slice s0 s0n s0c) (.int .i64 t8)) (fun v h1 => ∃ (t14 : Addr), v = (.pointer (some t14)) ∧
∃ (t15 : Int), cellH h1 t14 = some (.int .u8 t15) ∧
callV PP f1 [.int .u8 t15] (fun v_1 h2 => ∃ (t16 : Bool), v_1 = (.bool t16) ∧
br t16 (
K .ret (Xret t8) h2) (
let t18 : Int := IntKind.i64.wrap (t8 + 1)
L1 s0 s0n s0c f1 t7 t18 K h2)) h1) h) (
K (.exit 0) (X0) h)) : L1 s0 s0n s0c f1 t7 t8 K h := by unfold L1; exact Lp.of_txt (an 52) 387 (by kernel_rfl) H
theorem L1_Xret {Q : VP} {t4 : Int} {h : Heap} (H :
Q (.int .i64 t4) h) : (K1 Q) .ret (Xret t4) h := of_eq_txt (by kernel_rfl) H
theorem L1_X0 {Q : VP}  {h : Heap} (H :
Q (.int .i64 (-1)) h) : (K1 Q) (.exit 0) (X0 ) h := of_eq_txt (by kernel_rfl) H
theorem door {s0 : OA} {s0n s0c : Nat} {f1 : Value} {Q : VP} {h : Heap} (H :
L1 s0 s0n s0c f1 (s0n : Int) 0 (K1 Q) h) : SpecH PP z193 [(.slice s0 s0n s0c), f1] h Q :=
  spec_of_txt (ann := ann) Tryz.func111 rfl rfl (by kernel_rfl) H
end z192
namespace z116
def ann : Ann := (.seq 7 (rg 1 7) (.seq 6 (rg 7 6) (.seq 128 (rg 8 128) (.seq 64 (rg 2 64) (.exit 64)))))
theorem door {s0 xl1 : OA} {xl1n xl1c : Nat} {at2 : Int} {Q : VP} {h : Heap} (H :
nilc s0 (fun t11 =>
∃ (t13 : Int), cellH h (Addr.add t11 2) = some (.int .i64 t13) ∧
let t14 : Int := (if t13 > at2 then t13 else at2)
SpecH PP z173 [(.slice xl1 xl1n xl1c), .int .i64 t14, (.func (.func z119) #[] #[])] h (fun v h1 => ∃ (t18 : Int) (t18_1 : Bool), v = (.tuple #[.int .i64 t18, .bool t18_1]) ∧
Q (.int .i64 t18) h1))) : SpecH PP z117 [.pointer s0, (.slice xl1 xl1n xl1c), .int .i64 at2] h Q :=
  spec_of_txt (ann := ann) Tryz.func112 rfl rfl (by kernel_rfl) H
end z116
namespace z174
def ann : Ann := (.seq 1 (rg 1 1) (.seq 1 (.seq 17 (rg 2 17) (.cond (.seq 4 (rg 1 4) (.exit 4)) .leaf)) (.seq 4 (rg 4 4) (.exit 4))))
theorem door {s0 : OA} {s0n s0c : Nat} {Q : VP} {h : Heap} (H :
let t4 : Bool := (Option.isNone s0)
br t4 (
Q (.slice none 0 0) h) (
let h1 : Heap := Array.push h (.cells #[] y27 (0, 0))
hwp PP (Builtin.append_ #[y15, y15] y15 #[(.slice (some ⟨Array.size h, 0, none⟩) 0 0), (.slice s0 s0n s0c)]) (fun v h2 => ∃ (t7 : OA) (t7n t7c : Nat), v = (.slice t7 t7n t7c) ∧
Q (.slice t7 t7n t7c) h2) h1)) : SpecH PP z175 [(.slice s0 s0n s0c)] h Q :=
  spec_of_txt (ann := ann) Tryz.func113 rfl rfl (by kernel_rfl) H
end z174
namespace z188
def ann : Ann := (.seq 3 (rg 1 3) (.seq 0 (.seq 387 (rg 3 387) (.block (.loop 387 (.seq 899 (rg 1 899) (.seq 387 (.cond .leaf (.exit 0)) (.seq 387 (.block (.seq 419 (rg 2 419) (.seq 65955 (rg 6 65955) (.cond (.seq 16 (rg 2 16) (.exit 16)) .leaf)))) (rg 2 387))))))) (.seq 16 (rg 1 16) (.exit 16))))
noncomputable abbrev cd (n : Nat) : Code := sub (bodyOf Tryz.f114) (pth n)
abbrev an (n : Nat) : Ann := subA ann (pth n)
@[irreducible] def Xret (t4 : Int) : Fr := (mkFr 0 19 [(4, .int .i64 t4)])
@[irreducible] def X0  : Fr := (mkFr 0 19 [])
@[irreducible] def L1 (s0 : OA) (s0n s0c : Nat) (f1 : Value) (t7 t8 : Int) (K : EP) (h : Heap) : Prop := Lp PP true (cd 52) (mkFr 0 19 [(0, (.slice s0 s0n s0c)), (1, f1), (7, .int .i64 t7), (8, .int .i64 t8)]) K h
@[irreducible] def K2 (Q : VP) : EP := seqK (fun fr h => ev PP true none (cd 7) (an 7) (fr.mask 0) (bodyK PP Tryz.f114 Q) h) (bodyK PP Tryz.f114 Q)
@[irreducible] def K1 (Q : VP) : EP := blockK 0 (K2 Q)
theorem L1_of {s0 : OA} {s0n s0c : Nat} {f1 : Value} {t7 t8 : Int} {K : EP} {h : Heap} (H :
let t9 : Bool := decide (t8 < t7)
br t9 (
hwp PP (Instr.indexAt y60 (.slice s0 s0n s0c) (.int .i64 t8)) (fun v h1 => ∃ (t14 : Addr), v = (.pointer (some t14)) ∧
∃ (t15f0 : Int) (t15f1 : OA) (t15f1n t15f1c : Nat), rdCells h1 t14 0 [.int .i64 t15f0, (.slice t15f1 t15f1n t15f1c)] ∧
callV PP f1 [(.agg #[.int .i64 t15f0, (.slice t15f1 t15f1n t15f1c)])] (fun v_1 h2 => ∃ (t16 : Bool), v_1 = (.bool t16) ∧
br t16 (
K .ret (Xret t8) h2) (
let t18 : Int := IntKind.i64.wrap (t8 + 1)
L1 s0 s0n s0c f1 t7 t18 K h2)) h1) h) (
K (.exit 0) (X0) h)) : L1 s0 s0n s0c f1 t7 t8 K h := by unfold L1; exact Lp.of_txt (an 52) 387 (by kernel_rfl) H
theorem L1_Xret {Q : VP} {t4 : Int} {h : Heap} (H :
Q (.int .i64 t4) h) : (K1 Q) .ret (Xret t4) h := of_eq_txt (by kernel_rfl) H
theorem L1_X0 {Q : VP}  {h : Heap} (H :
Q (.int .i64 (-1)) h) : (K1 Q) (.exit 0) (X0 ) h := of_eq_txt (by kernel_rfl) H
theorem door {s0 : OA} {s0n s0c : Nat} {f1 : Value} {Q : VP} {h : Heap} (H :
L1 s0 s0n s0c f1 (s0n : Int) 0 (K1 Q) h) : SpecH PP z189 [(.slice s0 s0n s0c), f1] h Q :=
  spec_of_txt (ann := ann) Tryz.func114 rfl rfl (by kernel_rfl) H
end z188
namespace z176
def ann : Ann := (.seq 1 (rg 1 1) (.seq 4 (rg 3 4) (.exit 4)))
theorem door {seq0 : Value} {Q : VP} {h : Heap} (H :
SpecH PP z171 [(.slice none 0 0), seq0] h (fun v h1 => ∃ (t4 : OA) (t4n t4c : Nat), v = (.slice t4 t4n t4c) ∧
Q (.slice t4 t4n t4c) h1)) : SpecH PP z177 [seq0] h Q :=
  spec_of_txt (ann := ann) Tryz.func115 rfl rfl (by kernel_rfl) H
end z176
namespace z198
def ann : Ann := (.seq 19 (rg 3 19) (rg 7 0))
theorem door {x0 : OA} {x0n x0c : Nat} {cmp1 : Value} {Q : VP} {h : Heap} (H :
let t10 : Int := IntKind.u64.wrap (x0n : Int)
SpecH PP z155 [.int .u64 t10] h (fun v h1 => ∃ (t11 : Int), v = (.int .i64 t11) ∧
SpecH PP z251 [(.slice x0 x0n x0c), .int .i64 0, (.int .i64 (x0n : Int)), .int .i64 t11, cmp1] h1 (fun v_1 h2 => v_1 = (.tuple #[]) ∧
Q (.tuple #[]) h2))) : SpecH PP z199 [(.slice x0 x0n x0c), cmp1] h Q :=
  spec_of_txt (ann := ann) Tryz.func116 rfl rfl (by kernel_rfl) H
end z198
namespace z152
def ann : Ann := (.seq 65 (rg 2 65) (.block (.loop 65 (.seq 321 (rg 2 321) (.seq 65 (.cond .leaf (.exit 0)) (.block (.seq 81 (rg 4 81) (.seq 16449 (rg 4 16449) (.cond (.exit 0) .leaf)))))))))
noncomputable abbrev cd (n : Nat) : Code := sub (bodyOf Tryz.f117) (pth n)
abbrev an (n : Nat) : Ann := subA ann (pth n)
@[irreducible] def Xret  : Fr := (mkFr 0 15 [])
@[irreducible] def X0  : Fr := (mkFr 0 15 [])
@[irreducible] def L1 (y26 t6 : Value) (K : EP) (h : Heap) : Prop := Lp PP true (cd 12) (mkFr 0 15 [(0, y26), (6, t6)]) K h
@[irreducible] def K1 (Q : VP) : EP := blockK 0 (bodyK PP Tryz.f117 Q)
theorem L1_of {y26 t6 : Value} {K : EP} {h : Heap} (H :
hwp PP (Instr.next t6 false T_) (fun v h1 => ∃ (b : Bool) (r : List Value), v = .tuple ((.bool b :: r).toArray) ∧
br b (
hwp PP (Instr.entry t6) (fun v_1 h2 => ∃ (t9 t9_1 : Value), v_1 = (.tuple #[t9, t9_1]) ∧
∃ (t10f0 t10f1 t10f2 : ByteArray) (t10f3 : Bool) (t10f4 : ByteArray), t9_1 = (.agg #[.string t10f0, .string t10f1, .string t10f2, .bool t10f3, .string t10f4]) ∧
let v4 : Addr := ⟨Array.size h2, 0, none⟩
let h3 : Heap := Array.push h2 (.cells #[(.string (⟨#[]⟩ : ByteArray)), (.string (⟨#[]⟩ : ByteArray)), (.string (⟨#[]⟩ : ByteArray)), .bool false, (.string (⟨#[]⟩ : ByteArray))] y17 (0, 0))
wrCells v4 0 [.string t10f0, .string t10f1, .string t10f2, .bool t10f3, .string t10f4] (fun h4 =>
∃ (t12f0 t12f1 t12f2 : ByteArray) (t12f3 : Bool) (t12f4 : ByteArray), rdCells h4 v4 0 [.string t12f0, .string t12f1, .string t12f2, .bool t12f3, .string t12f4] ∧
callV PP y26 [(.agg #[.string t12f0, .string t12f1, .string t12f2, .bool t12f3, .string t12f4])] (fun v_2 h5 => ∃ (t13 : Bool), v_2 = (.bool t13) ∧
let t14 : Bool := (!t13)
br t14 (
K .ret (Xret) h5) (
L1 y26 t6 K h5)) h4) h3) h1) (
K (.exit 0) (X0) h1)) h) : L1 y26 t6 K h := by unfold L1; exact Lp.of_txt (an 12) 65 (by kernel_rfl) H
theorem L1_X0 {Q : VP}  {h : Heap} (H :
Q (.tuple #[]) h) : (K1 Q) (.exit 0) (X0 ) h := of_eq_txt (by kernel_rfl) H
theorem door {y26 : Value} {t1 : Addr} {Q : VP} {h : Heap} (H :
∃ (t5 : ON), cellH h t1 = some (.map t5) ∧
hwp PP (Instr.range y24 (.map t5)) (fun v h1 => ∃ (t6 : Value), v = t6 ∧
L1 y26 t6 (K1 Q) h1) h) : SpecH PP z153 [y26, (.pointer (some t1))] h Q :=
  spec_of_txt (ann := ann) Tryz.func117 rfl rfl (by kernel_rfl) H
end z152
namespace z126
def ann : Ann := (.seq 1 (rg 1 1) (.seq 4 (rg 4 4) (.exit 4)))
theorem door {x0 : ByteArray} {Q : VP} {h : Heap} (H :
let t5 : Bool := (!decide (x0 = x0))
Q (.bool t5) h) : SpecH PP z127 [.string x0] h Q :=
  spec_of_txt (ann := ann) Tryz.func118 rfl rfl (by kernel_rfl) H
end z126
namespace z190
def ann : Ann := (.seq 3 (rg 1 3) (.seq 0 (.seq 387 (rg 3 387) (.block (.loop 387 (.seq 899 (rg 1 899) (.seq 387 (.cond .leaf (.exit 0)) (.seq 387 (.block (.seq 419 (rg 2 419) (.seq 65955 (rg 6 65955) (.cond (.seq 16 (rg 2 16) (.exit 16)) .leaf)))) (rg 2 387))))))) (.seq 16 (rg 1 16) (.exit 16))))
noncomputable abbrev cd (n : Nat) : Code := sub (bodyOf Tryz.f119) (pth n)
abbrev an (n : Nat) : Ann := subA ann (pth n)
@[irreducible] def Xret (t4 : Int) : Fr := (mkFr 0 19 [(4, .int .i64 t4)])
@[irreducible] def X0  : Fr := (mkFr 0 19 [])
@[irreducible] def L1 (s0 : OA) (s0n s0c : Nat) (f1 : Value) (t7 t8 : Int) (K : EP) (h : Heap) : Prop := Lp PP true (cd 52) (mkFr 0 19 [(0, (.slice s0 s0n s0c)), (1, f1), (7, .int .i64 t7), (8, .int .i64 t8)]) K h
@[irreducible] def K2 (Q : VP) : EP := seqK (fun fr h => ev PP true none (cd 7) (an 7) (fr.mask 0) (bodyK PP Tryz.f119 Q) h) (bodyK PP Tryz.f119 Q)
@[irreducible] def K1 (Q : VP) : EP := blockK 0 (K2 Q)
theorem L1_of {s0 : OA} {s0n s0c : Nat} {f1 : Value} {t7 t8 : Int} {K : EP} {h : Heap} (H :
let t9 : Bool := decide (t8 < t7)
br t9 (
hwp PP (Instr.indexAt y10 (.slice s0 s0n s0c) (.int .i64 t8)) (fun v h1 => ∃ (t14 : Addr), v = (.pointer (some t14)) ∧
∃ (t15f0 t15f1 t15f2 : ByteArray) (t15f3 : Bool) (t15f4 : ByteArray), rdCells h1 t14 0 [.string t15f0, .string t15f1, .string t15f2, .bool t15f3, .string t15f4] ∧
callV PP f1 [(.agg #[.string t15f0, .string t15f1, .string t15f2, .bool t15f3, .string t15f4])] (fun v_1 h2 => ∃ (t16 : Bool), v_1 = (.bool t16) ∧
br t16 (
K .ret (Xret t8) h2) (
let t18 : Int := IntKind.i64.wrap (t8 + 1)
L1 s0 s0n s0c f1 t7 t18 K h2)) h1) h) (
K (.exit 0) (X0) h)) : L1 s0 s0n s0c f1 t7 t8 K h := by unfold L1; exact Lp.of_txt (an 52) 387 (by kernel_rfl) H
theorem L1_Xret {Q : VP} {t4 : Int} {h : Heap} (H :
Q (.int .i64 t4) h) : (K1 Q) .ret (Xret t4) h := of_eq_txt (by kernel_rfl) H
theorem L1_X0 {Q : VP}  {h : Heap} (H :
Q (.int .i64 (-1)) h) : (K1 Q) (.exit 0) (X0 ) h := of_eq_txt (by kernel_rfl) H
theorem door {s0 : OA} {s0n s0c : Nat} {f1 : Value} {Q : VP} {h : Heap} (H :
L1 s0 s0n s0c f1 (s0n : Int) 0 (K1 Q) h) : SpecH PP z191 [(.slice s0 s0n s0c), f1] h Q :=
  spec_of_txt (ann := ann) Tryz.func119 rfl rfl (by kernel_rfl) H
end z190
namespace z194
def ann : Ann := (.seq 3 (rg 1 3) (.seq 0 (.seq 387 (rg 3 387) (.block (.loop 387 (.seq 899 (rg 1 899) (.seq 387 (.cond .leaf (.exit 0)) (.seq 387 (.block (.seq 419 (rg 2 419) (.seq 65955 (rg 6 65955) (.cond (.seq 16 (rg 2 16) (.exit 16)) .leaf)))) (rg 2 387))))))) (.seq 16 (rg 1 16) (.exit 16))))
noncomputable abbrev cd (n : Nat) : Code := sub (bodyOf Tryz.f120) (pth n)
abbrev an (n : Nat) : Ann := subA ann (pth n)
@[irreducible] def Xret (t4 : Int) : Fr := (mkFr 0 19 [(4, .int .i64 t4)])
@[irreducible] def X0  : Fr := (mkFr 0 19 [])
@[irreducible] def L1 (s0 : OA) (s0n s0c : Nat) (f1 : Value) (t7 t8 : Int) (K : EP) (h : Heap) : Prop := Lp PP true (cd 52) (mkFr 0 19 [(0, (.slice s0 s0n s0c)), (1, f1), (7, .int .i64 t7), (8, .int .i64 t8)]) K h
@[irreducible] def K2 (Q : VP) : EP := seqK (fun fr h => ev PP true none (cd 7) (an 7) (fr.mask 0) (bodyK PP Tryz.f120 Q) h) (bodyK PP Tryz.f120 Q)
@[irreducible] def K1 (Q : VP) : EP := blockK 0 (K2 Q)
theorem L1_of {s0 : OA} {s0n s0c : Nat} {f1 : Value} {t7 t8 : Int} {K : EP} {h : Heap} (H :
let t9 : Bool := decide (t8 < t7)
br t9 (
hwp PP (Instr.indexAt y49 (.slice s0 s0n s0c) (.int .i64 t8)) (fun v h1 => ∃ (t14 : Addr), v = (.pointer (some t14)) ∧
∃ (t15 : ByteArray), cellH h1 t14 = some (.string t15) ∧
callV PP f1 [.string t15] (fun v_1 h2 => ∃ (t16 : Bool), v_1 = (.bool t16) ∧
br t16 (
K .ret (Xret t8) h2) (
let t18 : Int := IntKind.i64.wrap (t8 + 1)
L1 s0 s0n s0c f1 t7 t18 K h2)) h1) h) (
K (.exit 0) (X0) h)) : L1 s0 s0n s0c f1 t7 t8 K h := by unfold L1; exact Lp.of_txt (an 52) 387 (by kernel_rfl) H
theorem L1_Xret {Q : VP} {t4 : Int} {h : Heap} (H :
Q (.int .i64 t4) h) : (K1 Q) .ret (Xret t4) h := of_eq_txt (by kernel_rfl) H
theorem L1_X0 {Q : VP}  {h : Heap} (H :
Q (.int .i64 (-1)) h) : (K1 Q) (.exit 0) (X0 ) h := of_eq_txt (by kernel_rfl) H
theorem door {s0 : OA} {s0n s0c : Nat} {f1 : Value} {Q : VP} {h : Heap} (H :
L1 s0 s0n s0c f1 (s0n : Int) 0 (K1 Q) h) : SpecH PP z195 [(.slice s0 s0n s0c), f1] h Q :=
  spec_of_txt (ann := ann) Tryz.func120 rfl rfl (by kernel_rfl) H
end z194
namespace z268
def ann : Ann := (.seq 3 (rg 1 3) (.seq 16 (rg 4 16) (.exit 16)))
theorem door {s0 sep1 : ByteArray} {Q : VP} {h : Heap} (H :
SpecH PP z273 [.string s0, .string sep1, .int .i64 0] h (fun v h1 => ∃ (t7 : Value), v = t7 ∧
Q t7 h1)) : SpecH PP z269 [.string s0, .string sep1] h Q :=
  spec_of_txt (ann := ann) Tryz.func121 rfl rfl (by kernel_rfl) H
end z268
namespace z264
def ann : Ann := (.seq 3 (rg 1 3) (.seq 16 (rg 4 16) (.exit 16)))
theorem door {s0 : ByteArray} {f1 : Value} {Q : VP} {h : Heap} (H :
SpecH PP z271 [.string s0, f1, .bool true] h (fun v h1 => ∃ (t7 : Int), v = (.int .i64 t7) ∧
Q (.int .i64 t7) h1)) : SpecH PP z265 [.string s0, f1] h Q :=
  spec_of_txt (ann := ann) Tryz.func122 rfl rfl (by kernel_rfl) H
end z264
namespace z351
def ann : Ann := (.seq 1 (rg 1 1) (.seq 4 (rg 4 4) (.exit 4)))
theorem door {c0 : Int} {Q : VP} {h : Heap} (H :
SpecH PP z263 [(.string (⟨#[97, 98, 99, 100, 101, 102, 103, 104, 105, 106, 107, 108, 109, 110, 111, 112, 113, 114, 115, 116, 117, 118, 119, 120, 121, 122, 48, 49, 50, 51, 52, 53, 54, 55, 56, 57, 46, 95, 45, 47]⟩ : ByteArray)), .int .i32 c0] h (fun v h1 => ∃ (t4 : Bool), v = (.bool t4) ∧
let t5 : Bool := (!t4)
Q (.bool t5) h1)) : SpecH PP z352 [.int .i32 c0] h Q :=
  spec_of_txt (ann := ann) Tryz.func123 rfl rfl (by kernel_rfl) H
end z351
namespace z262
def ann : Ann := (.seq 3 (rg 1 3) (.seq 16 (rg 5 16) (.exit 16)))
theorem door {s0 : ByteArray} {r1 : Int} {Q : VP} {h : Heap} (H :
SpecH PP z267 [.string s0, .int .i32 r1] h (fun v h1 => ∃ (t7 : Int), v = (.int .i64 t7) ∧
let t8 : Bool := decide (t7 ≥ 0)
Q (.bool t8) h1)) : SpecH PP z263 [.string s0, .int .i32 r1] h Q :=
  spec_of_txt (ann := ann) Tryz.func124 rfl rfl (by kernel_rfl) H
end z262
namespace z196
def ann : Ann := (.seq 19 (rg 3 19) (rg 7 0))
theorem door {x0 : OA} {x0n x0c : Nat} {cmp1 : Value} {Q : VP} {h : Heap} (H :
let t10 : Int := IntKind.u64.wrap (x0n : Int)
SpecH PP z155 [.int .u64 t10] h (fun v h1 => ∃ (t11 : Int), v = (.int .i64 t11) ∧
SpecH PP z249 [(.slice x0 x0n x0c), .int .i64 0, (.int .i64 (x0n : Int)), .int .i64 t11, cmp1] h1 (fun v_1 h2 => v_1 = (.tuple #[]) ∧
Q (.tuple #[]) h2))) : SpecH PP z197 [(.slice x0 x0n x0c), cmp1] h Q :=
  spec_of_txt (ann := ann) Tryz.func125 rfl rfl (by kernel_rfl) H
end z196
namespace z114
def ann : Ann := (.seq 12 (rg 3 12) (.seq 16 (rg 18 16) (.exit 16)))
theorem door {a0f0 a0f1 a0f2 b1f0 b1f1 b1f2 : ByteArray} {Q : VP} {h : Heap} (H :
let a2 : Addr := ⟨Array.size h, 0, none⟩
let h1 : Heap := Array.push h (.cells #[.string a0f0, .string a0f1, .string a0f2] y16 (0, 0))
let b3 : Addr := ⟨Array.size h1, 0, none⟩
let h2 : Heap := Array.push h1 (.cells #[.string b1f0, .string b1f1, .string b1f2] y16 (0, 0))
∃ (t6 : ByteArray), cellH h2 a2 = some (.string t6) ∧
∃ (t8 : ByteArray), cellH h2 b3 = some (.string t8) ∧
∃ v, PureAt PP z121 [.string t6, .string t8] v ∧
∃ (t9 : Int), v = (.int .i64 t9) ∧
∃ (t11 : ByteArray), cellH h2 (Addr.add a2 1) = some (.string t11) ∧
∃ (t13 : ByteArray), cellH h2 (Addr.add b3 1) = some (.string t13) ∧
∃ v_1, PureAt PP z121 [.string t11, .string t13] v_1 ∧
∃ (t14 : Int), v_1 = (.int .i64 t14) ∧
∃ (t16 : ByteArray), cellH h2 (Addr.add a2 2) = some (.string t16) ∧
∃ (t18 : ByteArray), cellH h2 (Addr.add b3 2) = some (.string t18) ∧
∃ v_2, PureAt PP z121 [.string t16, .string t18] v_2 ∧
∃ (t19 : Int), v_2 = (.int .i64 t19) ∧
let h3 : Heap := Array.push h2 (.cells #[.int .i64 t9, .int .i64 t14, .int .i64 t19] y38 (0, 0))
SpecH PP z125 [(.slice (some ⟨Array.size h2, 0, none⟩) 3 3)] h3 (fun v_3 h4 => ∃ (t21 : Int), v_3 = (.int .i64 t21) ∧
Q (.int .i64 t21) h4)) : SpecH PP z115 [(.agg #[.string a0f0, .string a0f1, .string a0f2]), (.agg #[.string b1f0, .string b1f1, .string b1f2])] h Q :=
  spec_of_txt (ann := ann) Tryz.func126 rfl rfl (by kernel_rfl) H
end z114
namespace z104
def ann : Ann := (.seq 6 (rg 2 6) (.seq 8 (rg 13 8) (.exit 8)))
theorem door {k0f0 k0f1 k0f2 : ByteArray} {t1 : Addr} {Q : VP} {h : Heap} (H :
let k2 : Addr := ⟨Array.size h, 0, none⟩
let h1 : Heap := Array.push h (.cells #[.string k0f0, .string k0f1, .string k0f2] y16 (0, 0))
∃ (t5 : ByteArray), cellH h1 k2 = some (.string t5) ∧
∃ (t7 : ByteArray), cellH h1 t1 = some (.string t7) ∧
let t8 : Bool := decide (t5 = t7)
br t8 (
∃ (t11 : ByteArray), cellH h1 (Addr.add k2 1) = some (.string t11) ∧
∃ (t13 : ByteArray), cellH h1 (Addr.add t1 1) = some (.string t13) ∧
let t14 : Bool := decide (t11 = t13)
Q (.bool t14) h1) (
Q (.bool false) h1)) : SpecH PP z105 [(.agg #[.string k0f0, .string k0f1, .string k0f2]), (.pointer (some t1))] h Q :=
  spec_of_txt (ann := ann) Tryz.func131 rfl rfl (by kernel_rfl) H
end z104
namespace z122
end z122
namespace z156
end z156
namespace z158
def ann : Ann := (.seq 5 (rg 1 5) (.seq 5 (.seq 21 (rg 2 21) (.cond (.seq 1 (rg 3 1) (rg 1 5)) .leaf)) (.join (.seq 5 (.seq 261 (rg 2 261) (.cond (.seq 5 (rg 3 5) (rg 3 5)) .leaf)) (.join (.seq 5 (.seq 16389 (rg 2 16389) (.cond (.seq 5 (rg 3 5) (rg 3 5)) .leaf)) (.join (.seq 4 (rg 7 4) (.exit 4)))))))))
noncomputable abbrev cd (n : Nat) : Code := sub (bodyOf Tryz.f142) (pth n)
abbrev an (n : Nat) : Ann := subA ann (pth n)
@[irreducible] def J1 (x0 xn2 : Int) (Q : VP) (h : Heap) : Prop := Jn PP true (cd 7) (mkFr 0 25 [(0, .int .u64 x0), (2, .int .i64 xn2)]) (bodyK PP Tryz.f142 Q) h
@[irreducible] def J2 (x0 xn2 : Int) (Q : VP) (h : Heap) : Prop := Jn PP true (cd 15) (mkFr 0 25 [(0, .int .u64 x0), (2, .int .i64 xn2)]) (bodyK PP Tryz.f142 Q) h
@[irreducible] def J3 (x0 xn2 : Int) (Q : VP) (h : Heap) : Prop := Jn PP true (cd 31) (mkFr 0 25 [(0, .int .u64 x0), (2, .int .i64 xn2)]) (bodyK PP Tryz.f142 Q) h
theorem J1_of {x0 xn2 : Int} {Q : VP} {h : Heap} (H :
let t8 : Bool := decide (x0 ≥ 65536)
br t8 (
let t10 : Int := sShr .u64 x0 16
let t12 : Int := IntKind.i64.wrap (xn2 + 16)
J2 t10 t12 Q h) (
J2 x0 xn2 Q h)) : J1 x0 xn2 Q h := by unfold J1; exact Jn.of_txt (an 7) (by kernel_rfl) H
theorem J2_of {x0 xn2 : Int} {Q : VP} {h : Heap} (H :
let t14 : Bool := decide (x0 ≥ 256)
br t14 (
let t16 : Int := sShr .u64 x0 8
let t18 : Int := IntKind.i64.wrap (xn2 + 8)
J3 t16 t18 Q h) (
J3 x0 xn2 Q h)) : J2 x0 xn2 Q h := by unfold J2; exact Jn.of_txt (an 15) (by kernel_rfl) H
theorem J3_of {x0 xn2 : Int} {Q : VP} {h : Heap} (H :
let t21 : Int := IntKind.u8.wrap x0
hwp PP (Instr.index y19 (.string (⟨#[0, 1, 2, 2, 3, 3, 3, 3, 4, 4, 4, 4, 4, 4, 4, 4, 5, 5, 5, 5, 5, 5, 5, 5, 5, 5, 5, 5, 5, 5, 5, 5, 6, 6, 6, 6, 6, 6, 6, 6, 6, 6, 6, 6, 6, 6, 6, 6, 6, 6, 6, 6, 6, 6, 6, 6, 6, 6, 6, 6, 6, 6, 6, 6, 7, 7, 7, 7, 7, 7, 7, 7, 7, 7, 7, 7, 7, 7, 7, 7, 7, 7, 7, 7, 7, 7, 7, 7, 7, 7, 7, 7, 7, 7, 7, 7, 7, 7, 7, 7, 7, 7, 7, 7, 7, 7, 7, 7, 7, 7, 7, 7, 7, 7, 7, 7, 7, 7, 7, 7, 7, 7, 7, 7, 7, 7, 7, 7, 8, 8, 8, 8, 8, 8, 8, 8, 8, 8, 8, 8, 8, 8, 8, 8, 8, 8, 8, 8, 8, 8, 8, 8, 8, 8, 8, 8, 8, 8, 8, 8, 8, 8, 8, 8, 8, 8, 8, 8, 8, 8, 8, 8, 8, 8, 8, 8, 8, 8, 8, 8, 8, 8, 8, 8, 8, 8, 8, 8, 8, 8, 8, 8, 8, 8, 8, 8, 8, 8, 8, 8, 8, 8, 8, 8, 8, 8, 8, 8, 8, 8, 8, 8, 8, 8, 8, 8, 8, 8, 8, 8, 8, 8, 8, 8, 8, 8, 8, 8, 8, 8, 8, 8, 8, 8, 8, 8, 8, 8, 8, 8, 8, 8, 8, 8, 8, 8, 8, 8, 8, 8, 8, 8, 8, 8, 8, 8]⟩ : ByteArray)) (.int .u8 t21)) (fun v h1 => ∃ (t22 : Int), v = (.int .u8 t22) ∧
let t23 : Int := IntKind.i64.wrap t22
let t24 : Int := IntKind.i64.wrap (xn2 + t23)
Q (.int .i64 t24) h1) h) : J3 x0 xn2 Q h := by unfold J3; exact Jn.of_txt (an 31) (by kernel_rfl) H
theorem door {x0 : Int} {Q : VP} {h : Heap} (H :
let t4 : Bool := decide (x0 ≥ 4294967296)
br t4 (
let t6 : Int := sShr .u64 x0 32
J1 t6 32 Q h) (
J1 x0 0 Q h)) : SpecH PP z159 [.int .u64 x0] h Q :=
  spec_of_txt (ann := ann) Tryz.func142 rfl rfl (by kernel_rfl) H
end z158
namespace z172
def ann : Ann := (.seq 7 (rg 2 7) (.seq 263 (rg 3 263) (.seq 1799 (rg 3 1799) (.seq 775 (.block (.loop 1799 (.seq 1799 (.seq 132871 (rg 3 132871) (.cond .leaf (.exit 775))) (.block (.seq 3847 (rg 7 3847) (.seq 2147487495 (rg 8 2147487495) (.cond (rg 3 1799) (rg 2 1799)))))))) (.seq 192 (rg 16 192) (.exit 192))))))
noncomputable abbrev cd (n : Nat) : Code := sub (bodyOf Tryz.f152) (pth n)
abbrev an (n : Nat) : Ann := subA ann (pth n)
@[irreducible] def X0 (x0 : OA) (x0n x0c : Nat) (y79 : Int) (cmp2 : Value) (xn8 i9 : Int) : Fr := (mkFr 0 49 [(0, (.slice x0 x0n x0c)), (1, .int .i64 y79), (2, cmp2), (8, .int .i64 xn8), (9, .int .i64 i9)])
@[irreducible] def L1 (x0 : OA) (x0n x0c : Nat) (y79 : Int) (cmp2 : Value) (xn8 i9 j10 : Int) (K : EP) (h : Heap) : Prop := Lp PP true (cd 120) (mkFr 0 49 [(0, (.slice x0 x0n x0c)), (1, .int .i64 y79), (2, cmp2), (8, .int .i64 xn8), (9, .int .i64 i9), (10, .int .i64 j10)]) K h
@[irreducible] def K2 (Q : VP) : EP := seqK (fun fr h => ev PP true none (cd 31) (an 31) (fr.mask 775) (bodyK PP Tryz.f152 Q) h) (bodyK PP Tryz.f152 Q)
@[irreducible] def K1 (Q : VP) : EP := blockK 0 (K2 Q)
theorem L1_of {x0 : OA} {x0n x0c : Nat} {y79 : Int} {cmp2 : Value} {xn8 i9 j10 : Int} {K : EP} {h : Heap} (H :
let t17 : Bool := decide (i9 < j10)
br t17 (
let t20 : Int := IntKind.i64.wrap (i9 + j10)
let t21 : Int := IntKind.u64.wrap t20
let t22 : Int := sShr .u64 t21 1
let t23 : Int := IntKind.i64.wrap t22
hwp PP (Instr.indexAt y15 (.slice x0 x0n x0c) (.int .i64 t23)) (fun v h1 => ∃ (t27 : Addr), v = (.pointer (some t27)) ∧
∃ (t28f0 : Int) (t28f1 : Bool) (t28f2 : ByteArray), rdCells h1 t27 0 [.int .i64 t28f0, .bool t28f1, .string t28f2] ∧
callV PP cmp2 [(.agg #[.int .i64 t28f0, .bool t28f1, .string t28f2]), .int .i64 y79] (fun v_1 h2 => ∃ (t30 : Int), v_1 = (.int .i64 t30) ∧
let t31 : Bool := decide (t30 < 0)
br t31 (
let t33 : Int := IntKind.i64.wrap (t23 + 1)
L1 x0 x0n x0c y79 cmp2 xn8 t33 j10 K h2) (
L1 x0 x0n x0c y79 cmp2 xn8 i9 t23 K h2)) h1) h) (
K (.exit 0) (X0 x0 x0n x0c y79 cmp2 xn8 i9) h)) : L1 x0 x0n x0c y79 cmp2 xn8 i9 j10 K h := by unfold L1; exact Lp.of_txt (an 120) 1799 (by kernel_rfl) H
theorem L1_X0 {Q : VP} {x0 : OA} {x0n x0c : Nat} {y79 : Int} {cmp2 : Value} {xn8 i9 : Int} {h : Heap} (H :
let t38 : Bool := decide (i9 < xn8)
br t38 (
hwp PP (Instr.indexAt y15 (.slice x0 x0n x0c) (.int .i64 i9)) (fun v h1 => ∃ (t43 : Addr), v = (.pointer (some t43)) ∧
∃ (t44f0 : Int) (t44f1 : Bool) (t44f2 : ByteArray), rdCells h1 t43 0 [.int .i64 t44f0, .bool t44f1, .string t44f2] ∧
callV PP cmp2 [(.agg #[.int .i64 t44f0, .bool t44f1, .string t44f2]), .int .i64 y79] (fun v_1 h2 => ∃ (t46 : Int), v_1 = (.int .i64 t46) ∧
let t47 : Bool := (t46 == 0)
Q (.tuple #[.int .i64 i9, .bool t47]) h2) h1) h) (
Q (.tuple #[.int .i64 i9, .bool false]) h)) : (K1 Q) (.exit 0) (X0 x0 x0n x0c y79 cmp2 xn8 i9) h := of_eq_txt (by kernel_rfl) H
theorem door {x0 : OA} {x0n x0c : Nat} {y79 : Int} {cmp2 : Value} {Q : VP} {h : Heap} (H :
L1 x0 x0n x0c y79 cmp2 (x0n : Int) 0 (x0n : Int) (K1 Q) h) : SpecH PP z173 [(.slice x0 x0n x0c), .int .i64 y79, cmp2] h Q :=
  spec_of_txt (ann := ann) Tryz.func152 rfl rfl (by kernel_rfl) H
end z172
namespace z118
def ann : Ann := (.seq 6 (rg 2 6) (.seq 0 (.seq 256 (rg 4 256) (.cond (.seq 16 (rg 1 16) (.exit 16)) .leaf)) (.seq 16 (rg 1 16) (.exit 16))))
theorem door {v0f0 : Int} {v0f1 : Bool} {v0f2 : ByteArray} {at1 : Int} {Q : VP} {h : Heap} (H :
let v2 : Addr := ⟨Array.size h, 0, none⟩
let h1 : Heap := Array.push h (.cells #[.int .i64 v0f0, .bool v0f1, .string v0f2] y27 (0, 0))
∃ (t6 : Int), cellH h1 v2 = some (.int .i64 t6) ∧
let t8 : Bool := decide (t6 ≤ at1)
br t8 (
Q (.int .i64 (-1)) h1) (
Q (.int .i64 1) h1)) : SpecH PP z119 [(.agg #[.int .i64 v0f0, .bool v0f1, .string v0f2]), .int .i64 at1] h Q :=
  spec_of_txt (ann := ann) Tryz.func153 rfl rfl (by kernel_rfl) H
end z118
namespace z170
def ann : Ann := (.seq 22 (rg 2 22) (.seq 4 (.seq 84 (rg 1 84) (.block (.range 20 (rg 2 36) (.block (rg 5 0))))) (.seq 16 (rg 2 16) (.exit 16))))
noncomputable abbrev cd (n : Nat) : Code := sub (bodyOf Tryz.f154) (pth n)
abbrev an (n : Nat) : Ann := subA ann (pth n)
@[irreducible] def R1 (s2 : Addr) (t4 : OA) (t4n t4c : Nat) (t7f0 t7f1 t7f2 : ByteArray) (t7f3 : Bool) (t7f4 : ByteArray) (l : Nat) (K : VP) (h : Heap) : Prop := ev PP false none (cd 52) (an 52) (setAll (mkFr 0 13 [(2, (.pointer (some s2))), (4, (.slice t4 t4n t4c))]) [(7, (.agg #[.string t7f0, .string t7f1, .string t7f2, .bool t7f3, .string t7f4]))]) (roundK PP l (cd 53) (an 53) 36 K) h
@[irreducible] def K2 (Q : VP) : EP := seqK (fun fr h => ev PP true none (cd 7) (an 7) (fr.mask 4) (bodyKR PP Tryz.f154 Q) h) (bodyKR PP Tryz.f154 Q)
@[irreducible] def K1 (Q : VP) : EP := blockK 0 (K2 Q)
theorem R1_of {s2 : Addr} {t4 : OA} {t4n t4c : Nat} {t7f0 t7f1 t7f2 : ByteArray} {t7f3 : Bool} {t7f4 : ByteArray} {l : Nat} {K : VP} {h : Heap} (H :
let v5 : Addr := ⟨Array.size h, 0, none⟩
let h1 : Heap := Array.push h (.cells #[(.string (⟨#[]⟩ : ByteArray)), (.string (⟨#[]⟩ : ByteArray)), (.string (⟨#[]⟩ : ByteArray)), .bool false, (.string (⟨#[]⟩ : ByteArray))] y17 (0, 0))
wrCells v5 0 [.string t7f0, .string t7f1, .string t7f2, .bool t7f3, .string t7f4] (fun h2 =>
∃ xL : Loop, h2[l]? = some (.loop xL) ∧ xL.state = .ready ∧
let h3 : Heap := h2.setIfInBounds l (.loop { xL with state := .busy })
∃ (t8 : OA) (t8n t8c : Nat), cellH h3 s2 = some (.slice t8 t8n t8c) ∧
∃ (t9f0 t9f1 t9f2 : ByteArray) (t9f3 : Bool) (t9f4 : ByteArray), rdCells h3 v5 0 [.string t9f0, .string t9f1, .string t9f2, .bool t9f3, .string t9f4] ∧
let h4 : Heap := Array.push h3 (.cells #[.string t9f0, .string t9f1, .string t9f2, .bool t9f3, .string t9f4] y17 (0, 0))
hwp PP (Builtin.append_ #[y10, y10] y10 #[(.slice t8 t8n t8c), (.slice (some ⟨Array.size h3, 0, none⟩) 1 1)]) (fun v h5 => ∃ (t11 : OA) (t11n t11c : Nat), v = (.slice t11 t11n t11c) ∧
wr s2 (.slice t11 t11n t11c) (fun h6 =>
∃ xL_1, h6[l]? = some (.loop xL_1) ∧ K (.bool true) (h6.setIfInBounds l (endL xL_1 none))) h5) h4) h1) : R1 s2 t4 t4n t4c t7f0 t7f1 t7f2 t7f3 t7f4 l K h := of_eq_txt (by kernel_rfl) H
theorem R1_yield {s2 : Addr} {t4 : OA} {t4n t4c : Nat} {t7f0 t7f1 t7f2 : ByteArray} {t7f3 : Bool} {t7f4 : ByteArray} {l : Nat} {K : VP} {h : Heap} {L : Loop} (hl : h[l]? = some (.loop L)) (hp : L.params = #[7]) (ha : L.assign = (cd 52)) (hb : L.body = (cd 53)) (hf : FrRel (mkFr 0 13 [(2, (.pointer (some s2))), (4, (.slice t4 t4n t4c))]) L.tmps) (H : R1 s2 t4 t4n t4c t7f0 t7f1 t7f2 t7f3 t7f4 l K h) : callV PP (.func (.yield l) #[] #[]) [(.agg #[.string t7f0, .string t7f1, .string t7f2, .bool t7f3, .string t7f4])] K h := by
  unfold R1 at H
  refine yield_ok (ann := an 52) (annB := an 53) (m := 36) hl (by rw [hp]; rfl) hf ?_
  rw [ha, hb, hp]; exact H
theorem R1_outn0 {Q : VP} {s2 : Addr} {t4 : OA} {t4n t4c : Nat} {h : Heap} (H :
∃ (t12 : OA) (t12n t12c : Nat), cellH h s2 = some (.slice t12 t12n t12c) ∧
∀ h1, Takes h h1 → Q (.slice t12 t12n t12c) h1) : (K1 Q) .normal (mkFr 0 13 [(2, (.pointer (some s2))), (4, (.slice t4 t4n t4c))]) h := of_eq_txt (by kernel_rfl) H
theorem door {s0 : OA} {s0n s0c : Nat} {seq1 : Value} {Q : VP} {h : Heap} (H :
let s2 : Addr := ⟨Array.size h, 0, none⟩
let h1 : Heap := Array.push h (.cells #[(.slice s0 s0n s0c)] y10 (0, 0))
rangeK PP seq1 #[7] (cd 52) (cd 53) (mkFr 0 13 [(2, (.pointer (some s2))), (4, (.slice none 0 0))]) (K1 Q) h1) : SpecH PP z171 [(.slice s0 s0n s0c), seq1] h Q :=
  spec_of_txtR (ann := ann) Tryz.func154 rfl (by kernel_rfl) H
end z170

end Go.Proofs.YtglcanljknjcfaaGreatDoor
