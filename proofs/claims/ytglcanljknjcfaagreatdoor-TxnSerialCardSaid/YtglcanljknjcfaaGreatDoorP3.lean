/- Texts of the proof, laid together: What the functions of this text come to, as predicates on heaps (printed by my own program out of the dump), each with its proof against the program. -/
import Derived.Test.YtglcanljknjcfaaGreatDoorP1
import Derived.Test.YtglcanljknjcfaaGreatDoorP2
import Derived.Test.YtglcanljknjcfaaGreatDoorProg
set_option linter.unusedVariables false
set_option linter.unusedSimpArgs false
set_option linter.unusedSectionVars false
set_option maxRecDepth 100000
namespace Go.Proofs.YtglcanljknjcfaaGreatDoor
open Go Go.HW
abbrev rg (n m : Nat) : Ann := .region [(List.range n, m)]
noncomputable abbrev cdF (f : Func) (n : Nat) : Code := sub (bodyOf f) (pth n)
abbrev anF (a : Ann) (n : Nat) : Ann := subA a (pth n)
noncomputable abbrev PP : Program := Tryz.prog
abbrev T_ : TypeId := 0
abbrev y63 : TypeId := 3
abbrev T_bool : TypeId := 4
abbrev T_uint8 : TypeId := 5
abbrev y29 : TypeId := 9
abbrev T_int32 : TypeId := 21
abbrev y196 : TypeId := 22
abbrev y95 : TypeId := 25
abbrev y58 : TypeId := 28
abbrev y78 : TypeId := 33
abbrev y35 : TypeId := 35
abbrev y11 : TypeId := 37
abbrev y36 : TypeId := 39
abbrev y23 : TypeId := 44
abbrev y25 : TypeId := 46
abbrev y30 : TypeId := 51
abbrev y65 : TypeId := 53
abbrev y72 : TypeId := 54
abbrev y81 : TypeId := 56
abbrev y42 : TypeId := 60
abbrev T_sl_int : TypeId := 75
abbrev y172 : TypeId := 78
abbrev y104 : TypeId := 81
abbrev y49 : TypeId := 83
abbrev y88 : TypeId := 87
abbrev y44 : TypeId := 88
abbrev y24 : TypeId := 90
abbrev y101 : TypeId := 91
abbrev y127 : TypeId := 92
abbrev y54 : TypeId := 95
abbrev y143 : TypeId := 108
abbrev y74 : TypeId := 125
abbrev T_sl_uint8 : TypeId := 134
abbrev y137 : TypeId := 136
abbrev y136 : TypeId := 137
abbrev y38 : TypeId := 138
abbrev y195 : TypeId := 140
abbrev y17 : TypeId := 141
abbrev y43 : TypeId := 143
abbrev y41 : TypeId := 145
abbrev y19 : TypeId := 146
abbrev y90 : TypeId := 158
abbrev y14 : TypeId := 164
abbrev y76 : TypeId := 230
abbrev z253 : FuncId := 4
abbrev z265 : FuncId := 8
abbrev z259 : FuncId := 9
abbrev z261 : FuncId := 10
abbrev z391 : FuncId := 11
abbrev z395 : FuncId := 12
abbrev z255 : FuncId := 13
abbrev z393 : FuncId := 14
abbrev z403 : FuncId := 15
abbrev z411 : FuncId := 16
abbrev z263 : FuncId := 18
abbrev z387 : FuncId := 19
abbrev z257 : FuncId := 20
abbrev z281 : FuncId := 21
abbrev z399 : FuncId := 22
abbrev z430 : FuncId := 23
abbrev z401 : FuncId := 26
abbrev z407 : FuncId := 27
abbrev z409 : FuncId := 28
abbrev z389 : FuncId := 29
abbrev z397 : FuncId := 30
abbrev z413 : FuncId := 32
abbrev z247 : FuncId := 33
abbrev z432 : FuncId := 34
abbrev z438 : FuncId := 35
abbrev z227 : FuncId := 36
abbrev z419 : FuncId := 37
abbrev z456 : FuncId := 38
abbrev z440 : FuncId := 39
abbrev z442 : FuncId := 40
abbrev z423 : FuncId := 41
abbrev z223 : FuncId := 42
abbrev z415 : FuncId := 43
abbrev z429 : FuncId := 44
abbrev z454 : FuncId := 45
abbrev z211 : FuncId := 46
abbrev z283 : FuncId := 47
abbrev z209 : FuncId := 48
abbrev z448 : FuncId := 67
abbrev z425 : FuncId := 68
abbrev F_slices_Sort_string_string : FuncId := 69
abbrev z452 : FuncId := 70
abbrev z446 : FuncId := 71
abbrev z297 : FuncId := 73
abbrev z434 : FuncId := 74
abbrev z225 : FuncId := 75
abbrev z301 : FuncId := 76
abbrev z421 : FuncId := 77
abbrev z315 : FuncId := 78
abbrev z267 : FuncId := 79
abbrev z458 : FuncId := 80
abbrev z243 : FuncId := 81
abbrev z239 : FuncId := 82
abbrev z295 : FuncId := 83
abbrev z444 : FuncId := 84
abbrev z215 : FuncId := 85
abbrev z299 : FuncId := 86
abbrev z417 : FuncId := 87
abbrev z460 : FuncId := 88
abbrev z450 : FuncId := 89
abbrev z231 : FuncId := 90
abbrev z213 : FuncId := 91
abbrev z285 : FuncId := 92
abbrev z427 : FuncId := 106
abbrev z217 : FuncId := 107
abbrev z271 : FuncId := 109
abbrev z307 : FuncId := 111
abbrev z235 : FuncId := 112
abbrev z291 : FuncId := 113
abbrev z303 : FuncId := 114
abbrev z293 : FuncId := 115
abbrev z313 : FuncId := 116
abbrev z269 : FuncId := 117
abbrev z245 : FuncId := 118
abbrev z305 : FuncId := 119
abbrev z309 : FuncId := 120
abbrev z379 : FuncId := 121
abbrev z375 : FuncId := 122
abbrev z462 : FuncId := 123
abbrev z373 : FuncId := 124
abbrev z311 : FuncId := 125
abbrev z233 : FuncId := 126
abbrev z220 : FuncId := 131
abbrev z275 : FuncId := 142
abbrev z289 : FuncId := 152
abbrev z237 : FuncId := 153
abbrev z287 : FuncId := 154
abbrev z361 : FuncId := 155
abbrev z383 : FuncId := 156
abbrev z381 : FuncId := 157
abbrev z377 : FuncId := 158
abbrev z359 : FuncId := 159
abbrev z341 : FuncId := 162
abbrev z371 : FuncId := 163
abbrev z331 : FuncId := 170
abbrev z327 : FuncId := 171
abbrev z319 : FuncId := 172
abbrev z323 : FuncId := 173
abbrev z365 : FuncId := 174
abbrev z349 : FuncId := 175
abbrev z357 : FuncId := 176
abbrev z353 : FuncId := 177
abbrev z385 : FuncId := 178
abbrev F_strings_Index : FuncId := 180
abbrev F_strings_IndexByte : FuncId := 181
abbrev z436 : FuncId := 182
abbrev z329 : FuncId := 185
abbrev z325 : FuncId := 186
abbrev z317 : FuncId := 187
abbrev z321 : FuncId := 188
abbrev z363 : FuncId := 189
abbrev z347 : FuncId := 190
abbrev z355 : FuncId := 191
abbrev z351 : FuncId := 192
abbrev z369 : FuncId := 195
abbrev z335 : FuncId := 196
abbrev z339 : FuncId := 197
abbrev z367 : FuncId := 201
abbrev z333 : FuncId := 202
abbrev z337 : FuncId := 203
abbrev z345 : FuncId := 204
abbrev z343 : FuncId := 207
theorem U_int : PP.underlying y63 = some (.int .i64) := by kernel_rfl
theorem U_uint8 : PP.underlying T_uint8 = some (.int .u8) := by kernel_rfl
theorem y91 : PP.underlying y29 = some .string := by kernel_rfl
theorem U_int32 : PP.underlying T_int32 = some (.int .i32) := by kernel_rfl
theorem E_sl_haversacklaw14_Op : Elem PP y196 y58 6 80 (.agg #[.int .i64 0, .int .i64 0, (.string (⟨#[]⟩ : ByteArray)), (.string (⟨#[]⟩ : ByteArray)), (.string (⟨#[]⟩ : ByteArray)), (.string (⟨#[]⟩ : ByteArray))]) := Elem.of (by kernel_rfl) (by kernel_rfl)
theorem FL_haversacklaw14_Op : fieldsOf PP y58 = [(y63, 0, 1), (y63, 1, 1), (y29, 2, 1), (y29, 3, 1), (y29, 4, 1), (y29, 5, 1)] := by kernel_rfl
theorem y181 : Elem PP y78 y29 1 16 (.string (⟨#[]⟩ : ByteArray)) := Elem.of (by kernel_rfl) (by kernel_rfl)
theorem y122 : Elem PP y11 y25 5 72 (.agg #[(.string (⟨#[]⟩ : ByteArray)), (.string (⟨#[]⟩ : ByteArray)), (.string (⟨#[]⟩ : ByteArray)), .bool false, (.string (⟨#[]⟩ : ByteArray))]) := Elem.of (by kernel_rfl) (by kernel_rfl)
theorem y103 : Elem PP y30 y65 1 8 (.pointer none) := Elem.of (by kernel_rfl) (by kernel_rfl)
theorem y188 : Elem PP y72 y35 9 128 (.agg #[.int .i64 0, .int .i64 0, (.string (⟨#[]⟩ : ByteArray)), (.string (⟨#[]⟩ : ByteArray)), (.string (⟨#[]⟩ : ByteArray)), (.string (⟨#[]⟩ : ByteArray)), (.string (⟨#[]⟩ : ByteArray)), (.slice none 0 0), .int .i64 0]) := Elem.of (by kernel_rfl) (by kernel_rfl)
theorem y118 : Elem PP y42 y49 3 56 (.agg #[(.string (⟨#[]⟩ : ByteArray)), (.string (⟨#[]⟩ : ByteArray)), (.slice none 0 0)]) := Elem.of (by kernel_rfl) (by kernel_rfl)
theorem E_sl_int : Elem PP T_sl_int y63 1 8 (.int .i64 0) := Elem.of (by kernel_rfl) (by kernel_rfl)
theorem y192 : Elem PP y104 y143 2 32 (.agg #[(.string (⟨#[]⟩ : ByteArray)), (.string (⟨#[]⟩ : ByteArray))]) := Elem.of (by kernel_rfl) (by kernel_rfl)
theorem y125 : Elem PP y88 y36 2 32 (.agg #[.int .i64 0, (.slice none 0 0)]) := Elem.of (by kernel_rfl) (by kernel_rfl)
theorem y100 : PP.underlying y44 = some (.map y63 y101) := by kernel_rfl
theorem E_sl_uint8 : Elem PP T_sl_uint8 T_uint8 1 1 (.int .u8 0) := Elem.of (by kernel_rfl) (by kernel_rfl)
theorem U_sl_uint8 : PP.underlying T_sl_uint8 = some (.slice T_uint8) := by kernel_rfl
theorem y207 : PP.underlying y137 = some (.map y23 T_bool) := by kernel_rfl
theorem y206 : PP.underlying y136 = some (.map y74 T_bool) := by kernel_rfl
theorem y111 : PP.underlying y38 = some (.map y23 y25) := by kernel_rfl
theorem y73 : PP.underlying y17 = some (.map y23 y19) := by kernel_rfl
theorem y84 : Elem PP y19 y41 3 32 (.agg #[.int .i64 0, .bool false, (.string (⟨#[]⟩ : ByteArray))]) := Elem.of (by kernel_rfl) (by kernel_rfl)
theorem y132 : PP.underlying y90 = some (.map y29 y63) := by kernel_rfl
theorem y169 : Elem PP y14 y23 3 48 (.agg #[(.string (⟨#[]⟩ : ByteArray)), (.string (⟨#[]⟩ : ByteArray)), (.string (⟨#[]⟩ : ByteArray))]) := Elem.of (by kernel_rfl) (by kernel_rfl)
namespace z248
end z248
namespace z252
def ann : Ann := (.seq 1 (rg 1 1) (.seq 1 (.seq 1048577 (rg 2 1048577) (.cond (.seq 4 (rg 2 4) (.exit 4)) .leaf)) (.seq 9 (rg 2 9) (.seq 9 (.seq 16777225 (rg 2 16777225) (.cond (.seq 4 (rg 1 4) (.exit 4)) .leaf)) (.seq 25 (rg 1 25) (.seq 57 (rg 1 57) (.seq 40 (.seq 121 (rg 1 121) (.block (.loop 121 (.seq 121 (.seq 268435577 (rg 4 268435577) (.cond .leaf (.exit 40))) (.seq 121 (.block (.seq 249 (rg 6 249) (.seq 505 (rg 5 505) (.seq 505 (.seq 2199023256057 (rg 3 2199023256057) (.cond (.seq 2041 (rg 9 2041) (.seq 1125899906843641 (rg 2 1125899906843641) (.cond (.tree (.run [0, 1, 2, 4] (.alt 3 (.run [5, 6, 7, 8, 9, 10] .done) (.alt 5 (.run [3, 6, 7, 8, 9, 10] .done) .nil))) 505) .leaf))) .leaf)) (.join (.seq 505 (.seq 4611686018427388409 (rg 2 4611686018427388409) (.cond (.exit 121) .leaf)) (.seq 2297 (rg 5 2297) (.seq 295147905179352828153 (rg 2 295147905179352828153) (.block (.seq 885443715538058479865 (.seq 885443715538058479865 (rg 2 885443715538058479865) (.cond .leaf (.seq 885443715538058479865 (rg 2 885443715538058479865) (.cond .leaf (.seq 885443715538058479865 (rg 2 885443715538058479865) (.cond .leaf (.seq 885443715538058479865 (rg 2 885443715538058479865) (.cond .leaf (rg 2 885443715538058479865))))))))) (.join (.cond (.seq 6265 (.tree (.run [0, 1, 2, 3, 4, 5] (.alt 6 (.run [7, 8] .done) (.alt 7 (.run [6, 8] .done) .nil))) 6265) (.join (rg 11 121))) (.seq 4951760452289426278949324921 (rg 2 4951760452289426278949324921) (.cond (.seq 26745 (rg 11 26745) (.seq 26745 (rg 4 26745) (.seq 26745 (rg 6 26745) (.seq 26745 (rg 8 26745) (.seq 18553 (.seq 2658455991569831745807614120560715897 (rg 4 2658455991569831745807614120560715897) (.cond (rg 5 18553) .leaf)) (.join (.seq 170141183460469231731687303715884107897 (rg 2 170141183460469231731687303715884107897) (.cond (rg 5 121) .leaf)))))))) (.seq 5444517870735015415413993718908291385465 (rg 2 5444517870735015415413993718908291385465) (.cond (.seq 2169 (rg 6 2169) (rg 4 121)) .leaf)))))))))))))))) (.join (rg 3 121))))))) (.seq 32808 (rg 2 32808) (.seq 32808 (.seq 44601490397061246283071436545296723011993640 (rg 2 44601490397061246283071436545296723011993640) (.cond (.seq 4 (rg 1 4) (.exit 4)) .leaf)) (.seq 32776 (.seq 98344 (rg 1 98344) (.block (.loop 98344 (.seq 98344 (.seq 713623846352979940529142984724747568191471656 (rg 4 713623846352979940529142984724747568191471656) (.cond .leaf (.exit 32776))) (.seq 98344 (.block (.seq 98344 (.seq 229416 (rg 1 229416) (.block (.loop 229416 (.seq 229416 (.seq 45671926166590716193865151022383844364248121384 (rg 4 45671926166590716193865151022383844364248121384) (.cond .leaf (.exit 98344))) (.seq 229416 (.block (.seq 24519928653854221733733552434404946937899825954937864232 (rg 27 24519928653854221733733552434404946937899825954937864232) (.join (.cond (.seq 4 (rg 1 4) (.exit 4)) .leaf)))) (rg 3 229416)))))) (.seq 360488 (rg 1 360488) (.block (.loop 360488 (.seq 360488 (.seq 392318858461667547739736838950479151006397215279002517544 (rg 4 392318858461667547739736838950479151006397215279002517544) (.cond .leaf (.exit 98344))) (.seq 360488 (.block (.seq 421249166674228746791672110734681729275580381602196445017244270632 (rg 28 421249166674228746791672110734681729275580381602196445017244270632) (.join (.cond (.seq 4 (rg 1 4) (.exit 4)) .leaf)))) (rg 3 360488)))))))) (rg 3 98344)))))) (.seq 4 (rg 16 4) (.exit 4))))))))))))
noncomputable abbrev cd := cdF Tryz.f4
abbrev an := anF ann
@[irreducible] def X0 (m3 y33 : OA) (y26 y27 : Nat) : Fr := (mkFr 0 234 [(3, .pointer m3), (5, (.slice y33 y26 y27))])
@[irreducible] def X3 (m3 y55 : OA) : Fr := (mkFr 0 234 [(3, .pointer m3), (15, .pointer y55)])
@[irreducible] def X5 (m3 y33 : OA) (y26 y27 : Nat) (y55 : OA) (y77 : Int) : Fr := (mkFr 0 234 [(3, .pointer m3), (5, (.slice y33 y26 y27)), (15, .pointer y55), (16, .int .i64 y77)])
@[irreducible] def Xret (t2 : Bool) : Fr := (mkFr 0 234 [(2, .bool t2)])
@[irreducible] def X7 (m3 y33 : OA) (y26 y27 : Nat) (y55 : OA) (y77 : Int) : Fr := (mkFr 0 234 [(3, .pointer m3), (5, (.slice y33 y26 y27)), (15, .pointer y55), (16, .int .i64 y77)])
@[irreducible] def L1 (y56 : OA) (y45 y47 : Nat) (m3 y64 : OA) (y59 y60 : Nat) (y33 : OA) (y26 y27 : Nat) (i6 : Int) (K : EP) (h : Heap) : Prop := Lp PP true (cd 2036) (mkFr 0 234 [(0, (.slice y56 y45 y47)), (3, .pointer m3), (4, (.slice y64 y59 y60)), (5, (.slice y33 y26 y27)), (6, .int .i64 i6)]) K h
@[irreducible] def B1 (K : EP) : EP := seqK (fun fr h => Lp PP true (cd 2036) (fr.mask 121) K h) K
@[irreducible] def K6 (K : EP) : EP := seqK (fun fr h => Jn PP true (cd 8147) (fr.mask 121) (B1 K) h) (B1 K)
@[irreducible] def K3 (K : EP) : EP := blockK 1 (K6 K)
@[irreducible] def J1 (y56 : OA) (y45 y47 : Nat) (m3 y64 : OA) (y59 y60 : Nat) (y33 : OA) (y26 y27 : Nat) (i6 : Int) (o7 : Addr) (at8 : Int) (K : EP) (h : Heap) : Prop := Jn PP true (cd 130343) (mkFr 0 234 [(0, (.slice y56 y45 y47)), (3, .pointer m3), (4, (.slice y64 y59 y60)), (5, (.slice y33 y26 y27)), (6, .int .i64 i6), (7, (.pointer (some o7))), (8, .int .i64 at8)]) (K3 K) h
@[irreducible] def K4 (Q : VP) : EP := seqK (fun fr h => ev PP true none (cd 255) (an 255) (fr.mask 40) (bodyK PP Tryz.f4 Q) h) (bodyK PP Tryz.f4 Q)
@[irreducible] def K1 (Q : VP) : EP := blockK 0 (K4 Q)
@[irreducible] def K5 (Q : VP) : EP := seqK (fun fr h => ev PP true none (cd 2047) (an 2047) (fr.mask 32776) (bodyK PP Tryz.f4 Q) h) (bodyK PP Tryz.f4 Q)
@[irreducible] def K2 (Q : VP) : EP := blockK 3 (K5 Q)
@[irreducible] def L2 (m3 y33 : OA) (y26 y27 : Nat) (y55 : OA) (y77 : Int) (K : EP) (h : Heap) : Prop := Lp PP true (cd 16372) (mkFr 0 234 [(3, .pointer m3), (5, (.slice y33 y26 y27)), (15, .pointer y55), (16, .int .i64 y77)]) K h
@[irreducible] def B2 (K : EP) : EP := seqK (fun fr h => Lp PP true (cd 16372) (fr.mask 98344) K h) K
@[irreducible] def J2 (y56 : OA) (y45 y47 : Nat) (m3 y64 : OA) (y59 y60 : Nat) (y33 : OA) (y26 y27 : Nat) (i6 : Int) (K : EP) (h : Heap) : Prop := Jn PP true (cd 8147) (mkFr 0 234 [(0, (.slice y56 y45 y47)), (3, .pointer m3), (4, (.slice y64 y59 y60)), (5, (.slice y33 y26 y27)), (6, .int .i64 i6)]) (B1 K) h
@[irreducible] def K8 (K : EP) : EP := blockK 2 (K3 K)
@[irreducible] def J3 (y56 : OA) (y45 y47 : Nat) (m3 y64 : OA) (y59 y60 : Nat) (y33 : OA) (y26 y27 : Nat) (i6 : Int) (o7 : Addr) (x11 : OA) (t68 : Int) (t69 : Bool) (K : EP) (h : Heap) : Prop := Jn PP true (cd 4171005) (mkFr 0 234 [(0, (.slice y56 y45 y47)), (3, .pointer m3), (4, (.slice y64 y59 y60)), (5, (.slice y33 y26 y27)), (6, .int .i64 i6), (7, (.pointer (some o7))), (11, .pointer x11), (68, .int .i64 t68), (69, .bool t69)]) (K8 K) h
@[irreducible] def K15 (K : EP) : EP := seqK (fun fr h => ev PP true none (cd 65491) (an 65491) (fr.mask 98344) (B2 K) h) (B2 K)
@[irreducible] def K12 (K : EP) : EP := blockK 4 (K15 K)
@[irreducible] def K9 (K : EP) : EP := seqK (fun fr h => ev PP true none (cd 261961) (an 261961) (fr.mask 98344) (K12 K) h) (K12 K)
@[irreducible] def K7 (K : EP) : EP := blockK 5 (K9 K)
@[irreducible] def L3 (m3 y33 : OA) (y26 y27 : Nat) (y55 : OA) (y77 i17 : Int) (K : EP) (h : Heap) : Prop := Lp PP true (cd 2095684) (mkFr 0 234 [(3, .pointer m3), (5, (.slice y33 y26 y27)), (15, .pointer y55), (16, .int .i64 y77), (17, .int .i64 i17)]) K h
@[irreducible] def B3 (K : EP) : EP := seqK (fun fr h => Lp PP true (cd 2095684) (fr.mask 229416) K h) K
@[irreducible] def J4 (y56 : OA) (y45 y47 : Nat) (m3 y64 : OA) (y59 y60 : Nat) (y33 : OA) (y26 y27 : Nat) (i6 : Int) (x11 : OA) (s12 : Addr) (K : EP) (h : Heap) : Prop := Jn PP true (cd 16684021) (mkFr 0 234 [(0, (.slice y56 y45 y47)), (3, .pointer m3), (4, (.slice y64 y59 y60)), (5, (.slice y33 y26 y27)), (6, .int .i64 i6), (11, .pointer x11), (12, (.pointer (some s12)))]) (K8 K) h
@[irreducible] def J5 (y56 : OA) (y45 y47 : Nat) (m3 y64 : OA) (y59 y60 : Nat) (y33 : OA) (y26 y27 : Nat) (i6 : Int) (x11 : OA) (e14 : Int) (K : EP) (h : Heap) : Prop := Jn PP true (cd 1067777503) (mkFr 0 234 [(0, (.slice y56 y45 y47)), (3, .pointer m3), (4, (.slice y64 y59 y60)), (5, (.slice y33 y26 y27)), (6, .int .i64 i6), (11, .pointer x11), (14, .int .i64 e14)]) (K8 K) h
@[irreducible] def K13 (K : EP) : EP := seqK (fun fr h => ev PP true none (cd 8382739) (an 8382739) (fr.mask 229416) (B3 K) h) (B3 K)
@[irreducible] def K11 (K : EP) : EP := blockK 6 (K13 K)
@[irreducible] def J6 (m3 y33 : OA) (y26 y27 : Nat) (y55 : OA) (y77 i17 : Int) (t184 : Bool) (K : EP) (h : Heap) : Prop := Jn PP true (cd 33530953) (mkFr 0 234 [(3, .pointer m3), (5, (.slice y33 y26 y27)), (15, .pointer y55), (16, .int .i64 y77), (17, .int .i64 i17), (184, .bool t184)]) (K11 K) h
@[irreducible] def K10 (K : EP) : EP := blockK 7 (K12 K)
@[irreducible] def L4 (m3 y33 : OA) (y26 y27 : Nat) (y55 : OA) (y77 i18 : Int) (K : EP) (h : Heap) : Prop := Lp PP true (cd 2095692) (mkFr 0 234 [(3, .pointer m3), (5, (.slice y33 y26 y27)), (15, .pointer y55), (16, .int .i64 y77), (18, .int .i64 i18)]) K h
@[irreducible] def B4 (K : EP) : EP := seqK (fun fr h => Lp PP true (cd 2095692) (fr.mask 360488) K h) K
@[irreducible] def K16 (K : EP) : EP := seqK (fun fr h => ev PP true none (cd 8382771) (an 8382771) (fr.mask 360488) (B4 K) h) (B4 K)
@[irreducible] def K14 (K : EP) : EP := blockK 8 (K16 K)
@[irreducible] def J7 (m3 y33 : OA) (y26 y27 : Nat) (y55 : OA) (y77 i18 : Int) (t218 : Bool) (K : EP) (h : Heap) : Prop := Jn PP true (cd 33531081) (mkFr 0 234 [(3, .pointer m3), (5, (.slice y33 y26 y27)), (15, .pointer y55), (16, .int .i64 y77), (18, .int .i64 i18), (218, .bool t218)]) (K14 K) h
theorem L1_of {y56 : OA} {y45 y47 : Nat} {m3 y64 : OA} {y59 y60 : Nat} {y33 : OA} {y26 y27 : Nat} {i6 : Int} {K : EP} {h : Heap} (H :
let t28 : Bool := decide (i6 < (y45 : Int))
br t28 (
hwp PP (Instr.indexAt y196 (.slice y56 y45 y47) (.int .i64 i6)) (fun v h1 => ∃ (t33 : Addr), v = (.pointer (some t33)) ∧
∃ (t34f0 t34f1 : Int) (t34f2 t34f3 t34f4 t34f5 : ByteArray), rdCells h1 t33 0 [.int .i64 t34f0, .int .i64 t34f1, .string t34f2, .string t34f3, .string t34f4, .string t34f5] ∧
let o7 : Addr := ⟨Array.size h1, 0, none⟩
let h2 : Heap := Array.push h1 (.cells #[.int .i64 0, .int .i64 0, (.string (⟨#[]⟩ : ByteArray)), (.string (⟨#[]⟩ : ByteArray)), (.string (⟨#[]⟩ : ByteArray)), (.string (⟨#[]⟩ : ByteArray))] y58 (0, 0))
wrCells o7 0 [.int .i64 t34f0, .int .i64 t34f1, .string t34f2, .string t34f3, .string t34f4, .string t34f5] (fun h3 =>
∃ (t37 : Int), cellH h3 (Addr.add o7 1) = some (.int .i64 t37) ∧
SpecH PP z263 [(.slice y64 y59 y60), .int .i64 t37] h3 (fun v_1 h4 => ∃ (t38 : Int), v_1 = (.int .i64 t38) ∧
∃ (t40 : Int), cellH h4 o7 = some (.int .i64 t40) ∧
let t41 : Bool := (t40 == 1)
br t41 (
∃ (t45 : ByteArray), cellH h4 (Addr.add o7 2) = some (.string t45) ∧
SpecH PP z391 [.pointer m3, .string t45] h4 (fun v_2 h5 => ∃ (t46 t46_1 : Int), v_2 = (.tuple #[.int .i64 t46, .int .i64 t46_1]) ∧
let t50 : Bool := (t46_1 == 0)
br t50 (
(
SpecH PP z403 [.pointer m3] h5 (fun v_5 h10 => ∃ (t54_1 : Int), v_5 = (.int .i64 t54_1) ∧
∃ (t56_1 : ByteArray), cellH h10 (Addr.add o7 2) = some (.string t56_1) ∧
let t58_1 : Addr := ⟨Array.size h10, 0, none⟩
let h11 : Heap := Array.push h10 (.cells #[.int .i64 t46, .int .i64 t54_1, .int .i64 0, .bool false, .bool false, .string t56_1, (.slice none 0 0)] y81 (0, 0))
let h12 : Heap := Array.push h11 (.cells #[(.pointer (some t58_1))] y65 (0, 0))
hwp PP (Builtin.append_ #[y30, y30] y30 #[(.slice y64 y59 y60), (.slice (some ⟨Array.size h11, 0, none⟩) 1 1)]) (fun v_6 h13 => ∃ (t60_1 : OA) (t60_1n t60_1c : Nat), v_6 = (.slice t60_1 t60_1n t60_1c) ∧
J1 y56 y45 y47 m3 t60_1 t60_1n t60_1c y33 y26 y27 i6 o7 t38 K h13) h12)) ∧
(
∃ (t56 : ByteArray), cellH h5 (Addr.add o7 2) = some (.string t56) ∧
SpecH PP z403 [.pointer m3] h5 (fun v_3 h6 => ∃ (t54 : Int), v_3 = (.int .i64 t54) ∧
let t58 : Addr := ⟨Array.size h6, 0, none⟩
let h7 : Heap := Array.push h6 (.cells #[.int .i64 t46, .int .i64 t54, .int .i64 0, .bool false, .bool false, .string t56, (.slice none 0 0)] y81 (0, 0))
let h8 : Heap := Array.push h7 (.cells #[(.pointer (some t58))] y65 (0, 0))
hwp PP (Builtin.append_ #[y30, y30] y30 #[(.slice y64 y59 y60), (.slice (some ⟨Array.size h7, 0, none⟩) 1 1)]) (fun v_4 h9 => ∃ (t60 : OA) (t60n t60c : Nat), v_4 = (.slice t60 t60n t60c) ∧
J1 y56 y45 y47 m3 t60 t60n t60c y33 y26 y27 i6 o7 t38 K h9) h8)) ∧
True) (
J1 y56 y45 y47 m3 y64 y59 y60 y33 y26 y27 i6 o7 t38 K h5))) (
J1 y56 y45 y47 m3 y64 y59 y60 y33 y26 y27 i6 o7 t38 K h4))) h2) h) (
K (.exit 0) (X0 m3 y33 y26 y27) h)) : L1 y56 y45 y47 m3 y64 y59 y60 y33 y26 y27 i6 K h := by unfold L1; exact Lp.of_txt (an 2036) 121 (by kernel_rfl) H
theorem L1_X0 {Q : VP} {m3 y33 : OA} {y26 y27 : Nat} {h : Heap} (H :
SpecH PP z261 [] h (fun v h1 => ∃ (t143 : OA), v = (.pointer t143) ∧
let t145 : Bool := (Option.isNone t143)
br t145 (
Q (.bool false) h1) (
L2 m3 y33 y26 y27 t143 0 (K2 Q) h1))) : (K1 Q) (.exit 0) (X0 m3 y33 y26 y27) h := y20 (by kernel_rfl) H
theorem J1_of {y56 : OA} {y45 y47 : Nat} {m3 y64 : OA} {y59 y60 : Nat} {y33 : OA} {y26 y27 : Nat} {i6 : Int} {o7 : Addr} {at8 : Int} {K : EP} {h : Heap} (H :
let t62 : Bool := decide (at8 < 0)
br t62 (
J2 y56 y45 y47 m3 y64 y59 y60 y33 y26 y27 i6 K h) (
hwp PP (Instr.indexAt y30 (.slice y64 y59 y60) (.int .i64 at8)) (fun v h1 => ∃ (t65 : Addr), v = (.pointer (some t65)) ∧
∃ (t66 : OA), cellH h1 t65 = some (.pointer t66) ∧
∃ (t68 : Int), cellH h1 o7 = some (.int .i64 t68) ∧
let t70 : Bool := (t68 == 2)
br t70 (
J3 y56 y45 y47 m3 y64 y59 y60 y33 y26 y27 i6 o7 t66 t68 t70 K h1) (
let t71 : Bool := (t68 == 3)
br t71 (
J3 y56 y45 y47 m3 y64 y59 y60 y33 y26 y27 i6 o7 t66 t68 t71 K h1) (
let t72 : Bool := (t68 == 4)
br t72 (
J3 y56 y45 y47 m3 y64 y59 y60 y33 y26 y27 i6 o7 t66 t68 t72 K h1) (
let t73 : Bool := (t68 == 5)
br t73 (
J3 y56 y45 y47 m3 y64 y59 y60 y33 y26 y27 i6 o7 t66 t68 t73 K h1) (
let t74 : Bool := (t68 == 6)
J3 y56 y45 y47 m3 y64 y59 y60 y33 y26 y27 i6 o7 t66 t68 t74 K h1))))) h)) : J1 y56 y45 y47 m3 y64 y59 y60 y33 y26 y27 i6 o7 at8 K h := by unfold J1; exact Jn.of_txt (an 130343) (by kernel_rfl) H
theorem L2_of {m3 y33 : OA} {y26 y27 : Nat} {y55 : OA} {y77 : Int} {K : EP} {h : Heap} (H :
SpecH PP z403 [.pointer m3] h (fun v h1 => ∃ (t148 : Int), v = (.int .i64 t148) ∧
let t149 : Bool := decide (y77 ≤ t148)
br t149 (
L3 m3 y33 y26 y27 y55 y77 0 (K7 K) h1) (
K (.exit 3) (X3 m3 y55) h1))) : L2 m3 y33 y26 y27 y55 y77 K h := by unfold L2; exact Lp.of_txt (an 16372) 98344 (by kernel_rfl) H
theorem L2_X3 {Q : VP} {m3 y55 : OA} {h : Heap} (H :
SpecH PP z259 [] h (fun v h1 => ∃ (t219 : Bool), v = (.bool t219) ∧
br t219 (
SpecH PP z399 [.pointer m3] h1 (fun v_1 h2 => ∃ (t222 : OA) (t222n t222c : Nat), v_1 = (.slice t222 t222n t222c) ∧
SpecH PP z399 [.pointer y55] h2 (fun v_2 h3 => ∃ (t224 : OA) (t224n t224c : Nat), v_2 = (.slice t224 t224n t224c) ∧
SpecH PP z281 [(.slice t222 t222n t222c), (.slice t224 t224n t224c)] h3 (fun v_3 h4 => ∃ (t225 : Bool), v_3 = (.bool t225) ∧
br t225 (
SpecH PP z403 [.pointer m3] h4 (fun v_4 h5 => ∃ (t229 : Int), v_4 = (.int .i64 t229) ∧
SpecH PP z403 [.pointer y55] h5 (fun v_5 h6 => ∃ (t231 : Int), v_5 = (.int .i64 t231) ∧
let t232 : Bool := (t229 == t231)
Q (.bool t232) h6))) (
Q (.bool false) h4))))) (
Q (.bool false) h1))) : (K2 Q) (.exit 3) (X3 m3 y55) h := y20 (by kernel_rfl) H
theorem J2_of {y56 : OA} {y45 y47 : Nat} {m3 y64 : OA} {y59 y60 : Nat} {y33 : OA} {y26 y27 : Nat} {i6 : Int} {K : EP} {h : Heap} (H :
let t30 : Int := IntKind.i64.wrap (i6 + 1)
L1 y56 y45 y47 m3 y64 y59 y60 y33 y26 y27 t30 K h) : J2 y56 y45 y47 m3 y64 y59 y60 y33 y26 y27 i6 K h := by unfold J2; exact Jn.of_txt (an 8147) (by kernel_rfl) H
theorem J3_of {y56 : OA} {y45 y47 : Nat} {m3 y64 : OA} {y59 y60 : Nat} {y33 : OA} {y26 y27 : Nat} {i6 : Int} {o7 : Addr} {x11 : OA} {t68 : Int} {t69 : Bool} {K : EP} {h : Heap} (H :
br t69 (
nilc x11 (fun t77 =>
∃ (t79 : Int), cellH h t77 = some (.int .i64 t79) ∧
∃ (t80f0 t80f1 : Int) (t80f2 t80f3 t80f4 t80f5 : ByteArray), rdCells h o7 0 [.int .i64 t80f0, .int .i64 t80f1, .string t80f2, .string t80f3, .string t80f4, .string t80f5] ∧
(
SpecH PP z255 [.pointer m3, .int .i64 t79, (.agg #[.int .i64 t80f0, .int .i64 t80f1, .string t80f2, .string t80f3, .string t80f4, .string t80f5])] h (fun v_1 h4 => ∃ (t81_1f0 t81_1f1 : Int) (t81_1f2 t81_1f3 t81_1f4 t81_1f5 t81_1f6 : ByteArray) (t81_1f7 : OA) (t81_1f7n t81_1f7c : Nat) (t81_1f8 : Int), v_1 = (.agg #[.int .i64 t81_1f0, .int .i64 t81_1f1, .string t81_1f2, .string t81_1f3, .string t81_1f4, .string t81_1f5, .string t81_1f6, (.slice t81_1f7 t81_1f7n t81_1f7c), .int .i64 t81_1f8]) ∧
let s12_1 : Addr := ⟨Array.size h4, 0, none⟩
let h5 : Heap := Array.push h4 (.cells #[.int .i64 0, .int .i64 0, (.string (⟨#[]⟩ : ByteArray)), (.string (⟨#[]⟩ : ByteArray)), (.string (⟨#[]⟩ : ByteArray)), (.string (⟨#[]⟩ : ByteArray)), (.string (⟨#[]⟩ : ByteArray)), (.slice none 0 0), .int .i64 0] y35 (0, 0))
wrCells s12_1 0 [.int .i64 t81_1f0, .int .i64 t81_1f1, .string t81_1f2, .string t81_1f3, .string t81_1f4, .string t81_1f5, .string t81_1f6, (.slice t81_1f7 t81_1f7n t81_1f7c), .int .i64 t81_1f8] (fun h6 =>
J4 y56 y45 y47 m3 y64 y59 y60 y33 y26 y27 i6 x11 s12_1 K h6) h5)) ∧
(
let s12 : Addr := ⟨Array.size h, 0, none⟩
let h1 : Heap := Array.push h (.cells #[.int .i64 0, .int .i64 0, (.string (⟨#[]⟩ : ByteArray)), (.string (⟨#[]⟩ : ByteArray)), (.string (⟨#[]⟩ : ByteArray)), (.string (⟨#[]⟩ : ByteArray)), (.string (⟨#[]⟩ : ByteArray)), (.slice none 0 0), .int .i64 0] y35 (0, 0))
SpecH PP z255 [.pointer m3, .int .i64 t79, (.agg #[.int .i64 t80f0, .int .i64 t80f1, .string t80f2, .string t80f3, .string t80f4, .string t80f5])] h1 (fun v h2 => ∃ (t81f0 t81f1 : Int) (t81f2 t81f3 t81f4 t81f5 t81f6 : ByteArray) (t81f7 : OA) (t81f7n t81f7c : Nat) (t81f8 : Int), v = (.agg #[.int .i64 t81f0, .int .i64 t81f1, .string t81f2, .string t81f3, .string t81f4, .string t81f5, .string t81f6, (.slice t81f7 t81f7n t81f7c), .int .i64 t81f8]) ∧
wrCells s12 0 [.int .i64 t81f0, .int .i64 t81f1, .string t81f2, .string t81f3, .string t81f4, .string t81f5, .string t81f6, (.slice t81f7 t81f7n t81f7c), .int .i64 t81f8] (fun h3 =>
J4 y56 y45 y47 m3 y64 y59 y60 y33 y26 y27 i6 x11 s12 K h3) h2)) ∧
True)) (
let t93 : Bool := (t68 == 8)
br t93 (
nilc x11 (fun t97 =>
∃ (t99 : Int), cellH h t97 = some (.int .i64 t99) ∧
SpecH PP z395 [.pointer m3, .int .i64 t99] h (fun v_2 h7 => ∃ (t100 t100_1 : Int), v_2 = (.tuple #[.int .i64 t100, .int .i64 t100_1]) ∧
nilc x11 (fun t104 =>
wr (Addr.add t104 4) (.bool true) (fun h8 =>
let t108 : Bool := decide (t100 > 0)
nilc x11 (fun t109 =>
wr (Addr.add t109 3) (.bool t108) (fun h9 =>
nilc x11 (fun t113 =>
∃ (t115 : Int), cellH h9 (Addr.add t113 1) = some (.int .i64 t115) ∧
nilc x11 (fun t116 =>
wr (Addr.add t116 2) (.int .i64 t115) (fun h10 =>
nilc x11 (fun t119 =>
∃ (t121 : Bool), cellH h10 (Addr.add t119 3) = some (.bool t121) ∧
br t121 (
nilc x11 (fun t124 =>
wr (Addr.add t124 2) (.int .i64 t100) (fun h11 =>
J5 y56 y45 y47 m3 y64 y59 y60 y33 y26 y27 i6 x11 t100_1 K h11) h10)) (
J5 y56 y45 y47 m3 y64 y59 y60 y33 y26 y27 i6 x11 t100_1 K h10))) h9))) h8)) h7)))) (
let t133 : Bool := (t68 == 9)
br t133 (
nilc x11 (fun t136 =>
∃ (t138 : Int), cellH h t136 = some (.int .i64 t138) ∧
SpecH PP z387 [.pointer m3, .int .i64 t138] h (fun v_3 h12 => ∃ (t139 : Int), v_3 = (.int .i64 t139) ∧
nilc x11 (fun t141 =>
wr (Addr.add t141 4) (.bool true) (fun h13 =>
J2 y56 y45 y47 m3 y64 y59 y60 y33 y26 y27 i6 K h13) h12)))) (
J2 y56 y45 y47 m3 y64 y59 y60 y33 y26 y27 i6 K h)))) : J3 y56 y45 y47 m3 y64 y59 y60 y33 y26 y27 i6 o7 x11 t68 t69 K h := by unfold J3; exact Jn.of_txt (an 4171005) (by kernel_rfl) H
theorem L3_of {m3 y33 : OA} {y26 y27 : Nat} {y55 : OA} {y77 i17 : Int} {K : EP} {h : Heap} (H :
let t155 : Bool := decide (i17 < (y26 : Int))
br t155 (
hwp PP (Instr.indexAt y30 (.slice y33 y26 y27) (.int .i64 i17)) (fun v h1 => ∃ (t160 : Addr), v = (.pointer (some t160)) ∧
∃ (t161 : OA), cellH h1 t160 = some (.pointer t161) ∧
nilc t161 (fun t162 =>
∃ (t164 : Int), cellH h1 (Addr.add t162 2) = some (.int .i64 t164) ∧
let t166 : Bool := (t164 == y77)
br t166 (
hwp PP (Instr.indexAt y30 (.slice y33 y26 y27) (.int .i64 i17)) (fun v_1 h2 => ∃ (t170 : Addr), v_1 = (.pointer (some t170)) ∧
∃ (t171 : OA), cellH h2 t170 = some (.pointer t171) ∧
nilc t171 (fun t172 =>
∃ (t174 : Bool), cellH h2 (Addr.add t172 3) = some (.bool t174) ∧
br t174 (
hwp PP (Instr.indexAt y30 (.slice y33 y26 y27) (.int .i64 i17)) (fun v_2 h3 => ∃ (t180 : Addr), v_2 = (.pointer (some t180)) ∧
∃ (t181 : OA), cellH h3 t180 = some (.pointer t181) ∧
SpecH PP z257 [.pointer y55, .pointer t181] h3 (fun v_3 h4 => ∃ (t182 : Bool), v_3 = (.bool t182) ∧
let t183 : Bool := (!t182)
J6 m3 y33 y26 y27 y55 y77 i17 t183 K h4)) h2) (
J6 m3 y33 y26 y27 y55 y77 i17 false K h2))) h1) (
J6 m3 y33 y26 y27 y55 y77 i17 false K h1))) h) (
K (.exit 5) (X5 m3 y33 y26 y27 y55 y77) h)) : L3 m3 y33 y26 y27 y55 y77 i17 K h := by unfold L3; exact Lp.of_txt (an 2095684) 229416 (by kernel_rfl) H
theorem L3_X5 {K : EP} {m3 y33 : OA} {y26 y27 : Nat} {y55 : OA} {y77 : Int} {h : Heap} (H :
L4 m3 y33 y26 y27 y55 y77 0 (K10 K) h) : (K7 K) (.exit 5) (X5 m3 y33 y26 y27 y55 y77) h := y20 (by kernel_rfl) H
theorem J4_of {y56 : OA} {y45 y47 : Nat} {m3 y64 : OA} {y59 y60 : Nat} {y33 : OA} {y26 y27 : Nat} {i6 : Int} {x11 : OA} {s12 : Addr} {K : EP} {h : Heap} (H :
nilc x11 (fun t84 =>
∃ (t86 : OA) (t86n t86c : Nat), cellH h (Addr.add t84 6) = some (.slice t86 t86n t86c) ∧
∃ (t87f0 t87f1 : Int) (t87f2 t87f3 t87f4 t87f5 t87f6 : ByteArray) (t87f7 : OA) (t87f7n t87f7c : Nat) (t87f8 : Int), rdCells h s12 0 [.int .i64 t87f0, .int .i64 t87f1, .string t87f2, .string t87f3, .string t87f4, .string t87f5, .string t87f6, (.slice t87f7 t87f7n t87f7c), .int .i64 t87f8] ∧
let h1 : Heap := Array.push h (.cells #[.int .i64 t87f0, .int .i64 t87f1, .string t87f2, .string t87f3, .string t87f4, .string t87f5, .string t87f6, (.slice t87f7 t87f7n t87f7c), .int .i64 t87f8] y35 (0, 0))
hwp PP (Builtin.append_ #[y72, y72] y72 #[(.slice t86 t86n t86c), (.slice (some ⟨Array.size h, 0, none⟩) 1 1)]) (fun v h2 => ∃ (t89 : OA) (t89n t89c : Nat), v = (.slice t89 t89n t89c) ∧
nilc x11 (fun t90 =>
wr (Addr.add t90 6) (.slice t89 t89n t89c) (fun h3 =>
J2 y56 y45 y47 m3 y64 y59 y60 y33 y26 y27 i6 K h3) h2)) h1)) : J4 y56 y45 y47 m3 y64 y59 y60 y33 y26 y27 i6 x11 s12 K h := by unfold J4; exact Jn.of_txt (an 16684021) (by kernel_rfl) H
theorem J5_of {y56 : OA} {y45 y47 : Nat} {m3 y64 : OA} {y59 y60 : Nat} {y33 : OA} {y26 y27 : Nat} {i6 : Int} {x11 : OA} {e14 : Int} {K : EP} {h : Heap} (H :
let t127 : Bool := (e14 == 0)
br t127 (
let h1 : Heap := Array.push h (.cells #[.pointer x11] y65 (0, 0))
hwp PP (Builtin.append_ #[y30, y30] y30 #[(.slice y33 y26 y27), (.slice (some ⟨Array.size h, 0, none⟩) 1 1)]) (fun v h2 => ∃ (t131 : OA) (t131n t131c : Nat), v = (.slice t131 t131n t131c) ∧
J2 y56 y45 y47 m3 y64 y59 y60 t131 t131n t131c i6 K h2) h1) (
J2 y56 y45 y47 m3 y64 y59 y60 y33 y26 y27 i6 K h)) : J5 y56 y45 y47 m3 y64 y59 y60 y33 y26 y27 i6 x11 e14 K h := by unfold J5; exact Jn.of_txt (an 1067777503) (by kernel_rfl) H
theorem J6_of {m3 y33 : OA} {y26 y27 : Nat} {y55 : OA} {y77 i17 : Int} {t184 : Bool} {K : EP} {h : Heap} (H :
br t184 (
K .ret (Xret false) h) (
let t157 : Int := IntKind.i64.wrap (i17 + 1)
L3 m3 y33 y26 y27 y55 y77 t157 K h)) : J6 m3 y33 y26 y27 y55 y77 i17 t184 K h := by unfold J6; exact Jn.of_txt (an 33530953) (by kernel_rfl) H
theorem L4_of {m3 y33 : OA} {y26 y27 : Nat} {y55 : OA} {y77 i18 : Int} {K : EP} {h : Heap} (H :
let t188 : Bool := decide (i18 < (y26 : Int))
br t188 (
hwp PP (Instr.indexAt y30 (.slice y33 y26 y27) (.int .i64 i18)) (fun v h1 => ∃ (t193 : Addr), v = (.pointer (some t193)) ∧
∃ (t194 : OA), cellH h1 t193 = some (.pointer t194) ∧
nilc t194 (fun t195 =>
∃ (t197 : Int), cellH h1 (Addr.add t195 2) = some (.int .i64 t197) ∧
let t199 : Bool := (t197 == y77)
br t199 (
hwp PP (Instr.indexAt y30 (.slice y33 y26 y27) (.int .i64 i18)) (fun v_1 h2 => ∃ (t203 : Addr), v_1 = (.pointer (some t203)) ∧
∃ (t204 : OA), cellH h2 t203 = some (.pointer t204) ∧
nilc t204 (fun t205 =>
∃ (t207 : Bool), cellH h2 (Addr.add t205 3) = some (.bool t207) ∧
let t208 : Bool := (!t207)
br t208 (
hwp PP (Instr.indexAt y30 (.slice y33 y26 y27) (.int .i64 i18)) (fun v_2 h3 => ∃ (t214 : Addr), v_2 = (.pointer (some t214)) ∧
∃ (t215 : OA), cellH h3 t214 = some (.pointer t215) ∧
SpecH PP z257 [.pointer y55, .pointer t215] h3 (fun v_3 h4 => ∃ (t216 : Bool), v_3 = (.bool t216) ∧
let t217 : Bool := (!t216)
J7 m3 y33 y26 y27 y55 y77 i18 t217 K h4)) h2) (
J7 m3 y33 y26 y27 y55 y77 i18 false K h2))) h1) (
J7 m3 y33 y26 y27 y55 y77 i18 false K h1))) h) (
K (.exit 7) (X7 m3 y33 y26 y27 y55 y77) h)) : L4 m3 y33 y26 y27 y55 y77 i18 K h := by unfold L4; exact Lp.of_txt (an 2095692) 360488 (by kernel_rfl) H
theorem J7_of {m3 y33 : OA} {y26 y27 : Nat} {y55 : OA} {y77 i18 : Int} {t218 : Bool} {K : EP} {h : Heap} (H :
br t218 (
K .ret (Xret false) h) (
let t190 : Int := IntKind.i64.wrap (i18 + 1)
L4 m3 y33 y26 y27 y55 y77 t190 K h)) : J7 m3 y33 y26 y27 y55 y77 i18 t218 K h := by unfold J7; exact Jn.of_txt (an 33531081) (by kernel_rfl) H
theorem L4_X7 {K : EP} {m3 y33 : OA} {y26 y27 : Nat} {y55 : OA} {y77 : Int} {h : Heap} (H :
let t151 : Int := IntKind.i64.wrap (y77 + 1)
L2 m3 y33 y26 y27 y55 t151 K h) : (K10 K) (.exit 7) (X7 m3 y33 y26 y27 y55 y77) h := y20 (by kernel_rfl) H
theorem door {y56 : OA} {y45 y47 : Nat} {Q : VP} {h : Heap} (H :
SpecH PP z265 [(.slice none 0 0), (.slice y56 y45 y47)] h (fun v h1 => ∃ (t20 : Bool), v = (.bool t20) ∧
br t20 (
SpecH PP z259 [] h1 (fun v_1 h2 => ∃ (t21 : Bool), v_1 = (.bool t21) ∧
Q (.bool t21) h2)) (
SpecH PP z261 [] h1 (fun v_2 h3 => ∃ (t22 : OA), v_2 = (.pointer t22) ∧
let t24 : Bool := (Option.isNone t22)
br t24 (
Q (.bool false) h3) (
L1 y56 y45 y47 t22 none 0 0 none 0 0 0 (K1 Q) h3))))) : SpecH PP z253 [(.slice y56 y45 y47)] h Q :=
  y12 (ann := ann) Tryz.func4 rfl rfl (by kernel_rfl) H
end z252
namespace z250
end z250
namespace z264
def ann : Ann := (.seq 3 (rg 1 3) (.seq 33 (rg 6 33) (.seq 32 (.seq 97 (rg 1 97) (.block (.loop 97 (.seq 97 (.seq 524385 (rg 8 524385) (.cond .leaf (.exit 32))) (.seq 97 (.block (rg 9 97)) (rg 3 97)))))) (.seq 16 (rg 3 16) (.exit 16)))))
noncomputable abbrev cd := cdF Tryz.f8
abbrev an := anF ann
@[irreducible] def X0 (xn5 : Int) : Fr := (mkFr 0 32 [(5, .int .i64 xn5)])
@[irreducible] def L1 (xl0 : OA) (xl0n xl0c : Nat) (xn5 i6 : Int) (K : EP) (h : Heap) : Prop := Lp PP true (cd 116) (mkFr 0 32 [(0, (.slice xl0 xl0n xl0c)), (5, .int .i64 xn5), (6, .int .i64 i6)]) K h
@[irreducible] def K2 (Q : VP) : EP := seqK (fun fr h => ev PP true none (cd 15) (an 15) (fr.mask 32) (bodyK PP Tryz.f8 Q) h) (bodyK PP Tryz.f8 Q)
@[irreducible] def K1 (Q : VP) : EP := blockK 0 (K2 Q)
theorem L1_of {xl0 : OA} {xl0n xl0c : Nat} {xn5 i6 : Int} {K : EP} {h : Heap} (H :
let t15 : Bool := decide (i6 < (xl0n : Int))
br t15 (
let t18 : Bool := decide (xn5 ≤ 4096)
br t18 (
hwp PP (Instr.indexAt y42 (.slice xl0 xl0n xl0c) (.int .i64 i6)) (fun v h1 => ∃ (t25 : Addr), v = (.pointer (some t25)) ∧
∃ (t27 : OA) (t27n t27c : Nat), cellH h1 (Addr.add t25 2) = some (.slice t27 t27n t27c) ∧
let t29 : Int := IntKind.i64.wrap (xn5 + (t27n : Int))
let t21 : Int := IntKind.i64.wrap (i6 + 1)
L1 xl0 xl0n xl0c t29 t21 K h1) h) (
K (.exit 0) (X0 xn5) h)) (
K (.exit 0) (X0 xn5) h)) : L1 xl0 xl0n xl0c xn5 i6 K h := by unfold L1; exact Lp.of_txt (an 116) 97 (by kernel_rfl) H
theorem L1_X0 {Q : VP} {xn5 : Int} {h : Heap} (H :
let t31 : Bool := decide (xn5 > 4096)
Q (.bool t31) h) : (K1 Q) (.exit 0) (X0 xn5) h := y20 (by kernel_rfl) H
theorem door {xl0 : OA} {xl0n xl0c : Nat} {script1 : OA} {script1n script1c : Nat} {Q : VP} {h : Heap} (H :
let t11 : Int := IntKind.i64.wrap ((xl0n : Int) + (script1n : Int))
L1 xl0 xl0n xl0c t11 0 (K1 Q) h) : SpecH PP z265 [(.slice xl0 xl0n xl0c), (.slice script1 script1n script1c)] h Q :=
  y12 (ann := ann) Tryz.func8 rfl rfl (by kernel_rfl) H
end z264
namespace z258
def ann : Ann := (.seq 0 (rg 1 0) (.seq 2 (rg 2 2) (.seq 2 (.seq 268435458 (rg 2 268435458) (.cond (.seq 1 (rg 1 1) (.exit 1)) .leaf)) (.seq 14 (rg 7 14) (.seq 62 (rg 7 62) (.seq 126 (rg 3 126) (.seq 510 (rg 7 510) (.seq 1534 (rg 7 1534) (.seq 7678 (rg 7 7678) (.seq 15870 (rg 3 15870) (.seq 48638 (rg 7 48638) (.seq 179710 (rg 7 179710) (.seq 262146 (rg 51 262146) (.join (.seq 1835010 (rg 7 1835010) (.seq 3932162 (rg 3 3932162) (.seq 16515074 (rg 7 16515074) (.seq 66846722 (rg 7 66846722) (.seq 1 (rg 42 1) (.exit 1))))))))))))))))))))
noncomputable abbrev cd := cdF Tryz.f9
abbrev an := anF ann
@[irreducible] def J1 (m1 : OA) (one18 : Bool) (Q : VP) (h : Heap) : Prop := Jn PP true (cd 16383) (mkFr 0 176 [(1, .pointer m1), (18, .bool one18)]) (bodyK PP Tryz.f9 Q) h
theorem J1_of {m1 : OA} {one18 : Bool} {Q : VP} {h : Heap} (H :
SpecH PP z391 [.pointer m1, (.string (⟨#[116]⟩ : ByteArray))] h (fun v h1 => ∃ (t120 t120_1 : Int), v = (.tuple #[.int .i64 t120, .int .i64 t120_1]) ∧
SpecH PP z389 [.pointer m1, .int .i64 3, (.string (⟨#[120]⟩ : ByteArray)), (.string (⟨#[97]⟩ : ByteArray)), (.string (⟨#[33]⟩ : ByteArray))] h1 (fun v_1 h2 => ∃ (t124 : Int), v_1 = (.int .i64 t124) ∧
SpecH PP z401 [.pointer m1, .int .i64 3, (.string (⟨#[120]⟩ : ByteArray))] h2 (fun v_2 h3 => ∃ (t127 : OA) (t127n t127c : Nat) (t127_1 : Int), v_2 = (.tuple #[(.slice t127 t127n t127c), .int .i64 t127_1]) ∧
SpecH PP z395 [.pointer m1, .int .i64 3] h3 (fun v_3 h4 => ∃ (t132 t132_1 : Int), v_3 = (.tuple #[.int .i64 t132, .int .i64 t132_1]) ∧
br one18 (
let t138 : Bool := (t120 == 3)
br t138 (
let t142 : Bool := (t120_1 == 0)
br t142 (
let t146 : Bool := (t124 == 0)
br t146 (
let t150 : Bool := (t127_1 == 0)
br t150 (
let h5 : Heap := Array.push h4 (.cells #[(.string (⟨#[97]⟩ : ByteArray))] y29 (0, 0))
SpecH PP z247 [(.slice t127 t127n t127c), (.slice (some ⟨Array.size h4, 0, none⟩) 1 1)] h5 (fun v_4 h6 => ∃ (t155 : Bool), v_4 = (.bool t155) ∧
br t155 (
let t159 : Bool := (t132 == 2)
br t159 (
let t163 : Bool := (t132_1 == 0)
br t163 (
SpecH PP z413 [.pointer m1, (.string (⟨#[116]⟩ : ByteArray))] h6 (fun v_5 h7 => ∃ (t167f0 t167f1 : Int), v_5 = (.agg #[.int .i64 t167f0, .int .i64 t167f1]) ∧
let t169 : Bool := ((t167f0 == 4) && ((t167f1 == 1) && true))
br t169 (
SpecH PP z403 [.pointer m1] h7 (fun v_6 h8 => ∃ (t173 : Int), v_6 = (.int .i64 t173) ∧
let t174 : Bool := (t173 == 2)
Q (.bool t174) h8)) (
Q (.bool false) h7))) (
Q (.bool false) h6)) (
Q (.bool false) h6)) (
Q (.bool false) h6))) (
Q (.bool false) h4)) (
Q (.bool false) h4)) (
Q (.bool false) h4)) (
Q (.bool false) h4)) (
Q (.bool false) h4)))))) : J1 m1 one18 Q h := by unfold J1; exact Jn.of_txt (an 16383) (by kernel_rfl) H
theorem door  {Q : VP} {h : Heap} (H :
SpecH PP z261 [] h (fun v h1 => ∃ (t26 : OA), v = (.pointer t26) ∧
let t28 : Bool := (Option.isNone t26)
br t28 (
Q (.bool false) h1) (
SpecH PP z391 [.pointer t26, (.string (⟨#[116]⟩ : ByteArray))] h1 (fun v_1 h2 => ∃ (t31 t31_1 : Int), v_1 = (.tuple #[.int .i64 t31, .int .i64 t31_1]) ∧
SpecH PP z391 [.pointer t26, (.string (⟨#[116]⟩ : ByteArray))] h2 (fun v_2 h3 => ∃ (t36 t36_1 : Int), v_2 = (.tuple #[.int .i64 t36, .int .i64 t36_1]) ∧
SpecH PP z409 [.pointer t26, .int .i64 1, (.string (⟨#[120]⟩ : ByteArray)), (.string (⟨#[97]⟩ : ByteArray)), (.string (⟨#[111, 110, 101]⟩ : ByteArray))] h3 (fun v_3 h4 => ∃ (t40 : Int), v_3 = (.int .i64 t40) ∧
SpecH PP z411 [.pointer t26, .int .i64 1, (.string (⟨#[120]⟩ : ByteArray)), (.string (⟨#[97]⟩ : ByteArray))] h4 (fun v_4 h5 => ∃ (t43 : ByteArray) (t43_1 : Int), v_4 = (.tuple #[.string t43, .int .i64 t43_1]) ∧
SpecH PP z411 [.pointer t26, .int .i64 2, (.string (⟨#[120]⟩ : ByteArray)), (.string (⟨#[97]⟩ : ByteArray))] h5 (fun v_5 h6 => ∃ (t48 : ByteArray) (t48_1 : Int), v_5 = (.tuple #[.string t48, .int .i64 t48_1]) ∧
SpecH PP z395 [.pointer t26, .int .i64 1] h6 (fun v_6 h7 => ∃ (t53 t53_1 : Int), v_6 = (.tuple #[.int .i64 t53, .int .i64 t53_1]) ∧
SpecH PP z409 [.pointer t26, .int .i64 2, (.string (⟨#[120]⟩ : ByteArray)), (.string (⟨#[98]⟩ : ByteArray)), (.string (⟨#[116, 119, 111]⟩ : ByteArray))] h7 (fun v_7 h8 => ∃ (t57 : Int), v_7 = (.int .i64 t57) ∧
SpecH PP z395 [.pointer t26, .int .i64 2] h8 (fun v_8 h9 => ∃ (t60 t60_1 : Int), v_8 = (.tuple #[.int .i64 t60, .int .i64 t60_1]) ∧
SpecH PP z395 [.pointer t26, .int .i64 2] h9 (fun v_9 h10 => ∃ (t65 t65_1 : Int), v_9 = (.tuple #[.int .i64 t65, .int .i64 t65_1]) ∧
let t69 : Bool := (t31 == 1)
br t69 (
let t72 : Bool := (t36 == 2)
br t72 (
let t76 : Bool := (t31_1 == 0)
br t76 (
let t80 : Bool := (t36_1 == 0)
br t80 (
let t84 : Bool := (t40 == 0)
br t84 (
let t88 : Bool := decide (t43 = (⟨#[111, 110, 101]⟩ : ByteArray))
br t88 (
let t92 : Bool := (t43_1 == 0)
br t92 (
let t96 : Bool := (t48_1 == 144)
br t96 (
let t100 : Bool := (t53 == 1)
br t100 (
let t104 : Bool := (t53_1 == 0)
br t104 (
let t108 : Bool := (t57 == 0)
br t108 (
let t112 : Bool := (t60_1 == 142)
br t112 (
let t116 : Bool := (t65_1 == 140)
J1 t26 t116 Q h10) (
J1 t26 false Q h10)) (
J1 t26 false Q h10)) (
J1 t26 false Q h10)) (
J1 t26 false Q h10)) (
J1 t26 false Q h10)) (
J1 t26 false Q h10)) (
J1 t26 false Q h10)) (
J1 t26 false Q h10)) (
J1 t26 false Q h10)) (
J1 t26 false Q h10)) (
J1 t26 false Q h10)) (
J1 t26 false Q h10))))))))))))) : SpecH PP z259 [] h Q :=
  y12 (ann := ann) Tryz.func9 rfl rfl (by kernel_rfl) H
end z258
namespace z260
def ann : Ann := (.seq 0 (rg 1 0) (.seq 2 (rg 6 2) (.seq 1 (rg 2 1) (.exit 1))))
theorem door  {Q : VP} {h : Heap} (H :
SpecH PP z430 [(.slice none 0 0), .int .i64 0] h (fun v h1 => ∃ (t4 : OA) (t4_1 : Int), v = (.tuple #[.pointer t4, .int .i64 t4_1]) ∧
Q (.pointer t4) h1)) : SpecH PP z261 [] h Q :=
  y12 (ann := ann) Tryz.func10 rfl rfl (by kernel_rfl) H
end z260
namespace z390
def ann : Ann := (.seq 3 (rg 2 3) (.seq 3 (.block (.seq 67 (rg 3 67) (.cond (.seq 48 (rg 2 48) (.exit 48)) (.seq 515 (rg 4 515) (.cond (.seq 48 (rg 2 48) (.exit 48)) (.seq 8195 (rg 7 8195) (.cond (.seq 48 (rg 2 48) (.exit 48)) .leaf))))))) (.seq 3 (rg 8 3) (.seq 1 (.tree (.run [0, 1, 2, 4, 5, 6, 8, 9] (.alt 3 (.alt 7 (.run [10, 11, 12, 13, 14] .done) (.alt 10 (.alt 7 (.run [11, 12, 13, 14] .done) (.alt 11 (.run [7, 12, 13, 14] .done) .nil)) .nil)) (.alt 7 (.alt 3 (.run [10, 11, 12, 13, 14] .done) (.alt 10 (.alt 3 (.run [11, 12, 13, 14] .done) (.alt 11 (.run [3, 12, 13, 14] .done) .nil)) .nil)) (.alt 10 (.alt 3 (.alt 7 (.run [11, 12, 13, 14] .done) (.alt 11 (.run [7, 12, 13, 14] .done) .nil)) (.alt 7 (.alt 3 (.run [11, 12, 13, 14] .done) (.alt 11 (.run [3, 12, 13, 14] .done) .nil)) (.alt 11 (.run [3, 7, 12, 13, 14] .done) .nil))) .nil)))) 1) (.join (.seq 48 (rg 6 48) (.exit 48)))))))
noncomputable abbrev cd := cdF Tryz.f11
abbrev an := anF ann
@[irreducible] def J1 (m0 : OA) (Q : VP) (h : Heap) : Prop := Jn PP true (cd 31) (mkFr 0 45 [(0, .pointer m0)]) (bodyK PP Tryz.f11 Q) h
theorem J1_of {m0 : OA} {Q : VP} {h : Heap} (H :
nilc m0 (fun t42 =>
∃ (t44 : Int), cellH h (Addr.add t42 3) = some (.int .i64 t44) ∧
Q (.tuple #[.int .i64 t44, .int .i64 0]) h)) : J1 m0 Q h := by unfold J1; exact Jn.of_txt (an 31) (by kernel_rfl) H
theorem door {m0 : OA} {y48 : ByteArray} {Q : VP} {h : Heap} (H :
let t8 : Bool := (Option.isNone m0)
br t8 (
Q (.tuple #[.int .i64 0, .int .i64 3]) h) (
SpecH PP z432 [.string y48] h (fun v h1 => ∃ (t11 : Bool), v = (.bool t11) ∧
let t12 : Bool := (!t11)
br t12 (
Q (.tuple #[.int .i64 0, .int .i64 143]) h1) (
nilc m0 (fun t15 =>
∃ (t17 : ON), cellH h1 (Addr.add t15 2) = some (.map t17) ∧
hwp PP (Builtin.len_ #[y44] y63 #[.map t17]) (fun v_1 h2 => ∃ (t18 : Int), v_1 = (.int .i64 t18) ∧
let t19 : Bool := decide (t18 ≥ 256)
br t19 (
Q (.tuple #[.int .i64 0, .int .i64 141]) h2) (
nilc m0 (fun t21 =>
∃ (t23 : Int), cellH h2 (Addr.add t21 3) = some (.int .i64 t23) ∧
let t24 : Int := IntKind.i64.wrap (t23 + 1)
nilc m0 (fun t25 =>
wr (Addr.add t25 3) (.int .i64 t24) (fun h3 =>
nilc m0 (fun t28 =>
nilc m0 (fun t32 =>
(
∃ (t30_7 : ON), cellH h3 (Addr.add t28 2) = some (.map t30_7) ∧
(
∃ (t34_7 : Int), cellH h3 (Addr.add t32 3) = some (.int .i64 t34_7) ∧
SpecH PP z403 [.pointer m0] h3 (fun v_16 h38 => ∃ (t37_4 : Int), v_16 = (.int .i64 t37_4) ∧
SpecH PP z438 [.int .i64 t37_4] h38 (fun v_17 h39 => ∃ (t38_10 : OA), v_17 = (.pointer t38_10) ∧
let t40_10 : Addr := ⟨Array.size h39, 0, none⟩
let h40 : Heap := Array.push h39 (.cells #[.string y48, .pointer t38_10] y54 (0, 0))
hwp PP (Instr.mapUpdate y44 (.map t30_7) (.int .i64 t34_7) (.pointer (some t40_10))) (fun _ h41 =>
J1 m0 Q h41) h40))) ∧
(
SpecH PP z403 [.pointer m0] h3 (fun v_13 h31 => ∃ (t37_3 : Int), v_13 = (.int .i64 t37_3) ∧
(
∃ (t34_6 : Int), cellH h31 (Addr.add t32 3) = some (.int .i64 t34_6) ∧
SpecH PP z438 [.int .i64 t37_3] h31 (fun v_15 h35 => ∃ (t38_9 : OA), v_15 = (.pointer t38_9) ∧
let t40_9 : Addr := ⟨Array.size h35, 0, none⟩
let h36 : Heap := Array.push h35 (.cells #[.string y48, .pointer t38_9] y54 (0, 0))
hwp PP (Instr.mapUpdate y44 (.map t30_7) (.int .i64 t34_6) (.pointer (some t40_9))) (fun _ h37 =>
J1 m0 Q h37) h36)) ∧
(
SpecH PP z438 [.int .i64 t37_3] h31 (fun v_14 h32 => ∃ (t38_8 : OA), v_14 = (.pointer t38_8) ∧
∃ (t34_5 : Int), cellH h32 (Addr.add t32 3) = some (.int .i64 t34_5) ∧
let t40_8 : Addr := ⟨Array.size h32, 0, none⟩
let h33 : Heap := Array.push h32 (.cells #[.string y48, .pointer t38_8] y54 (0, 0))
hwp PP (Instr.mapUpdate y44 (.map t30_7) (.int .i64 t34_5) (.pointer (some t40_8))) (fun _ h34 =>
J1 m0 Q h34) h33)) ∧
True)) ∧
True) ∧
(
∃ (t34_4 : Int), cellH h3 (Addr.add t32 3) = some (.int .i64 t34_4) ∧
(
∃ (t30_6 : ON), cellH h3 (Addr.add t28 2) = some (.map t30_6) ∧
SpecH PP z403 [.pointer m0] h3 (fun v_11 h27 => ∃ (t37_2 : Int), v_11 = (.int .i64 t37_2) ∧
SpecH PP z438 [.int .i64 t37_2] h27 (fun v_12 h28 => ∃ (t38_7 : OA), v_12 = (.pointer t38_7) ∧
let t40_7 : Addr := ⟨Array.size h28, 0, none⟩
let h29 : Heap := Array.push h28 (.cells #[.string y48, .pointer t38_7] y54 (0, 0))
hwp PP (Instr.mapUpdate y44 (.map t30_6) (.int .i64 t34_4) (.pointer (some t40_7))) (fun _ h30 =>
J1 m0 Q h30) h29))) ∧
(
SpecH PP z403 [.pointer m0] h3 (fun v_8 h20 => ∃ (t37_1 : Int), v_8 = (.int .i64 t37_1) ∧
(
∃ (t30_5 : ON), cellH h20 (Addr.add t28 2) = some (.map t30_5) ∧
SpecH PP z438 [.int .i64 t37_1] h20 (fun v_10 h24 => ∃ (t38_6 : OA), v_10 = (.pointer t38_6) ∧
let t40_6 : Addr := ⟨Array.size h24, 0, none⟩
let h25 : Heap := Array.push h24 (.cells #[.string y48, .pointer t38_6] y54 (0, 0))
hwp PP (Instr.mapUpdate y44 (.map t30_5) (.int .i64 t34_4) (.pointer (some t40_6))) (fun _ h26 =>
J1 m0 Q h26) h25)) ∧
(
SpecH PP z438 [.int .i64 t37_1] h20 (fun v_9 h21 => ∃ (t38_5 : OA), v_9 = (.pointer t38_5) ∧
∃ (t30_4 : ON), cellH h21 (Addr.add t28 2) = some (.map t30_4) ∧
let t40_5 : Addr := ⟨Array.size h21, 0, none⟩
let h22 : Heap := Array.push h21 (.cells #[.string y48, .pointer t38_5] y54 (0, 0))
hwp PP (Instr.mapUpdate y44 (.map t30_4) (.int .i64 t34_4) (.pointer (some t40_5))) (fun _ h23 =>
J1 m0 Q h23) h22)) ∧
True)) ∧
True) ∧
(
SpecH PP z403 [.pointer m0] h3 (fun v_2 h4 => ∃ (t37 : Int), v_2 = (.int .i64 t37) ∧
(
∃ (t30_3 : ON), cellH h4 (Addr.add t28 2) = some (.map t30_3) ∧
(
∃ (t34_3 : Int), cellH h4 (Addr.add t32 3) = some (.int .i64 t34_3) ∧
SpecH PP z438 [.int .i64 t37] h4 (fun v_7 h17 => ∃ (t38_4 : OA), v_7 = (.pointer t38_4) ∧
let t40_4 : Addr := ⟨Array.size h17, 0, none⟩
let h18 : Heap := Array.push h17 (.cells #[.string y48, .pointer t38_4] y54 (0, 0))
hwp PP (Instr.mapUpdate y44 (.map t30_3) (.int .i64 t34_3) (.pointer (some t40_4))) (fun _ h19 =>
J1 m0 Q h19) h18)) ∧
(
SpecH PP z438 [.int .i64 t37] h4 (fun v_6 h14 => ∃ (t38_3 : OA), v_6 = (.pointer t38_3) ∧
∃ (t34_2 : Int), cellH h14 (Addr.add t32 3) = some (.int .i64 t34_2) ∧
let t40_3 : Addr := ⟨Array.size h14, 0, none⟩
let h15 : Heap := Array.push h14 (.cells #[.string y48, .pointer t38_3] y54 (0, 0))
hwp PP (Instr.mapUpdate y44 (.map t30_3) (.int .i64 t34_2) (.pointer (some t40_3))) (fun _ h16 =>
J1 m0 Q h16) h15)) ∧
True) ∧
(
∃ (t34_1 : Int), cellH h4 (Addr.add t32 3) = some (.int .i64 t34_1) ∧
(
∃ (t30_2 : ON), cellH h4 (Addr.add t28 2) = some (.map t30_2) ∧
SpecH PP z438 [.int .i64 t37] h4 (fun v_5 h11 => ∃ (t38_2 : OA), v_5 = (.pointer t38_2) ∧
let t40_2 : Addr := ⟨Array.size h11, 0, none⟩
let h12 : Heap := Array.push h11 (.cells #[.string y48, .pointer t38_2] y54 (0, 0))
hwp PP (Instr.mapUpdate y44 (.map t30_2) (.int .i64 t34_1) (.pointer (some t40_2))) (fun _ h13 =>
J1 m0 Q h13) h12)) ∧
(
SpecH PP z438 [.int .i64 t37] h4 (fun v_4 h8 => ∃ (t38_1 : OA), v_4 = (.pointer t38_1) ∧
∃ (t30_1 : ON), cellH h8 (Addr.add t28 2) = some (.map t30_1) ∧
let t40_1 : Addr := ⟨Array.size h8, 0, none⟩
let h9 : Heap := Array.push h8 (.cells #[.string y48, .pointer t38_1] y54 (0, 0))
hwp PP (Instr.mapUpdate y44 (.map t30_1) (.int .i64 t34_1) (.pointer (some t40_1))) (fun _ h10 =>
J1 m0 Q h10) h9)) ∧
True) ∧
(
SpecH PP z438 [.int .i64 t37] h4 (fun v_3 h5 => ∃ (t38 : OA), v_3 = (.pointer t38) ∧
∃ (t30 : ON), cellH h5 (Addr.add t28 2) = some (.map t30) ∧
∃ (t34 : Int), cellH h5 (Addr.add t32 3) = some (.int .i64 t34) ∧
let t40 : Addr := ⟨Array.size h5, 0, none⟩
let h6 : Heap := Array.push h5 (.cells #[.string y48, .pointer t38] y54 (0, 0))
hwp PP (Instr.mapUpdate y44 (.map t30) (.int .i64 t34) (.pointer (some t40))) (fun _ h7 =>
J1 m0 Q h7) h6)) ∧
True)) ∧
True))) h2)))) h1))))) : SpecH PP z391 [.pointer m0, .string y48] h Q :=
  y12 (ann := ann) Tryz.func11 rfl rfl (by kernel_rfl) H
end z390
namespace z394
def ann : Ann := (.seq 3 (rg 2 3) (.seq 195 (rg 9 195) (.seq 195 (.seq 524483 (rg 6 524483) (.join (.cond (.seq 48 (rg 3 48) (.exit 48)) .leaf))) (.seq 195 (.seq 268435651 (rg 8 268435651) (.join (.cond (.seq 195 (rg 11 195) (rg 11 195)) .leaf))) (.join (.seq 192 (rg 3 192) (.seq 48 (rg 5 48) (.exit 48))))))))
noncomputable abbrev cd := cdF Tryz.f12
abbrev an := anF ann
@[irreducible] def K1 (Q : VP) : EP := seqK (fun fr h => ev PP true none (cd 15) (an 15) (fr.mask 195) (bodyK PP Tryz.f12 Q) h) (bodyK PP Tryz.f12 Q)
@[irreducible] def J1 (m0 : OA) (txn1 : Int) (c6 : Addr) (e7 : Int) (t19 : Bool) (Q : VP) (h : Heap) : Prop := Jn PP true (cd 29) (mkFr 0 56 [(0, .pointer m0), (1, .int .i64 txn1), (6, (.pointer (some c6))), (7, .int .i64 e7), (19, .bool t19)]) (K1 Q) h
@[irreducible] def K2 (Q : VP) : EP := seqK (fun fr h => Jn PP true (cd 31) (fr.mask 195) (bodyK PP Tryz.f12 Q) h) (bodyK PP Tryz.f12 Q)
@[irreducible] def J2 (m0 : OA) (txn1 : Int) (c6 : Addr) (e7 : Int) (t28 : Bool) (Q : VP) (h : Heap) : Prop := Jn PP true (cd 61) (mkFr 0 56 [(0, .pointer m0), (1, .int .i64 txn1), (6, (.pointer (some c6))), (7, .int .i64 e7), (28, .bool t28)]) (K2 Q) h
@[irreducible] def J3 (m0 : OA) (txn1 : Int) (c6 : Addr) (e7 : Int) (Q : VP) (h : Heap) : Prop := Jn PP true (cd 31) (mkFr 0 56 [(0, .pointer m0), (1, .int .i64 txn1), (6, (.pointer (some c6))), (7, .int .i64 e7)]) (bodyK PP Tryz.f12 Q) h
theorem J1_of {m0 : OA} {txn1 : Int} {c6 : Addr} {e7 : Int} {t19 : Bool} {Q : VP} {h : Heap} (H :
br t19 (
Q (.tuple #[.int .i64 0, .int .i64 e7]) h) (
let t22 : Bool := (e7 == 0)
br t22 (
∃ (t25 : OA) (t25n t25c : Nat), cellH h (Addr.add c6 1) = some (.slice t25 t25n t25c) ∧
let t27 : Bool := decide ((t25n : Int) > 0)
J2 m0 txn1 c6 e7 t27 Q h) (
J2 m0 txn1 c6 e7 false Q h))) : J1 m0 txn1 c6 e7 t19 Q h := by unfold J1; exact Jn.of_txt (an 29) (by kernel_rfl) H
theorem J2_of {m0 : OA} {txn1 : Int} {c6 : Addr} {e7 : Int} {t28 : Bool} {Q : VP} {h : Heap} (H :
br t28 (
nilc m0 (fun t30 =>
∃ (t32 : OA), cellH h t30 = some (.pointer t32) ∧
∃ (t34 : Int), cellH h c6 = some (.int .i64 t34) ∧
let t35 : Int := IntKind.i64.wrap (t34 + 1)
∃ (t37 : OA) (t37n t37c : Nat), cellH h (Addr.add c6 1) = some (.slice t37 t37n t37c) ∧
SpecH PP z227 [.pointer t32, (.agg #[.int .i64 t35, (.slice t37 t37n t37c)])] h (fun v h1 => ∃ (t39 : Int), v = (.int .i64 t39) ∧
nilc m0 (fun t42 =>
∃ (t44 : OA) (t44n t44c : Nat), cellH h1 (Addr.add t42 1) = some (.slice t44 t44n t44c) ∧
∃ (t45f0 : Int) (t45f1 : OA) (t45f1n t45f1c : Nat), rdCells h1 c6 0 [.int .i64 t45f0, (.slice t45f1 t45f1n t45f1c)] ∧
let h2 : Heap := Array.push h1 (.cells #[.int .i64 t45f0, (.slice t45f1 t45f1n t45f1c)] y36 (0, 0))
hwp PP (Builtin.append_ #[y88, y88] y88 #[(.slice t44 t44n t44c), (.slice (some ⟨Array.size h1, 0, none⟩) 1 1)]) (fun v_1 h3 => ∃ (t47 : OA) (t47n t47c : Nat), v_1 = (.slice t47 t47n t47c) ∧
nilc m0 (fun t48 =>
wr (Addr.add t48 1) (.slice t47 t47n t47c) (fun h4 =>
J3 m0 txn1 c6 e7 Q h4) h3)) h2)))) (
J3 m0 txn1 c6 e7 Q h)) : J2 m0 txn1 c6 e7 t28 Q h := by unfold J2; exact Jn.of_txt (an 61) (by kernel_rfl) H
theorem J3_of {m0 : OA} {txn1 : Int} {c6 : Addr} {e7 : Int} {Q : VP} {h : Heap} (H :
SpecH PP z419 [.pointer m0, .int .i64 txn1] h (fun v h1 => v = (.tuple #[]) ∧
∃ (t54 : Int), cellH h1 c6 = some (.int .i64 t54) ∧
Q (.tuple #[.int .i64 t54, .int .i64 e7]) h1)) : J3 m0 txn1 c6 e7 Q h := by unfold J3; exact Jn.of_txt (an 31) (by kernel_rfl) H
theorem door {m0 : OA} {txn1 : Int} {Q : VP} {h : Heap} (H :
SpecH PP z393 [.pointer m0, .int .i64 txn1] h (fun v h1 => ∃ (t11f0 : Int) (t11f1 : OA) (t11f1n t11f1c : Nat) (t11_1 : Int), v = (.tuple #[(.agg #[.int .i64 t11f0, (.slice t11f1 t11f1n t11f1c)]), .int .i64 t11_1]) ∧
let c6 : Addr := ⟨Array.size h1, 0, none⟩
let h2 : Heap := Array.push h1 (.cells #[.int .i64 0, (.slice none 0 0)] y36 (0, 0))
wrCells c6 0 [.int .i64 t11f0, (.slice t11f1 t11f1n t11f1c)] (fun h3 =>
let t15 : Bool := (t11_1 == 3)
br t15 (
J1 m0 txn1 c6 t11_1 true Q h3) (
let t18 : Bool := (t11_1 == 140)
J1 m0 txn1 c6 t11_1 t18 Q h3)) h2)) : SpecH PP z395 [.pointer m0, .int .i64 txn1] h Q :=
  y12 (ann := ann) Tryz.func12 rfl rfl (by kernel_rfl) H
end z394
namespace z254
def ann : Ann := (.seq 99 (rg 2 99) (.seq 227 (rg 4 227) (.seq 192 (.seq 2275 (rg 2 2275) (.block (.seq 6371 (rg 2 6371) (.cond (rg 14 192) (.seq 67111139 (rg 2 67111139) (.cond (rg 12 192) (.seq 274877909219 (rg 2 274877909219) (.cond (rg 11 192) (.seq 1125899906844899 (rg 2 1125899906844899) (.cond (rg 11 192) (.seq 4611686018427388131 (rg 2 4611686018427388131) (.cond (rg 9 192) .leaf)))))))))))) (.join (.seq 64 (rg 2 64) (.exit 64))))))
noncomputable abbrev cd := cdF Tryz.f13
abbrev an := anF ann
@[irreducible] def J1 (t6 s7 : Addr) (Q : VP) (h : Heap) : Prop := Jn PP true (cd 15) (mkFr 0 73 [(6, (.pointer (some t6))), (7, (.pointer (some s7)))]) (bodyK PP Tryz.f13 Q) h
theorem J1_of {t6 s7 : Addr} {Q : VP} {h : Heap} (H :
∃ (t72f0 t72f1 : Int) (t72f2 t72f3 t72f4 t72f5 t72f6 : ByteArray) (t72f7 : OA) (t72f7n t72f7c : Nat) (t72f8 : Int), rdCells h s7 0 [.int .i64 t72f0, .int .i64 t72f1, .string t72f2, .string t72f3, .string t72f4, .string t72f5, .string t72f6, (.slice t72f7 t72f7n t72f7c), .int .i64 t72f8] ∧
wrCells t6 0 [.int .i64 t72f0, .int .i64 t72f1, .string t72f2, .string t72f3, .string t72f4, .string t72f5, .string t72f6, (.slice t72f7 t72f7n t72f7c), .int .i64 t72f8] (fun h1 =>
∃ (t6_1f0 t6_1f1 : Int) (t6_1f2 t6_1f3 t6_1f4 t6_1f5 t6_1f6 : ByteArray) (t6_1f7 : OA) (t6_1f7n t6_1f7c : Nat) (t6_1f8 : Int), rdCells h1 t6 0 [.int .i64 t6_1f0, .int .i64 t6_1f1, .string t6_1f2, .string t6_1f3, .string t6_1f4, .string t6_1f5, .string t6_1f6, (.slice t6_1f7 t6_1f7n t6_1f7c), .int .i64 t6_1f8] ∧
Q (.agg #[.int .i64 t6_1f0, .int .i64 t6_1f1, .string t6_1f2, .string t6_1f3, .string t6_1f4, .string t6_1f5, .string t6_1f6, (.slice t6_1f7 t6_1f7n t6_1f7c), .int .i64 t6_1f8]) h1) h) : J1 t6 s7 Q h := by unfold J1; exact Jn.of_txt (an 15) (by kernel_rfl) H
theorem door {m0 : OA} {xn1 o2f0 o2f1 : Int} {o2f2 o2f3 o2f4 o2f5 : ByteArray} {Q : VP} {h : Heap} (H :
let o5 : Addr := ⟨Array.size h, 0, none⟩
let h1 : Heap := Array.push h (.cells #[.int .i64 o2f0, .int .i64 o2f1, .string o2f2, .string o2f3, .string o2f4, .string o2f5] y58 (0, 0))
let t6 : Addr := ⟨Array.size h1, 0, none⟩
let h2 : Heap := Array.push h1 (.cells #[.int .i64 0, .int .i64 0, (.string (⟨#[]⟩ : ByteArray)), (.string (⟨#[]⟩ : ByteArray)), (.string (⟨#[]⟩ : ByteArray)), (.string (⟨#[]⟩ : ByteArray)), (.string (⟨#[]⟩ : ByteArray)), (.slice none 0 0), .int .i64 0] y35 (0, 0))
∃ (t8f0 t8f1 : Int) (t8f2 t8f3 t8f4 t8f5 : ByteArray), rdCells h2 o5 0 [.int .i64 t8f0, .int .i64 t8f1, .string t8f2, .string t8f3, .string t8f4, .string t8f5] ∧
let s7 : Addr := ⟨Array.size h2, 0, none⟩
let h3 : Heap := Array.push h2 (.cells #[.int .i64 0, .int .i64 0, (.string (⟨#[]⟩ : ByteArray)), (.string (⟨#[]⟩ : ByteArray)), (.string (⟨#[]⟩ : ByteArray)), (.string (⟨#[]⟩ : ByteArray)), (.string (⟨#[]⟩ : ByteArray)), (.slice none 0 0), .int .i64 0] y35 (0, 0))
wrCells s7 0 [.int .i64 t8f0, .int .i64 t8f1, .string t8f2, .string t8f3, .string t8f4, .string t8f5, (.string (⟨#[]⟩ : ByteArray)), (.slice none 0 0), .int .i64 0] (fun h4 =>
∃ (t11 : Int), cellH h4 o5 = some (.int .i64 t11) ∧
let t13 : Bool := (t11 == 2)
br t13 (
∃ (t18 : ByteArray), cellH h4 (Addr.add o5 3) = some (.string t18) ∧
∃ (t20 : ByteArray), cellH h4 (Addr.add o5 4) = some (.string t20) ∧
SpecH PP z411 [.pointer m0, .int .i64 xn1, .string t18, .string t20] h4 (fun v h5 => ∃ (t21 : ByteArray) (t21_1 : Int), v = (.tuple #[.string t21, .int .i64 t21_1]) ∧
wr (Addr.add s7 6) (.string t21) (fun h6 =>
wr (Addr.add s7 8) (.int .i64 t21_1) (fun h7 =>
J1 t6 s7 Q h7) h6) h5)) (
let t27 : Bool := (t11 == 3)
br t27 (
∃ (t32 : ByteArray), cellH h4 (Addr.add o5 3) = some (.string t32) ∧
SpecH PP z401 [.pointer m0, .int .i64 xn1, .string t32] h4 (fun v_1 h8 => ∃ (t33 : OA) (t33n t33c : Nat) (t33_1 : Int), v_1 = (.tuple #[(.slice t33 t33n t33c), .int .i64 t33_1]) ∧
wr (Addr.add s7 7) (.slice t33 t33n t33c) (fun h9 =>
wr (Addr.add s7 8) (.int .i64 t33_1) (fun h10 =>
J1 t6 s7 Q h10) h9) h8)) (
let t39 : Bool := (t11 == 4)
br t39 (
∃ (t43 : ByteArray), cellH h4 (Addr.add o5 3) = some (.string t43) ∧
∃ (t45 : ByteArray), cellH h4 (Addr.add o5 4) = some (.string t45) ∧
∃ (t47 : ByteArray), cellH h4 (Addr.add o5 5) = some (.string t47) ∧
SpecH PP z409 [.pointer m0, .int .i64 xn1, .string t43, .string t45, .string t47] h4 (fun v_2 h11 => ∃ (t48 : Int), v_2 = (.int .i64 t48) ∧
wr (Addr.add s7 8) (.int .i64 t48) (fun h12 =>
J1 t6 s7 Q h12) h11)) (
let t51 : Bool := (t11 == 5)
br t51 (
∃ (t55 : ByteArray), cellH h4 (Addr.add o5 3) = some (.string t55) ∧
∃ (t57 : ByteArray), cellH h4 (Addr.add o5 4) = some (.string t57) ∧
∃ (t59 : ByteArray), cellH h4 (Addr.add o5 5) = some (.string t59) ∧
SpecH PP z389 [.pointer m0, .int .i64 xn1, .string t55, .string t57, .string t59] h4 (fun v_3 h13 => ∃ (t60 : Int), v_3 = (.int .i64 t60) ∧
wr (Addr.add s7 8) (.int .i64 t60) (fun h14 =>
J1 t6 s7 Q h14) h13)) (
let t63 : Bool := (t11 == 6)
br t63 (
∃ (t67 : ByteArray), cellH h4 (Addr.add o5 3) = some (.string t67) ∧
∃ (t69 : ByteArray), cellH h4 (Addr.add o5 4) = some (.string t69) ∧
SpecH PP z397 [.pointer m0, .int .i64 xn1, .string t67, .string t69] h4 (fun v_4 h15 => ∃ (t70 : Int), v_4 = (.int .i64 t70) ∧
wr (Addr.add s7 8) (.int .i64 t70) (fun h16 =>
J1 t6 s7 Q h16) h15)) (
J1 t6 s7 Q h4)))))) h3) : SpecH PP z255 [.pointer m0, .int .i64 xn1, (.agg #[.int .i64 o2f0, .int .i64 o2f1, .string o2f2, .string o2f3, .string o2f4, .string o2f5])] h Q :=
  y12 (ann := ann) Tryz.func13 rfl rfl (by kernel_rfl) H
end z254
namespace z392
def ann : Ann := (.seq 19 (rg 2 19) (.seq 19 (.seq 4115 (rg 2 4115) (.cond (.seq 48 (rg 3 48) (.exit 48)) .leaf)) (.seq 209 (rg 11 209) (.seq 81 (.seq 16777297 (rg 2 16777297) (.cond (.seq 48 (rg 3 48) (.exit 48)) .leaf)) (.seq 337 (rg 6 337) (.seq 337 (.seq 8589934929 (rg 3 8589934929) (.cond (.seq 48 (rg 3 48) (.exit 48)) .leaf)) (.seq 337 (.seq 1924145348945 (rg 6 1924145348945) (.block (.loop 1924145348945 (.seq 4123168604497 (rg 1 4123168604497) (.seq 1924145348945 (.cond .leaf (.exit 337)) (.seq 1924145348945 (.block (.seq 1924145349969 (rg 4 1924145349969) (.seq 576462676448772433 (.tree (.run [0, 2, 3, 4, 5] (.alt 1 (.run [6, 7, 8, 9, 10, 11, 12, 13, 14, 15] .done) (.alt 6 (.run [1, 7, 8, 9, 10, 11, 12, 13, 14, 15] .done) .nil))) 576462676448772433) (.join (.cond (.seq 48 (rg 3 48) (.exit 48)) .leaf))))) (rg 2 1924145348945))))))) (.seq 273 (.seq 590295810358705651985 (rg 8 590295810358705651985) (.cond (.seq 48 (rg 3 48) (.exit 48)) .leaf)) (.seq 48 (rg 7 48) (.exit 48))))))))))
noncomputable abbrev cd := cdF Tryz.f14
abbrev an := anF ann
@[irreducible] def X0 (m0 : OA) (t4 : Addr) (t6 y108 : OA) (y98 y97 : Nat) : Fr := (mkFr 0 76 [(0, .pointer m0), (4, (.pointer (some t4))), (6, .pointer t6), (8, (.slice y108 y98 y97))])
@[irreducible] def Xret (t4 : Addr) (t5 : Int) : Fr := (mkFr 0 76 [(4, (.pointer (some t4))), (5, .int .i64 t5)])
@[irreducible] def L1 (m0 : OA) (t4 : Addr) (t6 y108 : OA) (y98 y97 : Nat) (t38 : OA) (t38n t38c : Nat) (t39 t40 : Int) (K : EP) (h : Heap) : Prop := Lp PP true (cd 2036) (mkFr 0 76 [(0, .pointer m0), (4, (.pointer (some t4))), (6, .pointer t6), (8, (.slice y108 y98 y97)), (38, (.slice t38 t38n t38c)), (39, .int .i64 t39), (40, .int .i64 t40)]) K h
@[irreducible] def B1 (K : EP) : EP := seqK (fun fr h => Lp PP true (cd 2036) (fr.mask 1924145348945) K h) K
@[irreducible] def K4 (K : EP) : EP := seqK (fun fr h => ev PP true none (cd 16295) (an 16295) (fr.mask 1924145348945) (B1 K) h) (B1 K)
@[irreducible] def K2 (K : EP) : EP := blockK 1 (K4 K)
@[irreducible] def J1 (m0 : OA) (t4 : Addr) (t6 y108 : OA) (y98 y97 : Nat) (t38 : OA) (t38n t38c : Nat) (t39 t40 : Int) (t59 : Bool) (K : EP) (h : Heap) : Prop := Jn PP true (cd 130355) (mkFr 0 76 [(0, .pointer m0), (4, (.pointer (some t4))), (6, .pointer t6), (8, (.slice y108 y98 y97)), (38, (.slice t38 t38n t38c)), (39, .int .i64 t39), (40, .int .i64 t40), (59, .bool t59)]) (K2 K) h
@[irreducible] def K3 (Q : VP) : EP := seqK (fun fr h => ev PP true none (cd 255) (an 255) (fr.mask 337) (bodyK PP Tryz.f14 Q) h) (bodyK PP Tryz.f14 Q)
@[irreducible] def K1 (Q : VP) : EP := blockK 0 (K3 Q)
theorem L1_of {m0 : OA} {t4 : Addr} {t6 y108 : OA} {y98 y97 : Nat} {t38 : OA} {t38n t38c : Nat} {t39 t40 : Int} {K : EP} {h : Heap} (H :
let t41 : Bool := decide (t40 < t39)
br t41 (
hwp PP (Instr.indexAt y88 (.slice t38 t38n t38c) (.int .i64 t40)) (fun v h1 => ∃ (t42 : Addr), v = (.pointer (some t42)) ∧
∃ (t43f0 : Int) (t43f1 : OA) (t43f1n t43f1c : Nat), rdCells h1 t42 0 [.int .i64 t43f0, (.slice t43f1 t43f1n t43f1c)] ∧
let c10 : Addr := ⟨Array.size h1, 0, none⟩
let h2 : Heap := Array.push h1 (.cells #[.int .i64 0, (.slice none 0 0)] y36 (0, 0))
wrCells c10 0 [.int .i64 t43f0, (.slice t43f1 t43f1n t43f1c)] (fun h3 =>
nilc t6 (fun t47 =>
∃ (t49 : OA), cellH h3 (Addr.add t47 1) = some (.pointer t49) ∧
(
∃ (t45_1 : Int), cellH h3 c10 = some (.int .i64 t45_1) ∧
SpecH PP z440 [.pointer t49] h3 (fun v_3 h6 => ∃ (t50_1 : Int), v_3 = (.int .i64 t50_1) ∧
let t51_1 : Bool := decide (t45_1 > t50_1)
br t51_1 (
nilc t6 (fun t54_1 =>
∃ (t56_1 : OA), cellH h6 (Addr.add t54_1 1) = some (.pointer t56_1) ∧
∃ (t57_1f0 : Int) (t57_1f1 : OA) (t57_1f1n t57_1f1c : Nat), rdCells h6 c10 0 [.int .i64 t57_1f0, (.slice t57_1f1 t57_1f1n t57_1f1c)] ∧
SpecH PP z442 [.pointer t56_1, (.agg #[.int .i64 t57_1f0, (.slice t57_1f1 t57_1f1n t57_1f1c)])] h6 (fun v_4 h7 => ∃ (t58_1 : Bool), v_4 = (.bool t58_1) ∧
J1 m0 t4 t6 y108 y98 y97 t38 t38n t38c t39 t40 t58_1 K h7))) (
J1 m0 t4 t6 y108 y98 y97 t38 t38n t38c t39 t40 false K h6))) ∧
(
SpecH PP z440 [.pointer t49] h3 (fun v_1 h4 => ∃ (t50 : Int), v_1 = (.int .i64 t50) ∧
∃ (t45 : Int), cellH h4 c10 = some (.int .i64 t45) ∧
let t51 : Bool := decide (t45 > t50)
br t51 (
nilc t6 (fun t54 =>
∃ (t56 : OA), cellH h4 (Addr.add t54 1) = some (.pointer t56) ∧
∃ (t57f0 : Int) (t57f1 : OA) (t57f1n t57f1c : Nat), rdCells h4 c10 0 [.int .i64 t57f0, (.slice t57f1 t57f1n t57f1c)] ∧
SpecH PP z442 [.pointer t56, (.agg #[.int .i64 t57f0, (.slice t57f1 t57f1n t57f1c)])] h4 (fun v_2 h5 => ∃ (t58 : Bool), v_2 = (.bool t58) ∧
J1 m0 t4 t6 y108 y98 y97 t38 t38n t38c t39 t40 t58 K h5))) (
J1 m0 t4 t6 y108 y98 y97 t38 t38n t38c t39 t40 false K h4))) ∧
True)) h2) h) (
K (.exit 0) (X0 m0 t4 t6 y108 y98 y97) h)) : L1 m0 t4 t6 y108 y98 y97 t38 t38n t38c t39 t40 K h := by unfold L1; exact Lp.of_txt (an 2036) 1924145348945 (by kernel_rfl) H
theorem L1_X0 {Q : VP} {m0 : OA} {t4 : Addr} {t6 y108 : OA} {y98 y97 : Nat} {h : Heap} (H :
nilc t6 (fun t64 =>
∃ (t66 : ByteArray), cellH h t64 = some (.string t66) ∧
SpecH PP z423 [.pointer m0, .string t66, (.slice y108 y98 y97)] h (fun v h1 => ∃ (t68 : Bool), v = (.bool t68) ∧
let t69 : Bool := (!t68)
br t69 (
wrCells t4 0 [.int .i64 0, (.slice none 0 0)] (fun h2 =>
∃ (t4_1f0 : Int) (t4_1f1 : OA) (t4_1f1n t4_1f1c : Nat), rdCells h2 t4 0 [.int .i64 t4_1f0, (.slice t4_1f1 t4_1f1n t4_1f1c)] ∧
Q (.tuple #[(.agg #[.int .i64 t4_1f0, (.slice t4_1f1 t4_1f1n t4_1f1c)]), .int .i64 145]) h2) h1) (
SpecH PP z403 [.pointer m0] h1 (fun v_1 h3 => ∃ (t72 : Int), v_1 = (.int .i64 t72) ∧
let t73 : Int := IntKind.i64.wrap (t72 + 1)
wrCells t4 0 [.int .i64 t73, (.slice y108 y98 y97)] (fun h4 =>
∃ (t4_2f0 : Int) (t4_2f1 : OA) (t4_2f1n t4_2f1c : Nat), rdCells h4 t4 0 [.int .i64 t4_2f0, (.slice t4_2f1 t4_2f1n t4_2f1c)] ∧
Q (.tuple #[(.agg #[.int .i64 t4_2f0, (.slice t4_2f1 t4_2f1n t4_2f1c)]), .int .i64 0]) h4) h3))))) : (K1 Q) (.exit 0) (X0 m0 t4 t6 y108 y98 y97) h := y20 (by kernel_rfl) H
theorem J1_of {m0 : OA} {t4 : Addr} {t6 y108 : OA} {y98 y97 : Nat} {t38 : OA} {t38n t38c : Nat} {t39 t40 : Int} {t59 : Bool} {K : EP} {h : Heap} (H :
br t59 (
wrCells t4 0 [.int .i64 0, (.slice none 0 0)] (fun h1 =>
K .ret (Xret t4 142) h1) h) (
let t61 : Int := IntKind.i64.wrap (t40 + 1)
L1 m0 t4 t6 y108 y98 y97 t38 t38n t38c t39 t61 K h)) : J1 m0 t4 t6 y108 y98 y97 t38 t38n t38c t39 t40 t59 K h := by unfold J1; exact Jn.of_txt (an 130355) (by kernel_rfl) H
theorem L1_Xret {Q : VP} {t4 : Addr} {t5 : Int} {h : Heap} (H :
∃ (t4_1f0 : Int) (t4_1f1 : OA) (t4_1f1n t4_1f1c : Nat), rdCells h t4 0 [.int .i64 t4_1f0, (.slice t4_1f1 t4_1f1n t4_1f1c)] ∧
Q (.tuple #[(.agg #[.int .i64 t4_1f0, (.slice t4_1f1 t4_1f1n t4_1f1c)]), .int .i64 t5]) h) : (K1 Q) .ret (Xret t4 t5) h := y20 (by kernel_rfl) H
theorem door {m0 : OA} {txn1 : Int} {Q : VP} {h : Heap} (H :
let t4 : Addr := ⟨Array.size h, 0, none⟩
let h1 : Heap := Array.push h (.cells #[.int .i64 0, (.slice none 0 0)] y36 (0, 0))
let t12 : Bool := (Option.isNone m0)
br t12 (
wrCells t4 0 [.int .i64 0, (.slice none 0 0)] (fun h2 =>
∃ (t4_1f0 : Int) (t4_1f1 : OA) (t4_1f1n t4_1f1c : Nat), rdCells h2 t4 0 [.int .i64 t4_1f0, (.slice t4_1f1 t4_1f1n t4_1f1c)] ∧
Q (.tuple #[(.agg #[.int .i64 t4_1f0, (.slice t4_1f1 t4_1f1n t4_1f1c)]), .int .i64 3]) h2) h1) (
nilc m0 (fun t16 =>
∃ (t18 : ON), cellH h1 (Addr.add t16 2) = some (.map t18) ∧
hwp PP (Instr.lookup y44 (.map t18) (.int .i64 txn1) true) (fun v h3 => ∃ (t20 : OA) (t20_1 : Bool), v = (.tuple #[.pointer t20, .bool t20_1]) ∧
let t24 : Bool := (!t20_1)
br t24 (
wrCells t4 0 [.int .i64 0, (.slice none 0 0)] (fun h4 =>
∃ (t4_2f0 : Int) (t4_2f1 : OA) (t4_2f1n t4_2f1c : Nat), rdCells h4 t4 0 [.int .i64 t4_2f0, (.slice t4_2f1 t4_2f1n t4_2f1c)] ∧
Q (.tuple #[(.agg #[.int .i64 t4_2f0, (.slice t4_2f1 t4_2f1n t4_2f1c)]), .int .i64 140]) h4) h3) (
nilc t20 (fun t27 =>
∃ (t29 : OA), cellH h3 (Addr.add t27 1) = some (.pointer t29) ∧
SpecH PP z456 [.pointer t29] h3 (fun v_1 h5 => ∃ (t30 : OA) (t30n t30c : Nat), v_1 = (.slice t30 t30n t30c) ∧
let t33 : Bool := ((t30n : Int) == 0)
br t33 (
wrCells t4 0 [.int .i64 0, (.slice none 0 0)] (fun h6 =>
∃ (t4_3f0 : Int) (t4_3f1 : OA) (t4_3f1n t4_3f1c : Nat), rdCells h6 t4 0 [.int .i64 t4_3f0, (.slice t4_3f1 t4_3f1n t4_3f1c)] ∧
Q (.tuple #[(.agg #[.int .i64 t4_3f0, (.slice t4_3f1 t4_3f1n t4_3f1c)]), .int .i64 0]) h6) h5) (
nilc m0 (fun t36 =>
∃ (t38 : OA) (t38n t38c : Nat), cellH h5 (Addr.add t36 1) = some (.slice t38 t38n t38c) ∧
L1 m0 t4 t20 t30 t30n t30c t38 t38n t38c (t38n : Int) 0 (K1 Q) h5)))))) h1))) : SpecH PP z393 [.pointer m0, .int .i64 txn1] h Q :=
  y12 (ann := ann) Tryz.func14 rfl rfl (by kernel_rfl) H
end z392
namespace z402
def ann : Ann := (.seq 1 (rg 1 1) (.seq 1 (.seq 17 (rg 2 17) (.cond (.seq 4 (rg 1 4) (.exit 4)) .leaf)) (.seq 4 (rg 7 4) (.exit 4))))
theorem door {m0 : OA} {Q : VP} {h : Heap} (H :
let t4 : Bool := (Option.isNone m0)
br t4 (
Q (.int .i64 0) h) (
nilc m0 (fun t6 =>
∃ (t8 : OA), cellH h t6 = some (.pointer t8) ∧
SpecH PP z223 [.pointer t8] h (fun v h1 => ∃ (t9 : Int), v = (.int .i64 t9) ∧
let t10 : Int := IntKind.i64.wrap (t9 - 1)
Q (.int .i64 t10) h1)))) : SpecH PP z403 [.pointer m0] h Q :=
  y12 (ann := ann) Tryz.func15 rfl rfl (by kernel_rfl) H
end z402
namespace z410
def ann : Ann := (.seq 15 (rg 2 15) (.seq 7169 (rg 14 7169) (.seq 3073 (.seq 134224897 (rg 2 134224897) (.cond (.seq 768 (rg 3 768) (.exit 768)) .leaf)) (.seq 60416 (rg 11 60416) (.seq 24576 (.seq 274877934592 (rg 2 274877934592) (.cond (rg 6 24576) .leaf)) (.join (.seq 8192 (.seq 70368744185856 (rg 2 70368744185856) (.cond (.seq 768 (rg 2 768) (.exit 768)) .leaf)) (.seq 768 (rg 3 768) (.exit 768)))))))))
noncomputable abbrev cd := cdF Tryz.f16
abbrev an := anF ann
@[irreducible] def J1 (data13 : ByteArray) (there14 : Bool) (Q : VP) (h : Heap) : Prop := Jn PP true (cd 63) (mkFr 0 48 [(13, .string data13), (14, .bool there14)]) (bodyK PP Tryz.f16 Q) h
theorem J1_of {data13 : ByteArray} {there14 : Bool} {Q : VP} {h : Heap} (H :
let t46 : Bool := (!there14)
br t46 (
Q (.tuple #[(.string (⟨#[]⟩ : ByteArray)), .int .i64 144]) h) (
Q (.tuple #[.string data13, .int .i64 0]) h)) : J1 data13 there14 Q h := by unfold J1; exact Jn.of_txt (an 63) (by kernel_rfl) H
theorem door {m0 : OA} {txn1 : Int} {y82 y115 : ByteArray} {Q : VP} {h : Heap} (H :
let h1 : Heap := Array.push h (.cells #[.string y115] y29 (0, 0))
SpecH PP z415 [.pointer m0, .int .i64 txn1, .string y82, (.slice (some ⟨Array.size h, 0, none⟩) 1 1)] h1 (fun v h2 => ∃ (t22 : OA) (t22_1f0 t22_1f1 t22_1f2 : ByteArray) (t22_2 : Int), v = (.tuple #[.pointer t22, (.agg #[.string t22_1f0, .string t22_1f1, .string t22_1f2]), .int .i64 t22_2]) ∧
let k11 : Addr := ⟨Array.size h2, 0, none⟩
let h3 : Heap := Array.push h2 (.cells #[(.string (⟨#[]⟩ : ByteArray)), (.string (⟨#[]⟩ : ByteArray)), (.string (⟨#[]⟩ : ByteArray))] y23 (0, 0))
wrCells k11 0 [.string t22_1f0, .string t22_1f1, .string t22_1f2] (fun h4 =>
let t27 : Bool := (t22_2 != 0)
br t27 (
Q (.tuple #[(.string (⟨#[]⟩ : ByteArray)), .int .i64 t22_2]) h4) (
∃ (t32f0 t32f1 t32f2 : ByteArray), rdCells h4 k11 0 [.string t32f0, .string t32f1, .string t32f2] ∧
SpecH PP z429 [.pointer m0, .pointer t22, (.agg #[.string t32f0, .string t32f1, .string t32f2])] h4 (fun v_1 h5 => ∃ (t33 : ByteArray) (t33_1 t33_2 : Bool), v_1 = (.tuple #[.string t33, .bool t33_1, .bool t33_2]) ∧
let t38 : Bool := (!t33_2)
br t38 (
nilc t22 (fun t40 =>
∃ (t42 : OA), cellH h5 (Addr.add t40 1) = some (.pointer t42) ∧
∃ (t43f0 t43f1 t43f2 : ByteArray), rdCells h5 k11 0 [.string t43f0, .string t43f1, .string t43f2] ∧
SpecH PP z454 [.pointer t42, (.agg #[.string t43f0, .string t43f1, .string t43f2])] h5 (fun v_2 h6 => v_2 = (.tuple #[]) ∧
J1 t33 t33_1 Q h6))) (
J1 t33 t33_1 Q h5)))) h3)) : SpecH PP z411 [.pointer m0, .int .i64 txn1, .string y82, .string y115] h Q :=
  y12 (ann := ann) Tryz.func16 rfl rfl (by kernel_rfl) H
end z410
namespace z278
end z278
namespace z262
def ann : Ann := (.seq 3 (rg 1 3) (.seq 0 (.seq 35 (rg 1 35) (.block (.loop 35 (.seq 35 (.seq 547 (rg 4 547) (.cond .leaf (.exit 0))) (.seq 35 (.block (.seq 1073741859 (rg 19 1073741859) (.join (.cond (.seq 16 (rg 2 16) (.exit 16)) .leaf)))) (rg 3 35)))))) (.seq 16 (rg 1 16) (.exit 16))))
noncomputable abbrev cd := cdF Tryz.f18
abbrev an := anF ann
@[irreducible] def X0  : Fr := (mkFr 0 32 [])
@[irreducible] def Xret (t4 : Int) : Fr := (mkFr 0 32 [(4, .int .i64 t4)])
@[irreducible] def L1 (xl0 : OA) (xl0n xl0c : Nat) (xn1 i5 : Int) (K : EP) (h : Heap) : Prop := Lp PP true (cd 52) (mkFr 0 32 [(0, (.slice xl0 xl0n xl0c)), (1, .int .i64 xn1), (5, .int .i64 i5)]) K h
@[irreducible] def B1 (K : EP) : EP := seqK (fun fr h => Lp PP true (cd 52) (fr.mask 35) K h) K
@[irreducible] def K4 (K : EP) : EP := seqK (fun fr h => ev PP true none (cd 211) (an 211) (fr.mask 35) (B1 K) h) (B1 K)
@[irreducible] def K2 (K : EP) : EP := blockK 1 (K4 K)
@[irreducible] def J1 (xl0 : OA) (xl0n xl0c : Nat) (xn1 i5 : Int) (t30 : Bool) (K : EP) (h : Heap) : Prop := Jn PP true (cd 841) (mkFr 0 32 [(0, (.slice xl0 xl0n xl0c)), (1, .int .i64 xn1), (5, .int .i64 i5), (30, .bool t30)]) (K2 K) h
@[irreducible] def K3 (Q : VP) : EP := seqK (fun fr h => ev PP true none (cd 7) (an 7) (fr.mask 0) (bodyK PP Tryz.f18 Q) h) (bodyK PP Tryz.f18 Q)
@[irreducible] def K1 (Q : VP) : EP := blockK 0 (K3 Q)
theorem L1_of {xl0 : OA} {xl0n xl0c : Nat} {xn1 i5 : Int} {K : EP} {h : Heap} (H :
let t9 : Bool := decide (i5 < (xl0n : Int))
br t9 (
hwp PP (Instr.indexAt y30 (.slice xl0 xl0n xl0c) (.int .i64 i5)) (fun v h1 => ∃ (t14 : Addr), v = (.pointer (some t14)) ∧
∃ (t15 : OA), cellH h1 t14 = some (.pointer t15) ∧
nilc t15 (fun t16 =>
∃ (t18 : Int), cellH h1 t16 = some (.int .i64 t18) ∧
let t20 : Bool := (t18 == xn1)
br t20 (
hwp PP (Instr.indexAt y30 (.slice xl0 xl0n xl0c) (.int .i64 i5)) (fun v_1 h2 => ∃ (t24 : Addr), v_1 = (.pointer (some t24)) ∧
∃ (t25 : OA), cellH h2 t24 = some (.pointer t25) ∧
nilc t25 (fun t26 =>
∃ (t28 : Bool), cellH h2 (Addr.add t26 4) = some (.bool t28) ∧
let t29 : Bool := (!t28)
J1 xl0 xl0n xl0c xn1 i5 t29 K h2)) h1) (
J1 xl0 xl0n xl0c xn1 i5 false K h1))) h) (
K (.exit 0) (X0) h)) : L1 xl0 xl0n xl0c xn1 i5 K h := by unfold L1; exact Lp.of_txt (an 52) 35 (by kernel_rfl) H
theorem L1_X0 {Q : VP}  {h : Heap} (H :
Q (.int .i64 (-1)) h) : (K1 Q) (.exit 0) (X0 ) h := y20 (by kernel_rfl) H
theorem J1_of {xl0 : OA} {xl0n xl0c : Nat} {xn1 i5 : Int} {t30 : Bool} {K : EP} {h : Heap} (H :
br t30 (
K .ret (Xret i5) h) (
let t11 : Int := IntKind.i64.wrap (i5 + 1)
L1 xl0 xl0n xl0c xn1 t11 K h)) : J1 xl0 xl0n xl0c xn1 i5 t30 K h := by unfold J1; exact Jn.of_txt (an 841) (by kernel_rfl) H
theorem L1_Xret {Q : VP} {t4 : Int} {h : Heap} (H :
Q (.int .i64 t4) h) : (K1 Q) .ret (Xret t4) h := y20 (by kernel_rfl) H
theorem door {xl0 : OA} {xl0n xl0c : Nat} {xn1 : Int} {Q : VP} {h : Heap} (H :
L1 xl0 xl0n xl0c xn1 0 (K1 Q) h) : SpecH PP z263 [(.slice xl0 xl0n xl0c), .int .i64 xn1] h Q :=
  y12 (ann := ann) Tryz.func18 rfl rfl (by kernel_rfl) H
end z262
namespace z386
def ann : Ann := (.seq 3 (rg 1 3) (.seq 3 (.seq 67 (rg 8 67) (.seq 16451 (rg 2 16451) (.cond (.seq 16 (rg 2 16) (.exit 16)) .leaf))) (.seq 0 (rg 3 0) (.seq 16 (rg 1 16) (.exit 16)))))
theorem door {m0 : OA} {txn1 : Int} {Q : VP} {h : Heap} (H :
SpecH PP z407 [.pointer m0, .int .i64 txn1] h (fun v h1 => ∃ (t10 : ByteArray) (t10_1 : Int), v = (.tuple #[.string t10, .int .i64 t10_1]) ∧
let t14 : Bool := (t10_1 != 0)
br t14 (
Q (.int .i64 t10_1) h1) (
SpecH PP z419 [.pointer m0, .int .i64 txn1] h1 (fun v_1 h2 => v_1 = (.tuple #[]) ∧
Q (.int .i64 0) h2)))) : SpecH PP z387 [.pointer m0, .int .i64 txn1] h Q :=
  y12 (ann := ann) Tryz.func19 rfl rfl (by kernel_rfl) H
end z386
namespace z256
def ann : Ann := (.seq 3 (rg 1 3) (.seq 99 (rg 11 99) (.seq 35 (.seq 2097187 (rg 2 2097187) (.cond (.seq 16 (rg 1 16) (.exit 16)) .leaf)) (.seq 35 (.seq 163 (rg 1 163) (.block (.loop 163 (.seq 163 (.seq 268435619 (rg 7 268435619) (.cond .leaf (.exit 35))) (.seq 163 (.block (.seq 419 (rg 13 419) (.seq 604462909807314587353251 (rg 38 604462909807314587353251) (.join (.cond (.seq 16 (rg 1 16) (.exit 16)) .leaf))))) (rg 3 163)))))) (.seq 1538 (rg 8 1538) (.seq 16 (rg 12 16) (.exit 16)))))))
noncomputable abbrev cd := cdF Tryz.f20
abbrev an := anF ann
@[irreducible] def X0 (m0 x1 : OA) (xn5 : Int) : Fr := (mkFr 0 97 [(0, .pointer m0), (1, .pointer x1), (5, .int .i64 xn5)])
@[irreducible] def Xret (t4 : Bool) : Fr := (mkFr 0 97 [(4, .bool t4)])
@[irreducible] def L1 (m0 x1 : OA) (xn5 i7 : Int) (K : EP) (h : Heap) : Prop := Lp PP true (cd 244) (mkFr 0 97 [(0, .pointer m0), (1, .pointer x1), (5, .int .i64 xn5), (7, .int .i64 i7)]) K h
@[irreducible] def B1 (K : EP) : EP := seqK (fun fr h => Lp PP true (cd 244) (fr.mask 163) K h) K
@[irreducible] def K4 (K : EP) : EP := seqK (fun fr h => ev PP true none (cd 979) (an 979) (fr.mask 163) (B1 K) h) (B1 K)
@[irreducible] def K2 (K : EP) : EP := blockK 1 (K4 K)
@[irreducible] def J1 (m0 x1 : OA) (xn5 i7 : Int) (t79 : Bool) (K : EP) (h : Heap) : Prop := Jn PP true (cd 7827) (mkFr 0 97 [(0, .pointer m0), (1, .pointer x1), (5, .int .i64 xn5), (7, .int .i64 i7), (79, .bool t79)]) (K2 K) h
@[irreducible] def K3 (Q : VP) : EP := seqK (fun fr h => ev PP true none (cd 31) (an 31) (fr.mask 35) (bodyK PP Tryz.f20 Q) h) (bodyK PP Tryz.f20 Q)
@[irreducible] def K1 (Q : VP) : EP := blockK 0 (K3 Q)
theorem L1_of {m0 x1 : OA} {xn5 i7 : Int} {K : EP} {h : Heap} (H :
nilc x1 (fun t24 =>
∃ (t26 : OA) (t26n t26c : Nat), cellH h (Addr.add t24 6) = some (.slice t26 t26n t26c) ∧
let t28 : Bool := decide (i7 < (t26n : Int))
br t28 (
nilc x1 (fun t34 =>
∃ (t36 : OA) (t36n t36c : Nat), cellH h (Addr.add t34 6) = some (.slice t36 t36n t36c) ∧
hwp PP (Instr.indexAt y72 (.slice t36 t36n t36c) (.int .i64 i7)) (fun v h1 => ∃ (t38 : Addr), v = (.pointer (some t38)) ∧
∃ (t40f0 t40f1 : Int) (t40f2 t40f3 t40f4 t40f5 : ByteArray), rdCells h1 t38 0 [.int .i64 t40f0, .int .i64 t40f1, .string t40f2, .string t40f3, .string t40f4, .string t40f5] ∧
SpecH PP z255 [.pointer m0, .int .i64 xn5, (.agg #[.int .i64 t40f0, .int .i64 t40f1, .string t40f2, .string t40f3, .string t40f4, .string t40f5])] h1 (fun v_1 h2 => ∃ (t41f0 t41f1 : Int) (t41f2 t41f3 t41f4 t41f5 t41f6 : ByteArray) (t41f7 : OA) (t41f7n t41f7c : Nat) (t41f8 : Int), v_1 = (.agg #[.int .i64 t41f0, .int .i64 t41f1, .string t41f2, .string t41f3, .string t41f4, .string t41f5, .string t41f6, (.slice t41f7 t41f7n t41f7c), .int .i64 t41f8]) ∧
let s8 : Addr := ⟨Array.size h2, 0, none⟩
let h3 : Heap := Array.push h2 (.cells #[.int .i64 0, .int .i64 0, (.string (⟨#[]⟩ : ByteArray)), (.string (⟨#[]⟩ : ByteArray)), (.string (⟨#[]⟩ : ByteArray)), (.string (⟨#[]⟩ : ByteArray)), (.string (⟨#[]⟩ : ByteArray)), (.slice none 0 0), .int .i64 0] y35 (0, 0))
wrCells s8 0 [.int .i64 t41f0, .int .i64 t41f1, .string t41f2, .string t41f3, .string t41f4, .string t41f5, .string t41f6, (.slice t41f7 t41f7n t41f7c), .int .i64 t41f8] (fun h4 =>
∃ (t43 : Int), cellH h4 (Addr.add s8 8) = some (.int .i64 t43) ∧
nilc x1 (fun t45 =>
∃ (t47 : OA) (t47n t47c : Nat), cellH h4 (Addr.add t45 6) = some (.slice t47 t47n t47c) ∧
hwp PP (Instr.indexAt y72 (.slice t47 t47n t47c) (.int .i64 i7)) (fun v_2 h5 => ∃ (t49 : Addr), v_2 = (.pointer (some t49)) ∧
∃ (t51 : Int), cellH h5 (Addr.add t49 8) = some (.int .i64 t51) ∧
let t52 : Bool := (t43 != t51)
br t52 (
J1 m0 x1 xn5 i7 true K h5) (
∃ (t55 : ByteArray), cellH h5 (Addr.add s8 6) = some (.string t55) ∧
nilc x1 (fun t57 =>
∃ (t59 : OA) (t59n t59c : Nat), cellH h5 (Addr.add t57 6) = some (.slice t59 t59n t59c) ∧
hwp PP (Instr.indexAt y72 (.slice t59 t59n t59c) (.int .i64 i7)) (fun v_3 h6 => ∃ (t61 : Addr), v_3 = (.pointer (some t61)) ∧
∃ (t63 : ByteArray), cellH h6 (Addr.add t61 6) = some (.string t63) ∧
let t64 : Bool := (!decide (t55 = t63))
br t64 (
J1 m0 x1 xn5 i7 true K h6) (
∃ (t68 : OA) (t68n t68c : Nat), cellH h6 (Addr.add s8 7) = some (.slice t68 t68n t68c) ∧
nilc x1 (fun t70 =>
∃ (t72 : OA) (t72n t72c : Nat), cellH h6 (Addr.add t70 6) = some (.slice t72 t72n t72c) ∧
hwp PP (Instr.indexAt y72 (.slice t72 t72n t72c) (.int .i64 i7)) (fun v_4 h7 => ∃ (t74 : Addr), v_4 = (.pointer (some t74)) ∧
∃ (t76 : OA) (t76n t76c : Nat), cellH h7 (Addr.add t74 7) = some (.slice t76 t76n t76c) ∧
SpecH PP z247 [(.slice t68 t68n t68c), (.slice t76 t76n t76c)] h7 (fun v_5 h8 => ∃ (t77 : Bool), v_5 = (.bool t77) ∧
let t78 : Bool := (!t77)
J1 m0 x1 xn5 i7 t78 K h8)) h6))) h5))) h4)) h3)) h)) (
K (.exit 0) (X0 m0 x1 xn5) h))) : L1 m0 x1 xn5 i7 K h := by unfold L1; exact Lp.of_txt (an 244) 163 (by kernel_rfl) H
theorem L1_X0 {Q : VP} {m0 x1 : OA} {xn5 : Int} {h : Heap} (H :
SpecH PP z395 [.pointer m0, .int .i64 xn5] h (fun v h1 => ∃ (t83 t83_1 : Int), v = (.tuple #[.int .i64 t83, .int .i64 t83_1]) ∧
let t87 : Bool := (t83_1 == 0)
br t87 (
let t90 : Bool := decide (t83 > 0)
nilc x1 (fun t92 =>
∃ (t94 : Bool), cellH h1 (Addr.add t92 3) = some (.bool t94) ∧
let t95 : Bool := (t90 == t94)
Q (.bool t95) h1)) (
Q (.bool false) h1))) : (K1 Q) (.exit 0) (X0 m0 x1 xn5) h := y20 (by kernel_rfl) H
theorem J1_of {m0 x1 : OA} {xn5 i7 : Int} {t79 : Bool} {K : EP} {h : Heap} (H :
br t79 (
K .ret (Xret false) h) (
let t30 : Int := IntKind.i64.wrap (i7 + 1)
L1 m0 x1 xn5 t30 K h)) : J1 m0 x1 xn5 i7 t79 K h := by unfold J1; exact Jn.of_txt (an 7827) (by kernel_rfl) H
theorem door {m0 x1 : OA} {Q : VP} {h : Heap} (H :
nilc x1 (fun t14 =>
∃ (t16 : ByteArray), cellH h (Addr.add t14 5) = some (.string t16) ∧
SpecH PP z391 [.pointer m0, .string t16] h (fun v h1 => ∃ (t17 t17_1 : Int), v = (.tuple #[.int .i64 t17, .int .i64 t17_1]) ∧
let t21 : Bool := (t17_1 != 0)
br t21 (
Q (.bool false) h1) (
L1 m0 x1 t17 0 (K1 Q) h1)))) : SpecH PP z257 [.pointer m0, .pointer x1] h Q :=
  y12 (ann := ann) Tryz.func20 rfl rfl (by kernel_rfl) H
end z256
namespace z280
def ann : Ann := (.seq 3 (rg 1 3) (.seq 3 (.seq 2051 (rg 5 2051) (.cond (.seq 16 (rg 1 16) (.exit 16)) .leaf)) (.seq 0 (.seq 35 (rg 1 35) (.block (.loop 35 (.seq 35 (.seq 32803 (rg 4 32803) (.cond .leaf (.exit 0))) (.seq 35 (.block (.seq 35 (.seq 72057594037927971 (rg 39 72057594037927971) (.join (.cond (.seq 16 (rg 1 16) (.exit 16)) .leaf))) (.seq 99 (rg 1 99) (.block (.loop 99 (.seq 99 (.seq 18446744073709551715 (rg 8 18446744073709551715) (.cond .leaf (.exit 35))) (.seq 99 (.block (.seq 9671406556917033397649507 (rg 17 9671406556917033397649507) (.cond (.seq 16 (rg 1 16) (.exit 16)) .leaf))) (rg 3 99)))))))) (rg 3 35)))))) (.seq 16 (rg 1 16) (.exit 16)))))
noncomputable abbrev cd := cdF Tryz.f21
abbrev an := anF ann
@[irreducible] def X0  : Fr := (mkFr 0 84 [])
@[irreducible] def Xret (t4 : Bool) : Fr := (mkFr 0 84 [(4, .bool t4)])
@[irreducible] def X2 (a0 : OA) (a0n a0c : Nat) (b1 : OA) (b1n b1c : Nat) (i5 : Int) : Fr := (mkFr 0 84 [(0, (.slice a0 a0n a0c)), (1, (.slice b1 b1n b1c)), (5, .int .i64 i5)])
@[irreducible] def L1 (a0 : OA) (a0n a0c : Nat) (b1 : OA) (b1n b1c : Nat) (i5 : Int) (K : EP) (h : Heap) : Prop := Lp PP true (cd 116) (mkFr 0 84 [(0, (.slice a0 a0n a0c)), (1, (.slice b1 b1n b1c)), (5, .int .i64 i5)]) K h
@[irreducible] def B1 (K : EP) : EP := seqK (fun fr h => Lp PP true (cd 116) (fr.mask 35) K h) K
@[irreducible] def K6 (K : EP) : EP := seqK (fun fr h => ev PP true none (cd 467) (an 467) (fr.mask 35) (B1 K) h) (B1 K)
@[irreducible] def K5 (K : EP) : EP := blockK 1 (K6 K)
@[irreducible] def K2 (K : EP) : EP := seqK (fun fr h => ev PP true none (cd 1865) (an 1865) (fr.mask 35) (K5 K) h) (K5 K)
@[irreducible] def J1 (a0 : OA) (a0n a0c : Nat) (b1 : OA) (b1n b1c : Nat) (i5 : Int) (t56 : Bool) (K : EP) (h : Heap) : Prop := Jn PP true (cd 3729) (mkFr 0 84 [(0, (.slice a0 a0n a0c)), (1, (.slice b1 b1n b1c)), (5, .int .i64 i5), (56, .bool t56)]) (K2 K) h
@[irreducible] def K4 (Q : VP) : EP := seqK (fun fr h => ev PP true none (cd 15) (an 15) (fr.mask 0) (bodyK PP Tryz.f21 Q) h) (bodyK PP Tryz.f21 Q)
@[irreducible] def K1 (Q : VP) : EP := blockK 0 (K4 Q)
@[irreducible] def K3 (K : EP) : EP := blockK 2 (K5 K)
@[irreducible] def L2 (a0 : OA) (a0n a0c : Nat) (b1 : OA) (b1n b1c : Nat) (i5 k6 : Int) (K : EP) (h : Heap) : Prop := Lp PP true (cd 14924) (mkFr 0 84 [(0, (.slice a0 a0n a0c)), (1, (.slice b1 b1n b1c)), (5, .int .i64 i5), (6, .int .i64 k6)]) K h
theorem L1_of {a0 : OA} {a0n a0c : Nat} {b1 : OA} {b1n b1c : Nat} {i5 : Int} {K : EP} {h : Heap} (H :
let t15 : Bool := decide (i5 < (a0n : Int))
br t15 (
hwp PP (Instr.indexAt y42 (.slice a0 a0n a0c) (.int .i64 i5)) (fun v h1 => ∃ (t20 : Addr), v = (.pointer (some t20)) ∧
∃ (t22 : ByteArray), cellH h1 t20 = some (.string t22) ∧
hwp PP (Instr.indexAt y42 (.slice b1 b1n b1c) (.int .i64 i5)) (fun v_1 h2 => ∃ (t25 : Addr), v_1 = (.pointer (some t25)) ∧
∃ (t27 : ByteArray), cellH h2 t25 = some (.string t27) ∧
let t28 : Bool := (!decide (t22 = t27))
br t28 (
J1 a0 a0n a0c b1 b1n b1c i5 true K h2) (
hwp PP (Instr.indexAt y42 (.slice a0 a0n a0c) (.int .i64 i5)) (fun v_2 h3 => ∃ (t32 : Addr), v_2 = (.pointer (some t32)) ∧
∃ (t34 : ByteArray), cellH h3 (Addr.add t32 1) = some (.string t34) ∧
hwp PP (Instr.indexAt y42 (.slice b1 b1n b1c) (.int .i64 i5)) (fun v_3 h4 => ∃ (t37 : Addr), v_3 = (.pointer (some t37)) ∧
∃ (t39 : ByteArray), cellH h4 (Addr.add t37 1) = some (.string t39) ∧
let t40 : Bool := (!decide (t34 = t39))
br t40 (
J1 a0 a0n a0c b1 b1n b1c i5 true K h4) (
hwp PP (Instr.indexAt y42 (.slice a0 a0n a0c) (.int .i64 i5)) (fun v_4 h5 => ∃ (t45 : Addr), v_4 = (.pointer (some t45)) ∧
∃ (t47 : OA) (t47n t47c : Nat), cellH h5 (Addr.add t45 2) = some (.slice t47 t47n t47c) ∧
hwp PP (Instr.indexAt y42 (.slice b1 b1n b1c) (.int .i64 i5)) (fun v_5 h6 => ∃ (t51 : Addr), v_5 = (.pointer (some t51)) ∧
∃ (t53 : OA) (t53n t53c : Nat), cellH h6 (Addr.add t51 2) = some (.slice t53 t53n t53c) ∧
let t55 : Bool := ((t47n : Int) != (t53n : Int))
J1 a0 a0n a0c b1 b1n b1c i5 t55 K h6) h5) h4)) h3) h2)) h1) h) (
K (.exit 0) (X0) h)) : L1 a0 a0n a0c b1 b1n b1c i5 K h := by unfold L1; exact Lp.of_txt (an 116) 35 (by kernel_rfl) H
theorem L1_X0 {Q : VP}  {h : Heap} (H :
Q (.bool true) h) : (K1 Q) (.exit 0) (X0 ) h := y20 (by kernel_rfl) H
theorem J1_of {a0 : OA} {a0n a0c : Nat} {b1 : OA} {b1n b1c : Nat} {i5 : Int} {t56 : Bool} {K : EP} {h : Heap} (H :
br t56 (
K .ret (Xret false) h) (
L2 a0 a0n a0c b1 b1n b1c i5 0 (K3 K) h)) : J1 a0 a0n a0c b1 b1n b1c i5 t56 K h := by unfold J1; exact Jn.of_txt (an 3729) (by kernel_rfl) H
theorem L2_of {a0 : OA} {a0n a0c : Nat} {b1 : OA} {b1n b1c : Nat} {i5 k6 : Int} {K : EP} {h : Heap} (H :
hwp PP (Instr.indexAt y42 (.slice a0 a0n a0c) (.int .i64 i5)) (fun v h1 => ∃ (t60 : Addr), v = (.pointer (some t60)) ∧
∃ (t62 : OA) (t62n t62c : Nat), cellH h1 (Addr.add t60 2) = some (.slice t62 t62n t62c) ∧
let t64 : Bool := decide (k6 < (t62n : Int))
br t64 (
hwp PP (Instr.indexAt y42 (.slice a0 a0n a0c) (.int .i64 i5)) (fun v_1 h2 => ∃ (t69 : Addr), v_1 = (.pointer (some t69)) ∧
∃ (t71 : OA) (t71n t71c : Nat), cellH h2 (Addr.add t69 2) = some (.slice t71 t71n t71c) ∧
hwp PP (Instr.indexAt y104 (.slice t71 t71n t71c) (.int .i64 k6)) (fun v_2 h3 => ∃ (t73 : Addr), v_2 = (.pointer (some t73)) ∧
∃ (t74f0 t74f1 : ByteArray), rdCells h3 t73 0 [.string t74f0, .string t74f1] ∧
hwp PP (Instr.indexAt y42 (.slice b1 b1n b1c) (.int .i64 i5)) (fun v_3 h4 => ∃ (t77 : Addr), v_3 = (.pointer (some t77)) ∧
∃ (t79 : OA) (t79n t79c : Nat), cellH h4 (Addr.add t77 2) = some (.slice t79 t79n t79c) ∧
hwp PP (Instr.indexAt y104 (.slice t79 t79n t79c) (.int .i64 k6)) (fun v_4 h5 => ∃ (t81 : Addr), v_4 = (.pointer (some t81)) ∧
∃ (t82f0 t82f1 : ByteArray), rdCells h5 t81 0 [.string t82f0, .string t82f1] ∧
let t83 : Bool := (!(decide (t74f0 = t82f0) && (decide (t74f1 = t82f1) && true)))
br t83 (
K .ret (Xret false) h5) (
let t66 : Int := IntKind.i64.wrap (k6 + 1)
L2 a0 a0n a0c b1 b1n b1c i5 t66 K h5)) h4) h3) h2) h1) (
K (.exit 2) (X2 a0 a0n a0c b1 b1n b1c i5) h1)) h) : L2 a0 a0n a0c b1 b1n b1c i5 k6 K h := by unfold L2; exact Lp.of_txt (an 14924) 99 (by kernel_rfl) H
theorem L2_X2 {K : EP} {a0 : OA} {a0n a0c : Nat} {b1 : OA} {b1n b1c : Nat} {i5 : Int} {h : Heap} (H :
let t17 : Int := IntKind.i64.wrap (i5 + 1)
L1 a0 a0n a0c b1 b1n b1c t17 K h) : (K3 K) (.exit 2) (X2 a0 a0n a0c b1 b1n b1c i5) h := y20 (by kernel_rfl) H
theorem door {a0 : OA} {a0n a0c : Nat} {b1 : OA} {b1n b1c : Nat} {Q : VP} {h : Heap} (H :
let t11 : Bool := ((a0n : Int) != (b1n : Int))
br t11 (
Q (.bool false) h) (
L1 a0 a0n a0c b1 b1n b1c 0 (K1 Q) h)) : SpecH PP z281 [(.slice a0 a0n a0c), (.slice b1 b1n b1c)] h Q :=
  y12 (ann := ann) Tryz.func21 rfl rfl (by kernel_rfl) H
end z280
namespace z398
def ann : Ann := (.seq 1 (rg 1 1) (.seq 1 (.seq 17 (rg 2 17) (.cond (.seq 4 (rg 1 4) (.exit 4)) .leaf)) (.seq 4 (.tree (.run [0, 1, 2, 4, 5, 6, 7] (.alt 3 (.run [8, 9, 10] .done) (.alt 8 (.run [3, 9, 10] .done) .nil))) 4) (.exit 4))))
theorem door {m0 : OA} {Q : VP} {h : Heap} (H :
let t4 : Bool := (Option.isNone m0)
br t4 (
Q (.slice none 0 0) h) (
nilc m0 (fun t6 =>
nilc m0 (fun t10 =>
∃ (t12 : OA), cellH h t10 = some (.pointer t12) ∧
(
∃ (t8_1 : OA), cellH h t6 = some (.pointer t8_1) ∧
SpecH PP z223 [.pointer t12] h (fun v_2 h3 => ∃ (t13_1 : Int), v_2 = (.int .i64 t13_1) ∧
SpecH PP z211 [.pointer t8_1, .int .i64 t13_1] h3 (fun v_3 h4 => ∃ (t14_1 : OA) (t14_1n t14_1c : Nat), v_3 = (.slice t14_1 t14_1n t14_1c) ∧
Q (.slice t14_1 t14_1n t14_1c) h4))) ∧
(
SpecH PP z223 [.pointer t12] h (fun v h1 => ∃ (t13 : Int), v = (.int .i64 t13) ∧
∃ (t8 : OA), cellH h1 t6 = some (.pointer t8) ∧
SpecH PP z211 [.pointer t8, .int .i64 t13] h1 (fun v_1 h2 => ∃ (t14 : OA) (t14n t14c : Nat), v_1 = (.slice t14 t14n t14c) ∧
Q (.slice t14 t14n t14c) h2))) ∧
True)))) : SpecH PP z399 [.pointer m0] h Q :=
  y12 (ann := ann) Tryz.func22 rfl rfl (by kernel_rfl) H
end z398
namespace txn_New
def ann : Ann := (.seq 3 (rg 2 3) (.seq 3 (.seq 8388611 (rg 11 8388611) (.join (.cond (.seq 48 (rg 2 48) (.exit 48)) .leaf))) (.seq 65 (rg 5 65) (.seq 64 (.seq 939524160 (rg 3 939524160) (.block (.loop 939524160 (.seq 2013265984 (rg 1 2013265984) (.seq 939524160 (.cond .leaf (.exit 64)) (.seq 939524160 (.block (.seq 939524416 (rg 4 939524416) (.seq 121198608704 (rg 4 121198608704) (.block (.loop 121198608704 (.seq 258637562176 (rg 1 258637562176) (.seq 121198608704 (.cond .leaf (.exit 939524160)) (.seq 121198608704 (.block (.seq 121198609728 (rg 4 121198609728) (rg 16 121198608704))) (rg 2 121198608704))))))))) (rg 2 939524160))))))) (.seq 2112 (rg 5 2112) (.seq 2048 (.seq 6144 (rg 7 6144) (.seq 295147905179352832000 (rg 2 295147905179352832000) (.cond (.seq 48 (rg 3 48) (.exit 48)) .leaf))) (.seq 48 (rg 3 48) (.exit 48))))))))
noncomputable abbrev cd := cdF Tryz.f23
abbrev an := anF ann
@[irreducible] def X0 (c6 : Addr) : Fr := (mkFr 0 71 [(6, (.pointer (some c6)))])
@[irreducible] def K1 (Q : VP) : EP := seqK (fun fr h => ev PP true none (cd 7) (an 7) (fr.mask 3) (bodyK PP Tryz.f23 Q) h) (bodyK PP Tryz.f23 Q)
@[irreducible] def J1 (xl0 : OA) (xl0n xl0c : Nat) (at1 : Int) (t23 : Bool) (Q : VP) (h : Heap) : Prop := Jn PP true (cd 13) (mkFr 0 71 [(0, (.slice xl0 xl0n xl0c)), (1, .int .i64 at1), (23, .bool t23)]) (K1 Q) h
@[irreducible] def K3 (Q : VP) : EP := seqK (fun fr h => ev PP true none (cd 31) (an 31) (fr.mask 64) (bodyK PP Tryz.f23 Q) h) (bodyK PP Tryz.f23 Q)
@[irreducible] def K2 (Q : VP) : EP := blockK 0 (K3 Q)
@[irreducible] def L1 (c6 : Addr) (t27 : OA) (t27n t27c : Nat) (t28 t29 : Int) (K : EP) (h : Heap) : Prop := Lp PP true (cd 244) (mkFr 0 71 [(6, (.pointer (some c6))), (27, (.slice t27 t27n t27c)), (28, .int .i64 t28), (29, .int .i64 t29)]) K h
@[irreducible] def B1 (K : EP) : EP := seqK (fun fr h => Lp PP true (cd 244) (fr.mask 939524160) K h) K
@[irreducible] def K6 (K : EP) : EP := seqK (fun fr h => ev PP true none (cd 1959) (an 1959) (fr.mask 939524160) (B1 K) h) (B1 K)
@[irreducible] def K5 (K : EP) : EP := blockK 1 (K6 K)
@[irreducible] def K4 (K : EP) : EP := blockK 2 (K5 K)
@[irreducible] def L2 (c6 a8 : Addr) (t27 : OA) (t27n t27c : Nat) (t28 t29 : Int) (t34 : OA) (t34n t34c : Nat) (t35 t36 : Int) (K : EP) (h : Heap) : Prop := Lp PP true (cd 62668) (mkFr 0 71 [(6, (.pointer (some c6))), (8, (.pointer (some a8))), (27, (.slice t27 t27n t27c)), (28, .int .i64 t28), (29, .int .i64 t29), (34, (.slice t34 t34n t34c)), (35, .int .i64 t35), (36, .int .i64 t36)]) K h
theorem J1_of {xl0 : OA} {xl0n xl0c : Nat} {at1 : Int} {t23 : Bool} {Q : VP} {h : Heap} (H :
br t23 (
Q (.tuple #[.pointer none, .int .i64 1]) h) (
let t25 : Int := IntKind.i64.wrap (at1 + 1)
let c6 : Addr := ⟨Array.size h, 0, none⟩
let h1 : Heap := Array.push h (.cells #[.int .i64 0, (.slice none 0 0)] y36 (0, 0))
wrCells c6 0 [.int .i64 t25, (.slice none 0 0)] (fun h2 =>
L1 c6 xl0 xl0n xl0c (xl0n : Int) 0 (K2 Q) h2) h1)) : J1 xl0 xl0n xl0c at1 t23 Q h := by unfold J1; exact Jn.of_txt (an 13) (by kernel_rfl) H
theorem L1_of {c6 : Addr} {t27 : OA} {t27n t27c : Nat} {t28 t29 : Int} {K : EP} {h : Heap} (H :
let t30 : Bool := decide (t29 < t28)
br t30 (
hwp PP (Instr.indexAt y42 (.slice t27 t27n t27c) (.int .i64 t29)) (fun v h1 => ∃ (t31 : Addr), v = (.pointer (some t31)) ∧
∃ (t32f0 t32f1 : ByteArray) (t32f2 : OA) (t32f2n t32f2c : Nat), rdCells h1 t31 0 [.string t32f0, .string t32f1, (.slice t32f2 t32f2n t32f2c)] ∧
let a8 : Addr := ⟨Array.size h1, 0, none⟩
let h2 : Heap := Array.push h1 (.cells #[(.string (⟨#[]⟩ : ByteArray)), (.string (⟨#[]⟩ : ByteArray)), (.slice none 0 0)] y49 (0, 0))
wrCells a8 0 [.string t32f0, .string t32f1, (.slice t32f2 t32f2n t32f2c)] (fun h3 =>
∃ (t34 : OA) (t34n t34c : Nat), cellH h3 (Addr.add a8 2) = some (.slice t34 t34n t34c) ∧
L2 c6 a8 t27 t27n t27c t28 t29 t34 t34n t34c (t34n : Int) 0 (K4 K) h3) h2) h) (
K (.exit 0) (X0 c6) h)) : L1 c6 t27 t27n t27c t28 t29 K h := by unfold L1; exact Lp.of_txt (an 244) 939524160 (by kernel_rfl) H
theorem L1_X0 {Q : VP} {c6 : Addr} {h : Heap} (H :
SpecH PP z209 [] h (fun v h1 => ∃ (t57 : OA), v = (.pointer t57) ∧
let h2 : Heap := Array.push h1 (.map #[] 0)
let t60 : Addr := ⟨Array.size h2, 0, none⟩
let h3 : Heap := Array.push h2 (.cells #[.pointer t57, (.slice none 0 0), (.map (some (Array.size h1))), .int .i64 0] y24 (0, 0))
∃ (t64 : OA), cellH h3 t60 = some (.pointer t64) ∧
∃ (t65f0 : Int) (t65f1 : OA) (t65f1n t65f1c : Nat), rdCells h3 c6 0 [.int .i64 t65f0, (.slice t65f1 t65f1n t65f1c)] ∧
SpecH PP z227 [.pointer t64, (.agg #[.int .i64 t65f0, (.slice t65f1 t65f1n t65f1c)])] h3 (fun v_1 h4 => ∃ (t66 : Int), v_1 = (.int .i64 t66) ∧
let t68 : Bool := (t66 != 0)
br t68 (
Q (.tuple #[.pointer none, .int .i64 t66]) h4) (
Q (.tuple #[(.pointer (some t60)), .int .i64 0]) h4)))) : (K2 Q) (.exit 0) (X0 c6) h := y20 (by kernel_rfl) H
theorem door {xl0 : OA} {xl0n xl0c : Nat} {at1 : Int} {Q : VP} {h : Heap} (H :
let t14 : Bool := decide (at1 < 0)
br t14 (
J1 xl0 xl0n xl0c at1 true Q h) (
let t17 : Bool := decide (at1 > 1000000000)
br t17 (
J1 xl0 xl0n xl0c at1 true Q h) (
SpecH PP z283 [(.slice xl0 xl0n xl0c)] h (fun v h1 => ∃ (t21 : Int), v = (.int .i64 t21) ∧
let t22 : Bool := (t21 != 0)
J1 xl0 xl0n xl0c at1 t22 Q h1)))) : SpecH PP z430 [(.slice xl0 xl0n xl0c), .int .i64 at1] h Q :=
  y12 (ann := ann) Tryz.func23 rfl rfl (by kernel_rfl) H
end txn_New
namespace z400
def ann : Ann := (.seq 199 (rg 2 199) (.seq 1985 (rg 12 1985) (.seq 961 (.seq 8390593 (rg 2 8390593) (.cond (.seq 192 (rg 3 192) (.exit 192)) .leaf)) (.seq 2497 (rg 7 2497) (.seq 2497 (rg 6 2497) (.seq 6593 (rg 1 6593) (.seq 4096 (.seq 549755818176 (rg 4 549755818176) (.block (.range 4288 (rg 1 12288) (.block (rg 5 0))))) (.seq 4096 (rg 2 4096) (.seq 192 (rg 3 192) (.exit 192))))))))))
noncomputable abbrev cd := cdF Tryz.f26
abbrev an := anF ann
@[irreducible] def R1 (t6 : OA) (t6n t6c : Nat) (t7 : Int) (out12 : Addr) (t40 : ByteArray) (l : Nat) (K : VP) (h : Heap) : Prop := ev PP false none (cd 2036) (an 2036) (setAll (mkFr 0 48 [(6, (.slice t6 t6n t6c)), (7, .int .i64 t7), (12, (.pointer (some out12)))]) [(40, .string t40)]) (roundK PP l (cd 2037) (an 2037) 12288 K) h
@[irreducible] def K2 (Q : VP) : EP := seqK (fun fr h => ev PP true none (cd 255) (an 255) (fr.mask 4096) (bodyKR PP Tryz.f26 Q) h) (bodyKR PP Tryz.f26 Q)
@[irreducible] def K1 (Q : VP) : EP := blockK 0 (K2 Q)
theorem R1_of {t6 : OA} {t6n t6c : Nat} {t7 : Int} {out12 : Addr} {t40 : ByteArray} {l : Nat} {K : VP} {h : Heap} (H :
∃ xL : Loop, h[l]? = some (.loop xL) ∧ xL.state = .ready ∧
let h1 : Heap := h.setIfInBounds l (.loop { xL with state := .busy })
∃ (t41 : OA) (t41n t41c : Nat), cellH h1 out12 = some (.slice t41 t41n t41c) ∧
let h2 : Heap := Array.push h1 (.cells #[.string t40] y29 (0, 0))
hwp PP (Builtin.append_ #[y78, y78] y78 #[(.slice t41 t41n t41c), (.slice (some ⟨Array.size h1, 0, none⟩) 1 1)]) (fun v h3 => ∃ (t44 : OA) (t44n t44c : Nat), v = (.slice t44 t44n t44c) ∧
wr out12 (.slice t44 t44n t44c) (fun h4 =>
∃ xL_1, h4[l]? = some (.loop xL_1) ∧ K (.bool true) (h4.setIfInBounds l (endL xL_1 none))) h3) h2) : R1 t6 t6n t6c t7 out12 t40 l K h := y20 (by kernel_rfl) H
theorem R1_yield {t6 : OA} {t6n t6c : Nat} {t7 : Int} {out12 : Addr} {t40 : ByteArray} {l : Nat} {K : VP} {h : Heap} {L : Loop} (hl : h[l]? = some (.loop L)) (hp : L.params = #[40]) (ha : L.assign = (cd 2036)) (hb : L.body = (cd 2037)) (hf : FrRel (mkFr 0 48 [(6, (.slice t6 t6n t6c)), (7, .int .i64 t7), (12, (.pointer (some out12)))]) L.tmps) (H : R1 t6 t6n t6c t7 out12 t40 l K h) : callV PP (.func (.yield l) #[] #[]) [.string t40] K h := by
  unfold R1 at H
  refine yield_ok (ann := an 2036) (annB := an 2037) (m := 12288) hl (by rw [hp]; rfl) hf ?_
  rw [ha, hb, hp]; exact H
theorem R1_outn0 {Q : VP} {t6 : OA} {t6n t6c : Nat} {t7 : Int} {out12 : Addr} {h : Heap} (H :
∃ (t45 : OA) (t45n t45c : Nat), cellH h out12 = some (.slice t45 t45n t45c) ∧
SpecH PP F_slices_Sort_string_string [(.slice t45 t45n t45c)] h (fun v h1 => v = (.tuple #[]) ∧
∃ (t47 : OA) (t47n t47c : Nat), cellH h1 out12 = some (.slice t47 t47n t47c) ∧
∀ h2, Takes h1 h2 → Q (.tuple #[(.slice t47 t47n t47c), .int .i64 0]) h2)) : (K1 Q) .normal (mkFr 0 48 [(6, (.slice t6 t6n t6c)), (7, .int .i64 t7), (12, (.pointer (some out12)))]) h := y20 (by kernel_rfl) H
theorem door {m0 : OA} {txn1 : Int} {y82 : ByteArray} {Q : VP} {h : Heap} (H :
SpecH PP z415 [.pointer m0, .int .i64 txn1, .string y82, (.slice none 0 0)] h (fun v h1 => ∃ (t18 : OA) (t18_1f0 t18_1f1 t18_1f2 : ByteArray) (t18_2 : Int), v = (.tuple #[.pointer t18, (.agg #[.string t18_1f0, .string t18_1f1, .string t18_1f2]), .int .i64 t18_2]) ∧
let k9 : Addr := ⟨Array.size h1, 0, none⟩
let h2 : Heap := Array.push h1 (.cells #[(.string (⟨#[]⟩ : ByteArray)), (.string (⟨#[]⟩ : ByteArray)), (.string (⟨#[]⟩ : ByteArray))] y23 (0, 0))
wrCells k9 0 [.string t18_1f0, .string t18_1f1, .string t18_1f2] (fun h3 =>
let t23 : Bool := (t18_2 != 0)
br t23 (
∀ h4, Takes h3 h4 → Q (.tuple #[(.slice none 0 0), .int .i64 t18_2]) h4) (
∃ (t26 : ByteArray), cellH h3 k9 = some (.string t26) ∧
∃ (t28 : ByteArray), cellH h3 (Addr.add k9 1) = some (.string t28) ∧
let b11 : Addr := ⟨Array.size h3, 0, none⟩
let h5 : Heap := Array.push h3 (.cells #[(.string (⟨#[]⟩ : ByteArray)), (.string (⟨#[]⟩ : ByteArray))] y74 (0, 0))
wrCells b11 0 [.string t26, .string t28] (fun h6 =>
nilc t18 (fun t31 =>
∃ (t33 : OA), cellH h6 (Addr.add t31 1) = some (.pointer t33) ∧
∃ (t34f0 t34f1 : ByteArray), rdCells h6 b11 0 [.string t34f0, .string t34f1] ∧
SpecH PP z448 [.pointer t33, (.agg #[.string t34f0, .string t34f1])] h6 (fun v_1 h7 => v_1 = (.tuple #[]) ∧
let out12 : Addr := ⟨Array.size h7, 0, none⟩
let h8 : Heap := Array.push h7 (.cells #[(.slice none 0 0)] y78 (0, 0))
∃ (t38f0 t38f1 : ByteArray), rdCells h8 b11 0 [.string t38f0, .string t38f1] ∧
SpecH PP z425 [.pointer m0, .pointer t18, (.agg #[.string t38f0, .string t38f1])] h8 (fun v_2 h9 => ∃ (t39 : Value), v_2 = t39 ∧
rangeK PP t39 #[40] (cd 2036) (cd 2037) (mkFr 0 48 [(6, (.slice none 0 0)), (7, .int .i64 0), (12, (.pointer (some out12)))]) (K1 Q) h9)))) h5)) h2)) : SpecH PP z401 [.pointer m0, .int .i64 txn1, .string y82] h Q :=
  spec_of_txtR (ann := ann) Tryz.func26 rfl (by kernel_rfl) H
end z400
namespace z406
def ann : Ann := (.seq 3 (rg 2 3) (.seq 3 (.seq 515 (rg 2 515) (.cond (.seq 48 (rg 2 48) (.exit 48)) .leaf)) (.seq 192 (rg 11 192) (.seq 64 (.seq 1048640 (rg 2 1048640) (.cond (.seq 48 (rg 2 48) (.exit 48)) .leaf)) (.seq 48 (rg 6 48) (.exit 48))))))
theorem door {m0 : OA} {txn1 : Int} {Q : VP} {h : Heap} (H :
let t9 : Bool := (Option.isNone m0)
br t9 (
Q (.tuple #[(.string (⟨#[]⟩ : ByteArray)), .int .i64 3]) h) (
nilc m0 (fun t12 =>
∃ (t14 : ON), cellH h (Addr.add t12 2) = some (.map t14) ∧
hwp PP (Instr.lookup y44 (.map t14) (.int .i64 txn1) true) (fun v h1 => ∃ (t16 : OA) (t16_1 : Bool), v = (.tuple #[.pointer t16, .bool t16_1]) ∧
let t20 : Bool := (!t16_1)
br t20 (
Q (.tuple #[(.string (⟨#[]⟩ : ByteArray)), .int .i64 140]) h1) (
nilc t16 (fun t22 =>
∃ (t24 : ByteArray), cellH h1 t22 = some (.string t24) ∧
Q (.tuple #[.string t24, .int .i64 0]) h1))) h))) : SpecH PP z407 [.pointer m0, .int .i64 txn1] h Q :=
  y12 (ann := ann) Tryz.func27 rfl rfl (by kernel_rfl) H
end z406
namespace z408
def ann : Ann := (.seq 31 (rg 1 31) (.seq 14352 (rg 14 14352) (.seq 6160 (.block (.seq 16791568 (rg 3 16791568) (.cond (.seq 1024 (rg 2 1024) (.exit 1024)) (.seq 268441616 (rg 4 268441616) (.cond (.seq 1024 (rg 1 1024) (.exit 1024)) .leaf))))) (.seq 0 (rg 7 0) (.seq 1024 (rg 1 1024) (.exit 1024))))))
theorem door {m0 : OA} {txn1 : Int} {y82 y115 data4 : ByteArray} {Q : VP} {h : Heap} (H :
let h1 : Heap := Array.push h (.cells #[.string y115] y29 (0, 0))
SpecH PP z415 [.pointer m0, .int .i64 txn1, .string y82, (.slice (some ⟨Array.size h, 0, none⟩) 1 1)] h1 (fun v h2 => ∃ (t20 : OA) (t20_1f0 t20_1f1 t20_1f2 : ByteArray) (t20_2 : Int), v = (.tuple #[.pointer t20, (.agg #[.string t20_1f0, .string t20_1f1, .string t20_1f2]), .int .i64 t20_2]) ∧
let k12 : Addr := ⟨Array.size h2, 0, none⟩
let h3 : Heap := Array.push h2 (.cells #[(.string (⟨#[]⟩ : ByteArray)), (.string (⟨#[]⟩ : ByteArray)), (.string (⟨#[]⟩ : ByteArray))] y23 (0, 0))
wrCells k12 0 [.string t20_1f0, .string t20_1f1, .string t20_1f2] (fun h4 =>
let t26 : Bool := (t20_2 != 0)
br t26 (
Q (.int .i64 t20_2) h4) (
let t30 : Int := (ByteArray.size data4 : Int)
let t31 : Bool := decide (t30 > 8192)
br t31 (
Q (.int .i64 145) h4) (
nilc t20 (fun t33 =>
∃ (t35 : OA), cellH h4 (Addr.add t33 1) = some (.pointer t35) ∧
∃ (t36f0 t36f1 t36f2 : ByteArray), rdCells h4 k12 0 [.string t36f0, .string t36f1, .string t36f2] ∧
SpecH PP z452 [.pointer t35, (.agg #[.string t36f0, .string t36f1, .string t36f2]), .string data4] h4 (fun v_1 h5 => v_1 = (.tuple #[]) ∧
Q (.int .i64 0) h5))))) h3)) : SpecH PP z409 [.pointer m0, .int .i64 txn1, .string y82, .string y115, .string data4] h Q :=
  y12 (ann := ann) Tryz.func28 rfl rfl (by kernel_rfl) H
end z408
namespace z388
def ann : Ann := (.seq 31 (rg 1 31) (.seq 14353 (rg 14 14353) (.seq 6161 (.seq 268449809 (rg 2 268449809) (.cond (.seq 1024 (rg 2 1024) (.exit 1024)) .leaf)) (.seq 88080 (rg 11 88080) (.seq 22544 (.seq 549755836432 (rg 2 549755836432) (.cond (rg 6 22544) .leaf)) (.join (.seq 22544 (.seq 72057594037950480 (rg 11 72057594037950480) (.join (.cond (.seq 1024 (rg 1 1024) (.exit 1024)) .leaf))) (.seq 0 (rg 9 0) (.seq 1024 (rg 1 1024) (.exit 1024))))))))))
noncomputable abbrev cd := cdF Tryz.f29
abbrev an := anF ann
@[irreducible] def J1 (data4 : ByteArray) (t11 : OA) (k12 : Addr) (was14 : ByteArray) (Q : VP) (h : Heap) : Prop := Jn PP true (cd 63) (mkFr 0 66 [(4, .string data4), (11, .pointer t11), (12, (.pointer (some k12))), (14, .string was14)]) (bodyK PP Tryz.f29 Q) h
@[irreducible] def K1 (Q : VP) : EP := seqK (fun fr h => ev PP true none (cd 127) (an 127) (fr.mask 22544) (bodyK PP Tryz.f29 Q) h) (bodyK PP Tryz.f29 Q)
@[irreducible] def J2 (data4 : ByteArray) (t11 : OA) (k12 : Addr) (was14 : ByteArray) (t56 : Bool) (Q : VP) (h : Heap) : Prop := Jn PP true (cd 253) (mkFr 0 66 [(4, .string data4), (11, .pointer t11), (12, (.pointer (some k12))), (14, .string was14), (56, .bool t56)]) (K1 Q) h
theorem J1_of {data4 : ByteArray} {t11 : OA} {k12 : Addr} {was14 : ByteArray} {Q : VP} {h : Heap} (H :
let t47 : Int := (ByteArray.size data4 : Int)
let t48 : Bool := decide (t47 > 8192)
br t48 (
J2 data4 t11 k12 was14 true Q h) (
let t51 : Int := (ByteArray.size was14 : Int)
let t53 : Int := (ByteArray.size data4 : Int)
let t54 : Int := IntKind.i64.wrap (t51 + t53)
let t55 : Bool := decide (t54 > 8192)
J2 data4 t11 k12 was14 t55 Q h)) : J1 data4 t11 k12 was14 Q h := by unfold J1; exact Jn.of_txt (an 63) (by kernel_rfl) H
theorem J2_of {data4 : ByteArray} {t11 : OA} {k12 : Addr} {was14 : ByteArray} {t56 : Bool} {Q : VP} {h : Heap} (H :
br t56 (
Q (.int .i64 145) h) (
nilc t11 (fun t58 =>
∃ (t60 : OA), cellH h (Addr.add t58 1) = some (.pointer t60) ∧
∃ (t61f0 t61f1 t61f2 : ByteArray), rdCells h k12 0 [.string t61f0, .string t61f1, .string t61f2] ∧
br (decide (ByteArray.size was14 + ByteArray.size data4 ≤ 9223372036854775807)) (
let t64 : ByteArray := (was14 ++ data4)
SpecH PP z452 [.pointer t60, (.agg #[.string t61f0, .string t61f1, .string t61f2]), .string t64] h (fun v h1 => v = (.tuple #[]) ∧
Q (.int .i64 0) h1)) False))) : J2 data4 t11 k12 was14 t56 Q h := by unfold J2; exact Jn.of_txt (an 253) (by kernel_rfl) H
theorem door {m0 : OA} {txn1 : Int} {y82 y115 data4 : ByteArray} {Q : VP} {h : Heap} (H :
let h1 : Heap := Array.push h (.cells #[.string y115] y29 (0, 0))
SpecH PP z415 [.pointer m0, .int .i64 txn1, .string y82, (.slice (some ⟨Array.size h, 0, none⟩) 1 1)] h1 (fun v h2 => ∃ (t23 : OA) (t23_1f0 t23_1f1 t23_1f2 : ByteArray) (t23_2 : Int), v = (.tuple #[.pointer t23, (.agg #[.string t23_1f0, .string t23_1f1, .string t23_1f2]), .int .i64 t23_2]) ∧
let k12 : Addr := ⟨Array.size h2, 0, none⟩
let h3 : Heap := Array.push h2 (.cells #[(.string (⟨#[]⟩ : ByteArray)), (.string (⟨#[]⟩ : ByteArray)), (.string (⟨#[]⟩ : ByteArray))] y23 (0, 0))
wrCells k12 0 [.string t23_1f0, .string t23_1f1, .string t23_1f2] (fun h4 =>
let t28 : Bool := (t23_2 != 0)
br t28 (
Q (.int .i64 t23_2) h4) (
∃ (t33f0 t33f1 t33f2 : ByteArray), rdCells h4 k12 0 [.string t33f0, .string t33f1, .string t33f2] ∧
SpecH PP z429 [.pointer m0, .pointer t23, (.agg #[.string t33f0, .string t33f1, .string t33f2])] h4 (fun v_1 h5 => ∃ (t34 : ByteArray) (t34_1 t34_2 : Bool), v_1 = (.tuple #[.string t34, .bool t34_1, .bool t34_2]) ∧
let t39 : Bool := (!t34_2)
br t39 (
nilc t23 (fun t41 =>
∃ (t43 : OA), cellH h5 (Addr.add t41 1) = some (.pointer t43) ∧
∃ (t44f0 t44f1 t44f2 : ByteArray), rdCells h5 k12 0 [.string t44f0, .string t44f1, .string t44f2] ∧
SpecH PP z454 [.pointer t43, (.agg #[.string t44f0, .string t44f1, .string t44f2])] h5 (fun v_2 h6 => v_2 = (.tuple #[]) ∧
J1 data4 t23 k12 t34 Q h6))) (
J1 data4 t23 k12 t34 Q h5)))) h3)) : SpecH PP z389 [.pointer m0, .int .i64 txn1, .string y82, .string y115, .string data4] h Q :=
  y12 (ann := ann) Tryz.func29 rfl rfl (by kernel_rfl) H
end z388
namespace z396
def ann : Ann := (.seq 15 (rg 1 15) (.seq 3584 (rg 14 3584) (.seq 1536 (.seq 8392192 (rg 2 8392192) (.cond (.seq 256 (rg 2 256) (.exit 256)) .leaf)) (.seq 0 (rg 6 0) (.seq 256 (rg 1 256) (.exit 256))))))
theorem door {m0 : OA} {txn1 : Int} {y82 y115 : ByteArray} {Q : VP} {h : Heap} (H :
let h1 : Heap := Array.push h (.cells #[.string y115] y29 (0, 0))
SpecH PP z415 [.pointer m0, .int .i64 txn1, .string y82, (.slice (some ⟨Array.size h, 0, none⟩) 1 1)] h1 (fun v h2 => ∃ (t18 : OA) (t18_1f0 t18_1f1 t18_1f2 : ByteArray) (t18_2 : Int), v = (.tuple #[.pointer t18, (.agg #[.string t18_1f0, .string t18_1f1, .string t18_1f2]), .int .i64 t18_2]) ∧
let k10 : Addr := ⟨Array.size h2, 0, none⟩
let h3 : Heap := Array.push h2 (.cells #[(.string (⟨#[]⟩ : ByteArray)), (.string (⟨#[]⟩ : ByteArray)), (.string (⟨#[]⟩ : ByteArray))] y23 (0, 0))
wrCells k10 0 [.string t18_1f0, .string t18_1f1, .string t18_1f2] (fun h4 =>
let t23 : Bool := (t18_2 != 0)
br t23 (
Q (.int .i64 t18_2) h4) (
nilc t18 (fun t26 =>
∃ (t28 : OA), cellH h4 (Addr.add t26 1) = some (.pointer t28) ∧
∃ (t29f0 t29f1 t29f2 : ByteArray), rdCells h4 k10 0 [.string t29f0, .string t29f1, .string t29f2] ∧
SpecH PP z446 [.pointer t28, (.agg #[.string t29f0, .string t29f1, .string t29f2])] h4 (fun v_1 h5 => v_1 = (.tuple #[]) ∧
Q (.int .i64 0) h5)))) h3)) : SpecH PP z397 [.pointer m0, .int .i64 txn1, .string y82, .string y115] h Q :=
  y12 (ann := ann) Tryz.func30 rfl rfl (by kernel_rfl) H
end z396
namespace z404
end z404
namespace z412
def ann : Ann := (.seq 19 (rg 1 19) (.seq 51 (rg 1 51) (.seq 48 (.seq 14386 (rg 4 14386) (.block (.loop 14386 (.seq 30770 (rg 1 30770) (.seq 14386 (.cond .leaf (.exit 48)) (.seq 14386 (.block (.seq 14514 (rg 4 14514) (.seq 1063090 (rg 4 1063090) (.cond (.seq 14514 (rg 8 14514) (.seq 3758110770 (rg 4 3758110770) (.block (.loop 3758110770 (.seq 8053078066 (rg 1 8053078066) (.seq 3758110770 (.cond .leaf (.exit 14386)) (.seq 3758110770 (.block (.seq 3758111282 (rg 4 3758111282) (rg 8 3758110770))) (rg 2 3758110770)))))))) .leaf)))) (.join (rg 2 14386)))))))) (.seq 16 (rg 2 16) (.exit 16)))))
noncomputable abbrev cd := cdF Tryz.f32
abbrev an := anF ann
@[irreducible] def X0 (t4 u5 : Addr) : Fr := (mkFr 0 45 [(4, (.pointer (some t4))), (5, (.pointer (some u5)))])
@[irreducible] def X2 (y48 : ByteArray) (t4 u5 : Addr) (t11 : OA) (t11n t11c : Nat) (t12 t13 : Int) : Fr := (mkFr 0 45 [(1, .string y48), (4, (.pointer (some t4))), (5, (.pointer (some u5))), (11, (.slice t11 t11n t11c)), (12, .int .i64 t12), (13, .int .i64 t13)])
@[irreducible] def L1 (y48 : ByteArray) (t4 u5 : Addr) (t11 : OA) (t11n t11c : Nat) (t12 t13 : Int) (K : EP) (h : Heap) : Prop := Lp PP true (cd 116) (mkFr 0 45 [(1, .string y48), (4, (.pointer (some t4))), (5, (.pointer (some u5))), (11, (.slice t11 t11n t11c)), (12, .int .i64 t12), (13, .int .i64 t13)]) K h
@[irreducible] def B1 (K : EP) : EP := seqK (fun fr h => Lp PP true (cd 116) (fr.mask 14386) K h) K
@[irreducible] def J1 (y48 : ByteArray) (t4 u5 : Addr) (t11 : OA) (t11n t11c : Nat) (t12 t13 : Int) (K : EP) (h : Heap) : Prop := Jn PP true (cd 935) (mkFr 0 45 [(1, .string y48), (4, (.pointer (some t4))), (5, (.pointer (some u5))), (11, (.slice t11 t11n t11c)), (12, .int .i64 t12), (13, .int .i64 t13)]) (B1 K) h
@[irreducible] def K3 (Q : VP) : EP := seqK (fun fr h => ev PP true none (cd 15) (an 15) (fr.mask 48) (bodyK PP Tryz.f32 Q) h) (bodyK PP Tryz.f32 Q)
@[irreducible] def K1 (Q : VP) : EP := blockK 0 (K3 Q)
@[irreducible] def K5 (K : EP) : EP := seqK (fun fr h => Jn PP true (cd 935) (fr.mask 14386) (B1 K) h) (B1 K)
@[irreducible] def K4 (K : EP) : EP := blockK 1 (K5 K)
@[irreducible] def K2 (K : EP) : EP := blockK 2 (K4 K)
@[irreducible] def L2 (y48 : ByteArray) (t4 u5 : Addr) (t11 : OA) (t11n t11c : Nat) (t12 t13 : Int) (t29 : OA) (t29n t29c : Nat) (t30 t31 : Int) (K : EP) (h : Heap) : Prop := Lp PP true (cd 239212) (mkFr 0 45 [(1, .string y48), (4, (.pointer (some t4))), (5, (.pointer (some u5))), (11, (.slice t11 t11n t11c)), (12, .int .i64 t12), (13, .int .i64 t13), (29, (.slice t29 t29n t29c)), (30, .int .i64 t30), (31, .int .i64 t31)]) K h
theorem L1_of {y48 : ByteArray} {t4 u5 : Addr} {t11 : OA} {t11n t11c : Nat} {t12 t13 : Int} {K : EP} {h : Heap} (H :
let t14 : Bool := decide (t13 < t12)
br t14 (
hwp PP (Instr.indexAt y42 (.slice t11 t11n t11c) (.int .i64 t13)) (fun v h1 => ∃ (t15 : Addr), v = (.pointer (some t15)) ∧
∃ (t16f0 t16f1 : ByteArray) (t16f2 : OA) (t16f2n t16f2c : Nat), rdCells h1 t15 0 [.string t16f0, .string t16f1, (.slice t16f2 t16f2n t16f2c)] ∧
let a7 : Addr := ⟨Array.size h1, 0, none⟩
let h2 : Heap := Array.push h1 (.cells #[(.string (⟨#[]⟩ : ByteArray)), (.string (⟨#[]⟩ : ByteArray)), (.slice none 0 0)] y49 (0, 0))
wrCells a7 0 [.string t16f0, .string t16f1, (.slice t16f2 t16f2n t16f2c)] (fun h3 =>
∃ (t18 : ByteArray), cellH h3 a7 = some (.string t18) ∧
let t20 : Bool := decide (t18 = y48)
br t20 (
∃ (t22 : Int), cellH h3 (Addr.add u5 1) = some (.int .i64 t22) ∧
∃ (t24 : OA) (t24n t24c : Nat), cellH h3 (Addr.add a7 2) = some (.slice t24 t24n t24c) ∧
let t26 : Int := IntKind.i64.wrap (t22 + (t24n : Int))
wr (Addr.add u5 1) (.int .i64 t26) (fun h4 =>
∃ (t29 : OA) (t29n t29c : Nat), cellH h4 (Addr.add a7 2) = some (.slice t29 t29n t29c) ∧
L2 y48 t4 u5 t11 t11n t11c t12 t13 t29 t29n t29c (t29n : Int) 0 (K2 K) h4) h3) (
J1 y48 t4 u5 t11 t11n t11c t12 t13 K h3)) h2) h) (
K (.exit 0) (X0 t4 u5) h)) : L1 y48 t4 u5 t11 t11n t11c t12 t13 K h := by unfold L1; exact Lp.of_txt (an 116) 14386 (by kernel_rfl) H
theorem L1_X0 {Q : VP} {t4 u5 : Addr} {h : Heap} (H :
∃ (t44f0 t44f1 : Int), rdCells h u5 0 [.int .i64 t44f0, .int .i64 t44f1] ∧
wrCells t4 0 [.int .i64 t44f0, .int .i64 t44f1] (fun h1 =>
∃ (t4_1f0 t4_1f1 : Int), rdCells h1 t4 0 [.int .i64 t4_1f0, .int .i64 t4_1f1] ∧
Q (.agg #[.int .i64 t4_1f0, .int .i64 t4_1f1]) h1) h) : (K1 Q) (.exit 0) (X0 t4 u5) h := y20 (by kernel_rfl) H
theorem J1_of {y48 : ByteArray} {t4 u5 : Addr} {t11 : OA} {t11n t11c : Nat} {t12 t13 : Int} {K : EP} {h : Heap} (H :
let t43 : Int := IntKind.i64.wrap (t13 + 1)
L1 y48 t4 u5 t11 t11n t11c t12 t43 K h) : J1 y48 t4 u5 t11 t11n t11c t12 t13 K h := by unfold J1; exact Jn.of_txt (an 935) (by kernel_rfl) H
theorem L2_of {y48 : ByteArray} {t4 u5 : Addr} {t11 : OA} {t11n t11c : Nat} {t12 t13 : Int} {t29 : OA} {t29n t29c : Nat} {t30 t31 : Int} {K : EP} {h : Heap} (H :
let t32 : Bool := decide (t31 < t30)
br t32 (
hwp PP (Instr.indexAt y104 (.slice t29 t29n t29c) (.int .i64 t31)) (fun v h1 => ∃ (t33 : Addr), v = (.pointer (some t33)) ∧
∃ (t34f0 t34f1 : ByteArray), rdCells h1 t33 0 [.string t34f0, .string t34f1] ∧
let x9 : Addr := ⟨Array.size h1, 0, none⟩
let h2 : Heap := Array.push h1 (.cells #[(.string (⟨#[]⟩ : ByteArray)), (.string (⟨#[]⟩ : ByteArray))] y143 (0, 0))
wrCells x9 0 [.string t34f0, .string t34f1] (fun h3 =>
∃ (t36 : Int), cellH h3 u5 = some (.int .i64 t36) ∧
∃ (t38 : ByteArray), cellH h3 (Addr.add x9 1) = some (.string t38) ∧
let t39 : Int := (ByteArray.size t38 : Int)
let t40 : Int := IntKind.i64.wrap (t36 + t39)
wr u5 (.int .i64 t40) (fun h4 =>
let t42 : Int := IntKind.i64.wrap (t31 + 1)
L2 y48 t4 u5 t11 t11n t11c t12 t13 t29 t29n t29c t30 t42 K h4) h3) h2) h) (
K (.exit 2) (X2 y48 t4 u5 t11 t11n t11c t12 t13) h)) : L2 y48 t4 u5 t11 t11n t11c t12 t13 t29 t29n t29c t30 t31 K h := by unfold L2; exact Lp.of_txt (an 239212) 3758110770 (by kernel_rfl) H
theorem L2_X2 {K : EP} {y48 : ByteArray} {t4 u5 : Addr} {t11 : OA} {t11n t11c : Nat} {t12 t13 : Int} {h : Heap} (H :
J1 y48 t4 u5 t11 t11n t11c t12 t13 K h) : (K2 K) (.exit 2) (X2 y48 t4 u5 t11 t11n t11c t12 t13) h := y20 (by kernel_rfl) H
theorem door {m0 : OA} {y48 : ByteArray} {Q : VP} {h : Heap} (H :
let t4 : Addr := ⟨Array.size h, 0, none⟩
let h1 : Heap := Array.push h (.cells #[.int .i64 0, .int .i64 0] y172 (0, 0))
let u5 : Addr := ⟨Array.size h1, 0, none⟩
let h2 : Heap := Array.push h1 (.cells #[.int .i64 0, .int .i64 0] y172 (0, 0))
SpecH PP z399 [.pointer m0] h2 (fun v h3 => ∃ (t11 : OA) (t11n t11c : Nat), v = (.slice t11 t11n t11c) ∧
L1 y48 t4 u5 t11 t11n t11c (t11n : Int) 0 (K1 Q) h3)) : SpecH PP z413 [.pointer m0, .string y48] h Q :=
  y12 (ann := ann) Tryz.func32 rfl rfl (by kernel_rfl) H
end z412
namespace z246
def ann : Ann := (.seq 3 (rg 1 3) (.seq 3 (.seq 1027 (rg 5 1027) (.cond (.seq 16 (rg 1 16) (.exit 16)) .leaf)) (.seq 0 (.seq 35 (rg 1 35) (.block (.loop 35 (.seq 35 (.seq 16419 (rg 4 16419) (.cond .leaf (.exit 0))) (.seq 35 (.block (.seq 33554467 (rg 9 33554467) (.cond (.seq 16 (rg 1 16) (.exit 16)) .leaf))) (rg 3 35)))))) (.seq 16 (rg 1 16) (.exit 16)))))
noncomputable abbrev cd := cdF Tryz.f33
abbrev an := anF ann
@[irreducible] def Xret (t4 : Bool) : Fr := (mkFr 0 26 [(4, .bool t4)])
@[irreducible] def X0  : Fr := (mkFr 0 26 [])
@[irreducible] def L1 (a0 : OA) (a0n a0c : Nat) (b1 : OA) (b1n b1c : Nat) (i5 : Int) (K : EP) (h : Heap) : Prop := Lp PP true (cd 116) (mkFr 0 26 [(0, (.slice a0 a0n a0c)), (1, (.slice b1 b1n b1c)), (5, .int .i64 i5)]) K h
@[irreducible] def K2 (Q : VP) : EP := seqK (fun fr h => ev PP true none (cd 15) (an 15) (fr.mask 0) (bodyK PP Tryz.f33 Q) h) (bodyK PP Tryz.f33 Q)
@[irreducible] def K1 (Q : VP) : EP := blockK 0 (K2 Q)
theorem L1_of {a0 : OA} {a0n a0c : Nat} {b1 : OA} {b1n b1c : Nat} {i5 : Int} {K : EP} {h : Heap} (H :
let t14 : Bool := decide (i5 < (a0n : Int))
br t14 (
hwp PP (Instr.indexAt y78 (.slice a0 a0n a0c) (.int .i64 i5)) (fun v h1 => ∃ (t19 : Addr), v = (.pointer (some t19)) ∧
∃ (t20 : ByteArray), cellH h1 t19 = some (.string t20) ∧
hwp PP (Instr.indexAt y78 (.slice b1 b1n b1c) (.int .i64 i5)) (fun v_1 h2 => ∃ (t23 : Addr), v_1 = (.pointer (some t23)) ∧
∃ (t24 : ByteArray), cellH h2 t23 = some (.string t24) ∧
let t25 : Bool := (!decide (t20 = t24))
br t25 (
K .ret (Xret false) h2) (
let t16 : Int := IntKind.i64.wrap (i5 + 1)
L1 a0 a0n a0c b1 b1n b1c t16 K h2)) h1) h) (
K (.exit 0) (X0) h)) : L1 a0 a0n a0c b1 b1n b1c i5 K h := by unfold L1; exact Lp.of_txt (an 116) 35 (by kernel_rfl) H
theorem L1_X0 {Q : VP}  {h : Heap} (H :
Q (.bool true) h) : (K1 Q) (.exit 0) (X0 ) h := y20 (by kernel_rfl) H
theorem door {a0 : OA} {a0n a0c : Nat} {b1 : OA} {b1n b1c : Nat} {Q : VP} {h : Heap} (H :
let t10 : Bool := ((a0n : Int) != (b1n : Int))
br t10 (
Q (.bool false) h) (
L1 a0 a0n a0c b1 b1n b1c 0 (K1 Q) h)) : SpecH PP z247 [(.slice a0 a0n a0c), (.slice b1 b1n b1c)] h Q :=
  y12 (ann := ann) Tryz.func33 rfl rfl (by kernel_rfl) H
end z246
namespace z431
def ann : Ann := (.seq 1 (rg 1 1) (.seq 4 (rg 14 4) (.exit 4)))
theorem door {s0 : ByteArray} {Q : VP} {h : Heap} (H :
let t4 : Bool := (!decide (s0 = (⟨#[]⟩ : ByteArray)))
br t4 (
let t7 : Int := (ByteArray.size s0 : Int)
let t8 : Bool := decide (t7 ≤ 16)
br t8 (
hwp PP (Go.convert y29 T_sl_uint8 (.string s0)) (fun v h1 => ∃ (t12 : OA) (t12n t12c : Nat), v = (.slice t12 t12n t12c) ∧
SpecH PP z297 [(.slice t12 t12n t12c), (.func (.func z434) #[] #[])] h1 (fun v_1 h2 => ∃ (t13 : Bool), v_1 = (.bool t13) ∧
let t14 : Bool := (!t13)
Q (.bool t14) h2)) h) (
Q (.bool false) h)) (
Q (.bool false) h)) : SpecH PP z432 [.string s0] h Q :=
  y12 (ann := ann) Tryz.func34 rfl rfl (by kernel_rfl) H
end z431
namespace z437
def ann : Ann := (.seq 1 (rg 1 1) (.seq 4 (rg 7 4) (.exit 4)))
theorem door {at0 : Int} {Q : VP} {h : Heap} (H :
let h1 : Heap := Array.push h (.map #[] 0)
let h2 : Heap := Array.push h1 (.map #[] 0)
let h3 : Heap := Array.push h2 (.map #[] 0)
let t8 : Addr := ⟨Array.size h3, 0, none⟩
let h4 : Heap := Array.push h3 (.cells #[.int .i64 at0, (.map (some (Array.size h))), (.map (some (Array.size h1))), (.map (some (Array.size h2)))] y195 (0, 0))
Q (.pointer (some t8)) h4) : SpecH PP z438 [.int .i64 at0] h Q :=
  y12 (ann := ann) Tryz.func35 rfl rfl (by kernel_rfl) H
end z437
namespace z226
def ann : Ann := (.seq 9 (rg 2 9) (.seq 9 (.block (.seq 1033 (rg 3 1033) (.cond (.seq 16 (rg 1 16) (.exit 16)) (.seq 8201 (rg 8 8201) (.cond (.seq 16 (rg 1 16) (.exit 16)) .leaf))))) (.seq 9 (rg 6 9) (.seq 0 (.seq 939524105 (rg 4 939524105) (.block (.loop 939524105 (.seq 2013265929 (rg 1 2013265929) (.seq 939524105 (.cond .leaf (.exit 0)) (.seq 939524105 (.block (.seq 939524169 (rg 4 939524169) (.seq 939524297 (rg 7 939524297) (.seq 939524297 (.seq 550695338185 (rg 2 550695338185) (.cond (rg 4 939524297) .leaf)) (.join (.seq 939524553 (rg 8 939524553) (.seq 939525065 (rg 3 939525065) (.seq 18446744074649076681 (rg 13 18446744074649076681) (.join (.cond (rg 6 939524105) (.tree (.run [0, 1, 2, 4, 6, 7] (.alt 3 (.alt 5 (.run [8, 9, 10] .done) (.alt 8 (.alt 5 (.run [9, 10] .done) (.alt 9 (.run [5, 10] .done) .nil)) .nil)) (.alt 5 (.alt 3 (.run [8, 9, 10] .done) (.alt 8 (.alt 3 (.run [9, 10] .done) (.alt 9 (.run [3, 10] .done) .nil)) .nil)) (.alt 8 (.alt 3 (.alt 5 (.run [9, 10] .done) (.alt 9 (.run [5, 10] .done) .nil)) (.alt 5 (.alt 3 (.run [9, 10] .done) (.alt 9 (.run [3, 10] .done) .nil)) (.alt 9 (.run [3, 5, 10] .done) .nil))) .nil)))) 939524105))))))))))) (.join (rg 2 939524105)))))))) (.seq 16 (rg 1 16) (.exit 16))))))
noncomputable abbrev cd := cdF Tryz.f36
abbrev an := anF ann
@[irreducible] def X1  : Fr := (mkFr 0 81 [])
@[irreducible] def L1 (s0 : OA) (c3 : Addr) (t27 : OA) (t27n t27c : Nat) (t28 t29 : Int) (K : EP) (h : Heap) : Prop := Lp PP true (cd 244) (mkFr 0 81 [(0, .pointer s0), (3, (.pointer (some c3))), (27, (.slice t27 t27n t27c)), (28, .int .i64 t28), (29, .int .i64 t29)]) K h
@[irreducible] def B1 (K : EP) : EP := seqK (fun fr h => Lp PP true (cd 244) (fr.mask 939524105) K h) K
@[irreducible] def K4 (K : EP) : EP := seqK (fun fr h => Jn PP true (cd 1959) (fr.mask 939524105) (B1 K) h) (B1 K)
@[irreducible] def K2 (K : EP) : EP := blockK 2 (K4 K)
@[irreducible] def J1 (s0 : OA) (c3 w6 v7 : Addr) (t27 : OA) (t27n t27c : Nat) (t28 t29 : Int) (K : EP) (h : Heap) : Prop := Jn PP true (cd 31335) (mkFr 0 81 [(0, .pointer s0), (3, (.pointer (some c3))), (6, (.pointer (some w6))), (7, (.pointer (some v7))), (27, (.slice t27 t27n t27c)), (28, .int .i64 t28), (29, .int .i64 t29)]) (K2 K) h
@[irreducible] def K3 (Q : VP) : EP := seqK (fun fr h => ev PP true none (cd 31) (an 31) (fr.mask 0) (bodyK PP Tryz.f36 Q) h) (bodyK PP Tryz.f36 Q)
@[irreducible] def K1 (Q : VP) : EP := blockK 1 (K3 Q)
@[irreducible] def J2 (s0 : OA) (c3 w6 v7 : Addr) (xl8 : OA) (xl8n xl8c : Nat) (xn9 : Int) (t27 : OA) (t27n t27c : Nat) (t28 t29 : Int) (t64 : Bool) (K : EP) (h : Heap) : Prop := Jn PP true (cd 250687) (mkFr 0 81 [(0, .pointer s0), (3, (.pointer (some c3))), (6, (.pointer (some w6))), (7, (.pointer (some v7))), (8, (.slice xl8 xl8n xl8c)), (9, .int .i64 xn9), (27, (.slice t27 t27n t27c)), (28, .int .i64 t28), (29, .int .i64 t29), (64, .bool t64)]) (K2 K) h
@[irreducible] def J3 (s0 : OA) (c3 : Addr) (t27 : OA) (t27n t27c : Nat) (t28 t29 : Int) (K : EP) (h : Heap) : Prop := Jn PP true (cd 1959) (mkFr 0 81 [(0, .pointer s0), (3, (.pointer (some c3))), (27, (.slice t27 t27n t27c)), (28, .int .i64 t28), (29, .int .i64 t29)]) (B1 K) h
theorem L1_of {s0 : OA} {c3 : Addr} {t27 : OA} {t27n t27c : Nat} {t28 t29 : Int} {K : EP} {h : Heap} (H :
let t30 : Bool := decide (t29 < t28)
br t30 (
hwp PP (Instr.indexAt y11 (.slice t27 t27n t27c) (.int .i64 t29)) (fun v h1 => ∃ (t31 : Addr), v = (.pointer (some t31)) ∧
∃ (t32f0 t32f1 t32f2 : ByteArray) (t32f3 : Bool) (t32f4 : ByteArray), rdCells h1 t31 0 [.string t32f0, .string t32f1, .string t32f2, .bool t32f3, .string t32f4] ∧
let w6 : Addr := ⟨Array.size h1, 0, none⟩
let h2 : Heap := Array.push h1 (.cells #[(.string (⟨#[]⟩ : ByteArray)), (.string (⟨#[]⟩ : ByteArray)), (.string (⟨#[]⟩ : ByteArray)), .bool false, (.string (⟨#[]⟩ : ByteArray))] y25 (0, 0))
wrCells w6 0 [.string t32f0, .string t32f1, .string t32f2, .bool t32f3, .string t32f4] (fun h3 =>
∃ (t34 : Int), cellH h3 c3 = some (.int .i64 t34) ∧
∃ (t36 : Bool), cellH h3 (Addr.add w6 3) = some (.bool t36) ∧
let v7 : Addr := ⟨Array.size h3, 0, none⟩
let h4 : Heap := Array.push h3 (.cells #[.int .i64 0, .bool false, (.string (⟨#[]⟩ : ByteArray))] y41 (0, 0))
wrCells v7 0 [.int .i64 t34, .bool t36, (.string (⟨#[]⟩ : ByteArray))] (fun h5 =>
∃ (t39 : Bool), cellH h5 (Addr.add w6 3) = some (.bool t39) ∧
br t39 (
∃ (t41 : ByteArray), cellH h5 (Addr.add w6 4) = some (.string t41) ∧
wr (Addr.add v7 2) (.string t41) (fun h6 =>
J1 s0 c3 w6 v7 t27 t27n t27c t28 t29 K h6) h5) (
J1 s0 c3 w6 v7 t27 t27n t27c t28 t29 K h5)) h4) h2) h) (
K (.exit 1) (X1) h)) : L1 s0 c3 t27 t27n t27c t28 t29 K h := by unfold L1; exact Lp.of_txt (an 244) 939524105 (by kernel_rfl) H
theorem L1_X1 {Q : VP}  {h : Heap} (H :
Q (.int .i64 0) h) : (K1 Q) (.exit 1) (X1 ) h := y20 (by kernel_rfl) H
theorem J1_of {s0 : OA} {c3 w6 v7 : Addr} {t27 : OA} {t27n t27c : Nat} {t28 t29 : Int} {K : EP} {h : Heap} (H :
nilc s0 (fun t44 =>
∃ (t46 : ON), cellH h t44 = some (.map t46) ∧
∃ (t48f0 t48f1 t48f2 : ByteArray), rdCells h w6 0 [.string t48f0, .string t48f1, .string t48f2] ∧
hwp PP (Instr.lookup y17 (.map t46) (.agg #[.string t48f0, .string t48f1, .string t48f2]) false) (fun v h1 => ∃ (t49 : OA) (t49n t49c : Nat), v = (.slice t49 t49n t49c) ∧
let t53 : Bool := decide ((t49n : Int) > 0)
br t53 (
let t57 : Int := IntKind.i64.wrap ((t49n : Int) - 1)
hwp PP (Instr.indexAt y19 (.slice t49 t49n t49c) (.int .i64 t57)) (fun v_1 h2 => ∃ (t58 : Addr), v_1 = (.pointer (some t58)) ∧
∃ (t60 : Int), cellH h2 t58 = some (.int .i64 t60) ∧
∃ (t62 : Int), cellH h2 c3 = some (.int .i64 t62) ∧
let t63 : Bool := (t60 == t62)
J2 s0 c3 w6 v7 t49 t49n t49c (t49n : Int) t27 t27n t27c t28 t29 t63 K h2) h1) (
J2 s0 c3 w6 v7 t49 t49n t49c (t49n : Int) t27 t27n t27c t28 t29 false K h1)) h)) : J1 s0 c3 w6 v7 t27 t27n t27c t28 t29 K h := by unfold J1; exact Jn.of_txt (an 31335) (by kernel_rfl) H
theorem J2_of {s0 : OA} {c3 w6 v7 : Addr} {xl8 : OA} {xl8n xl8c : Nat} {xn9 : Int} {t27 : OA} {t27n t27c : Nat} {t28 t29 : Int} {t64 : Bool} {K : EP} {h : Heap} (H :
br t64 (
let t67 : Int := IntKind.i64.wrap (xn9 - 1)
∃ (t68f0 : Int) (t68f1 : Bool) (t68f2 : ByteArray), rdCells h v7 0 [.int .i64 t68f0, .bool t68f1, .string t68f2] ∧
hwp PP (Instr.indexAt y19 (.slice xl8 xl8n xl8c) (.int .i64 t67)) (fun v h1 => ∃ (t69 : Addr), v = (.pointer (some t69)) ∧
wrCells t69 0 [.int .i64 t68f0, .bool t68f1, .string t68f2] (fun h2 =>
J3 s0 c3 t27 t27n t27c t28 t29 K h2) h1) h) (
nilc s0 (fun t71 =>
∃ (t77f0 : Int) (t77f1 : Bool) (t77f2 : ByteArray), rdCells h v7 0 [.int .i64 t77f0, .bool t77f1, .string t77f2] ∧
(
∃ (t73_7 : ON), cellH h t71 = some (.map t73_7) ∧
(
∃ (t75_7f0 t75_7f1 t75_7f2 : ByteArray), rdCells h w6 0 [.string t75_7f0, .string t75_7f1, .string t75_7f2] ∧
let h27 : Heap := Array.push h (.cells #[.int .i64 t77f0, .bool t77f1, .string t77f2] y41 (0, 0))
hwp PP (Builtin.append_ #[y19, y19] y19 #[(.slice xl8 xl8n xl8c), (.slice (some ⟨Array.size h, 0, none⟩) 1 1)]) (fun v_11 h28 => ∃ (t79_10 : OA) (t79_10n t79_10c : Nat), v_11 = (.slice t79_10 t79_10n t79_10c) ∧
hwp PP (Instr.mapUpdate y17 (.map t73_7) (.agg #[.string t75_7f0, .string t75_7f1, .string t75_7f2]) (.slice t79_10 t79_10n t79_10c)) (fun _ h29 =>
J3 s0 c3 t27 t27n t27c t28 t29 K h29) h28) h27) ∧
(
let h22 : Heap := Array.push h (.cells #[.int .i64 t77f0, .bool t77f1, .string t77f2] y41 (0, 0))
(
∃ (t75_6f0 t75_6f1 t75_6f2 : ByteArray), rdCells h22 w6 0 [.string t75_6f0, .string t75_6f1, .string t75_6f2] ∧
hwp PP (Builtin.append_ #[y19, y19] y19 #[(.slice xl8 xl8n xl8c), (.slice (some ⟨Array.size h, 0, none⟩) 1 1)]) (fun v_10 h25 => ∃ (t79_9 : OA) (t79_9n t79_9c : Nat), v_10 = (.slice t79_9 t79_9n t79_9c) ∧
hwp PP (Instr.mapUpdate y17 (.map t73_7) (.agg #[.string t75_6f0, .string t75_6f1, .string t75_6f2]) (.slice t79_9 t79_9n t79_9c)) (fun _ h26 =>
J3 s0 c3 t27 t27n t27c t28 t29 K h26) h25) h22) ∧
(
hwp PP (Builtin.append_ #[y19, y19] y19 #[(.slice xl8 xl8n xl8c), (.slice (some ⟨Array.size h, 0, none⟩) 1 1)]) (fun v_9 h23 => ∃ (t79_8 : OA) (t79_8n t79_8c : Nat), v_9 = (.slice t79_8 t79_8n t79_8c) ∧
∃ (t75_5f0 t75_5f1 t75_5f2 : ByteArray), rdCells h23 w6 0 [.string t75_5f0, .string t75_5f1, .string t75_5f2] ∧
hwp PP (Instr.mapUpdate y17 (.map t73_7) (.agg #[.string t75_5f0, .string t75_5f1, .string t75_5f2]) (.slice t79_8 t79_8n t79_8c)) (fun _ h24 =>
J3 s0 c3 t27 t27n t27c t28 t29 K h24) h23) h22) ∧
True) ∧
True) ∧
(
∃ (t75_4f0 t75_4f1 t75_4f2 : ByteArray), rdCells h w6 0 [.string t75_4f0, .string t75_4f1, .string t75_4f2] ∧
(
∃ (t73_6 : ON), cellH h t71 = some (.map t73_6) ∧
let h19 : Heap := Array.push h (.cells #[.int .i64 t77f0, .bool t77f1, .string t77f2] y41 (0, 0))
hwp PP (Builtin.append_ #[y19, y19] y19 #[(.slice xl8 xl8n xl8c), (.slice (some ⟨Array.size h, 0, none⟩) 1 1)]) (fun v_8 h20 => ∃ (t79_7 : OA) (t79_7n t79_7c : Nat), v_8 = (.slice t79_7 t79_7n t79_7c) ∧
hwp PP (Instr.mapUpdate y17 (.map t73_6) (.agg #[.string t75_4f0, .string t75_4f1, .string t75_4f2]) (.slice t79_7 t79_7n t79_7c)) (fun _ h21 =>
J3 s0 c3 t27 t27n t27c t28 t29 K h21) h20) h19) ∧
(
let h14 : Heap := Array.push h (.cells #[.int .i64 t77f0, .bool t77f1, .string t77f2] y41 (0, 0))
(
∃ (t73_5 : ON), cellH h14 t71 = some (.map t73_5) ∧
hwp PP (Builtin.append_ #[y19, y19] y19 #[(.slice xl8 xl8n xl8c), (.slice (some ⟨Array.size h, 0, none⟩) 1 1)]) (fun v_7 h17 => ∃ (t79_6 : OA) (t79_6n t79_6c : Nat), v_7 = (.slice t79_6 t79_6n t79_6c) ∧
hwp PP (Instr.mapUpdate y17 (.map t73_5) (.agg #[.string t75_4f0, .string t75_4f1, .string t75_4f2]) (.slice t79_6 t79_6n t79_6c)) (fun _ h18 =>
J3 s0 c3 t27 t27n t27c t28 t29 K h18) h17) h14) ∧
(
hwp PP (Builtin.append_ #[y19, y19] y19 #[(.slice xl8 xl8n xl8c), (.slice (some ⟨Array.size h, 0, none⟩) 1 1)]) (fun v_6 h15 => ∃ (t79_5 : OA) (t79_5n t79_5c : Nat), v_6 = (.slice t79_5 t79_5n t79_5c) ∧
∃ (t73_4 : ON), cellH h15 t71 = some (.map t73_4) ∧
hwp PP (Instr.mapUpdate y17 (.map t73_4) (.agg #[.string t75_4f0, .string t75_4f1, .string t75_4f2]) (.slice t79_5 t79_5n t79_5c)) (fun _ h16 =>
J3 s0 c3 t27 t27n t27c t28 t29 K h16) h15) h14) ∧
True) ∧
True) ∧
(
let h3 : Heap := Array.push h (.cells #[.int .i64 t77f0, .bool t77f1, .string t77f2] y41 (0, 0))
(
∃ (t73_3 : ON), cellH h3 t71 = some (.map t73_3) ∧
(
∃ (t75_3f0 t75_3f1 t75_3f2 : ByteArray), rdCells h3 w6 0 [.string t75_3f0, .string t75_3f1, .string t75_3f2] ∧
hwp PP (Builtin.append_ #[y19, y19] y19 #[(.slice xl8 xl8n xl8c), (.slice (some ⟨Array.size h, 0, none⟩) 1 1)]) (fun v_5 h12 => ∃ (t79_4 : OA) (t79_4n t79_4c : Nat), v_5 = (.slice t79_4 t79_4n t79_4c) ∧
hwp PP (Instr.mapUpdate y17 (.map t73_3) (.agg #[.string t75_3f0, .string t75_3f1, .string t75_3f2]) (.slice t79_4 t79_4n t79_4c)) (fun _ h13 =>
J3 s0 c3 t27 t27n t27c t28 t29 K h13) h12) h3) ∧
(
hwp PP (Builtin.append_ #[y19, y19] y19 #[(.slice xl8 xl8n xl8c), (.slice (some ⟨Array.size h, 0, none⟩) 1 1)]) (fun v_4 h10 => ∃ (t79_3 : OA) (t79_3n t79_3c : Nat), v_4 = (.slice t79_3 t79_3n t79_3c) ∧
∃ (t75_2f0 t75_2f1 t75_2f2 : ByteArray), rdCells h10 w6 0 [.string t75_2f0, .string t75_2f1, .string t75_2f2] ∧
hwp PP (Instr.mapUpdate y17 (.map t73_3) (.agg #[.string t75_2f0, .string t75_2f1, .string t75_2f2]) (.slice t79_3 t79_3n t79_3c)) (fun _ h11 =>
J3 s0 c3 t27 t27n t27c t28 t29 K h11) h10) h3) ∧
True) ∧
(
∃ (t75_1f0 t75_1f1 t75_1f2 : ByteArray), rdCells h3 w6 0 [.string t75_1f0, .string t75_1f1, .string t75_1f2] ∧
(
∃ (t73_2 : ON), cellH h3 t71 = some (.map t73_2) ∧
hwp PP (Builtin.append_ #[y19, y19] y19 #[(.slice xl8 xl8n xl8c), (.slice (some ⟨Array.size h, 0, none⟩) 1 1)]) (fun v_3 h8 => ∃ (t79_2 : OA) (t79_2n t79_2c : Nat), v_3 = (.slice t79_2 t79_2n t79_2c) ∧
hwp PP (Instr.mapUpdate y17 (.map t73_2) (.agg #[.string t75_1f0, .string t75_1f1, .string t75_1f2]) (.slice t79_2 t79_2n t79_2c)) (fun _ h9 =>
J3 s0 c3 t27 t27n t27c t28 t29 K h9) h8) h3) ∧
(
hwp PP (Builtin.append_ #[y19, y19] y19 #[(.slice xl8 xl8n xl8c), (.slice (some ⟨Array.size h, 0, none⟩) 1 1)]) (fun v_2 h6 => ∃ (t79_1 : OA) (t79_1n t79_1c : Nat), v_2 = (.slice t79_1 t79_1n t79_1c) ∧
∃ (t73_1 : ON), cellH h6 t71 = some (.map t73_1) ∧
hwp PP (Instr.mapUpdate y17 (.map t73_1) (.agg #[.string t75_1f0, .string t75_1f1, .string t75_1f2]) (.slice t79_1 t79_1n t79_1c)) (fun _ h7 =>
J3 s0 c3 t27 t27n t27c t28 t29 K h7) h6) h3) ∧
True) ∧
(
hwp PP (Builtin.append_ #[y19, y19] y19 #[(.slice xl8 xl8n xl8c), (.slice (some ⟨Array.size h, 0, none⟩) 1 1)]) (fun v_1 h4 => ∃ (t79 : OA) (t79n t79c : Nat), v_1 = (.slice t79 t79n t79c) ∧
∃ (t73 : ON), cellH h4 t71 = some (.map t73) ∧
∃ (t75f0 t75f1 t75f2 : ByteArray), rdCells h4 w6 0 [.string t75f0, .string t75f1, .string t75f2] ∧
hwp PP (Instr.mapUpdate y17 (.map t73) (.agg #[.string t75f0, .string t75f1, .string t75f2]) (.slice t79 t79n t79c)) (fun _ h5 =>
J3 s0 c3 t27 t27n t27c t28 t29 K h5) h4) h3) ∧
True) ∧
True))) : J2 s0 c3 w6 v7 xl8 xl8n xl8c xn9 t27 t27n t27c t28 t29 t64 K h := by unfold J2; exact Jn.of_txt (an 250687) (by kernel_rfl) H
theorem J3_of {s0 : OA} {c3 : Addr} {t27 : OA} {t27n t27c : Nat} {t28 t29 : Int} {K : EP} {h : Heap} (H :
let t80 : Int := IntKind.i64.wrap (t29 + 1)
L1 s0 c3 t27 t27n t27c t28 t80 K h) : J3 s0 c3 t27 t27n t27c t28 t29 K h := by unfold J3; exact Jn.of_txt (an 1959) (by kernel_rfl) H
theorem door {s0 : OA} {c1f0 : Int} {c1f1 : OA} {c1f1n c1f1c : Nat} {Q : VP} {h : Heap} (H :
let c3 : Addr := ⟨Array.size h, 0, none⟩
let h1 : Heap := Array.push h (.cells #[.int .i64 c1f0, (.slice c1f1 c1f1n c1f1c)] y36 (0, 0))
let t12 : Bool := (Option.isNone s0)
br t12 (
Q (.int .i64 3) h1) (
∃ (t15 : Int), cellH h1 c3 = some (.int .i64 t15) ∧
nilc s0 (fun t17 =>
∃ (t19 : Int), cellH h1 (Addr.add t17 1) = some (.int .i64 t19) ∧
let t20 : Bool := decide (t15 ≤ t19)
br t20 (
Q (.int .i64 120) h1) (
∃ (t23 : Int), cellH h1 c3 = some (.int .i64 t23) ∧
nilc s0 (fun t24 =>
wr (Addr.add t24 1) (.int .i64 t23) (fun h2 =>
∃ (t27 : OA) (t27n t27c : Nat), cellH h2 (Addr.add c3 1) = some (.slice t27 t27n t27c) ∧
L1 s0 c3 t27 t27n t27c (t27n : Int) 0 (K1 Q) h2) h1))))) : SpecH PP z227 [.pointer s0, (.agg #[.int .i64 c1f0, (.slice c1f1 c1f1n c1f1c)])] h Q :=
  y12 (ann := ann) Tryz.func36 rfl rfl (by kernel_rfl) H
end z226
namespace z418
def ann : Ann := (.seq 1 (rg 6 1) (.seq 17 (rg 4 17) (.seq 17 (.seq 262161 (rg 5 262161) (.block (.loop 262161 (.seq 1310737 (rg 2 1310737) (.seq 262161 (.cond .leaf (.exit 17)) (.block (.seq 262225 (rg 3 262225) (.tree (.run [1, 2, 3, 4] (.alt 0 (.run [5, 6, 7] .done) (.alt 5 (.run [0, 6, 7] .done) .nil))) 262161)))))))) (.seq 17 (rg 7 17) (rg 10 0)))))
noncomputable abbrev cd := cdF Tryz.f37
abbrev an := anF ann
@[irreducible] def X0 (m0 : OA) (y107 : Addr) : Fr := (mkFr 0 46 [(0, .pointer m0), (4, (.pointer (some y107)))])
@[irreducible] def L1 (m0 : OA) (y107 : Addr) (t18 : Value) (K : EP) (h : Heap) : Prop := Lp PP true (cd 116) (mkFr 0 46 [(0, .pointer m0), (4, (.pointer (some y107))), (18, t18)]) K h
@[irreducible] def K2 (Q : VP) : EP := seqK (fun fr h => ev PP true none (cd 15) (an 15) (fr.mask 17) (bodyK PP Tryz.f37 Q) h) (bodyK PP Tryz.f37 Q)
@[irreducible] def K1 (Q : VP) : EP := blockK 0 (K2 Q)
theorem L1_of {m0 : OA} {y107 : Addr} {t18 : Value} {K : EP} {h : Heap} (H :
hwp PP (Instr.next t18 false T_) (fun v h1 => ∃ (b : Bool) (r : List Value), v = .tuple ((.bool b :: r).toArray) ∧
br b (
hwp PP (Instr.entry t18) (fun v_1 h2 => ∃ (t21 t21_1 : Value), v_1 = (.tuple #[t21, t21_1]) ∧
∃ (t22 : OA), t21_1 = (.pointer t22) ∧
nilc t22 (fun t25 =>
∃ (t27 : OA), cellH h2 (Addr.add t25 1) = some (.pointer t27) ∧
(
∃ (t23_1 : Int), cellH h2 y107 = some (.int .i64 t23_1) ∧
SpecH PP z440 [.pointer t27] h2 (fun v_3 h5 => ∃ (t28_1 : Int), v_3 = (.int .i64 t28_1) ∧
let t29_1 : Int := (if t28_1 < t23_1 then t28_1 else t23_1)
wr y107 (.int .i64 t29_1) (fun h6 =>
L1 m0 y107 t18 K h6) h5)) ∧
(
SpecH PP z440 [.pointer t27] h2 (fun v_2 h3 => ∃ (t28 : Int), v_2 = (.int .i64 t28) ∧
∃ (t23 : Int), cellH h3 y107 = some (.int .i64 t23) ∧
let t29 : Int := (if t28 < t23 then t28 else t23)
wr y107 (.int .i64 t29) (fun h4 =>
L1 m0 y107 t18 K h4) h3)) ∧
True)) h1) (
K (.exit 0) (X0 m0 y107) h1)) h) : L1 m0 y107 t18 K h := by unfold L1; exact Lp.of_txt (an 116) 262161 (by kernel_rfl) H
theorem L1_X0 {Q : VP} {m0 : OA} {y107 : Addr} {h : Heap} (H :
nilc m0 (fun t31 =>
∃ (t33 : OA), cellH h t31 = some (.pointer t33) ∧
∃ (t34 : Int), cellH h y107 = some (.int .i64 t34) ∧
let t35 : Int := IntKind.i64.wrap (t34 + 1)
SpecH PP z225 [.pointer t33, .int .i64 t35] h (fun v h1 => ∃ (t36 : Int), v = (.int .i64 t36) ∧
nilc m0 (fun t39 =>
∃ (t41 : OA) (t41n t41c : Nat), cellH h1 (Addr.add t39 1) = some (.slice t41 t41n t41c) ∧
SpecH PP z301 [(.slice t41 t41n t41c), (.func (.func z421) #[] #[(.pointer (some y107))])] h1 (fun v_1 h2 => ∃ (t43 : OA) (t43n t43c : Nat), v_1 = (.slice t43 t43n t43c) ∧
nilc m0 (fun t44 =>
wr (Addr.add t44 1) (.slice t43 t43n t43c) (fun h3 =>
Q (.tuple #[]) h3) h2)))))) : (K1 Q) (.exit 0) (X0 m0 y107) h := y20 (by kernel_rfl) H
theorem door {m0 : OA} {txn1 : Int} {Q : VP} {h : Heap} (H :
nilc m0 (fun t8 =>
∃ (t10 : ON), cellH h (Addr.add t8 2) = some (.map t10) ∧
hwp PP (Builtin.delete_ #[y44, y63] T_ #[.map t10, .int .i64 txn1]) (fun v h1 => v = (.tuple #[]) ∧
SpecH PP z403 [.pointer m0] h1 (fun v_1 h2 => ∃ (t13 : Int), v_1 = (.int .i64 t13) ∧
let y107 : Addr := ⟨Array.size h2, 0, none⟩
let h3 : Heap := Array.push h2 (.cells #[.int .i64 0] y63 (0, 0))
wr y107 (.int .i64 t13) (fun h4 =>
nilc m0 (fun t15 =>
∃ (t17 : ON), cellH h4 (Addr.add t15 2) = some (.map t17) ∧
hwp PP (Instr.range y44 (.map t17)) (fun v_2 h5 => ∃ (t18 : Value), v_2 = t18 ∧
L1 m0 y107 t18 (K1 Q) h5) h4)) h3)) h)) : SpecH PP z419 [.pointer m0, .int .i64 txn1] h Q :=
  y12 (ann := ann) Tryz.func37 rfl rfl (by kernel_rfl) H
end z418
namespace z455
def ann : Ann := (.seq 1 (rg 1 1) (.seq 1 (.seq 17 (rg 2 17) (.cond (.seq 4 (rg 1 4) (.exit 4)) .leaf)) (.seq 4 (rg 7 4) (.exit 4))))
theorem door {s0 : OA} {Q : VP} {h : Heap} (H :
let t4 : Bool := (Option.isNone s0)
br t4 (
Q (.slice none 0 0) h) (
nilc s0 (fun t6 =>
∃ (t8 : ON), cellH h (Addr.add t6 3) = some (.map t8) ∧
SpecH PP z267 [.map t8] h (fun v h1 => ∃ (t9 : Value), v = t9 ∧
SpecH PP z315 [t9, (.func (.func z458) #[] #[])] h1 (fun v_1 h2 => ∃ (t10 : OA) (t10n t10c : Nat), v_1 = (.slice t10 t10n t10c) ∧
Q (.slice t10 t10n t10c) h2))))) : SpecH PP z456 [.pointer s0] h Q :=
  y12 (ann := ann) Tryz.func38 rfl rfl (by kernel_rfl) H
end z455
namespace z439
def ann : Ann := (.seq 1 (rg 1 1) (.seq 1 (.seq 17 (rg 2 17) (.cond (.seq 4 (rg 1 4) (.exit 4)) .leaf)) (.seq 4 (rg 5 4) (.exit 4))))
theorem door {s0 : OA} {Q : VP} {h : Heap} (H :
let t4 : Bool := (Option.isNone s0)
br t4 (
Q (.int .i64 0) h) (
nilc s0 (fun t6 =>
∃ (t8 : Int), cellH h t6 = some (.int .i64 t8) ∧
Q (.int .i64 t8) h))) : SpecH PP z440 [.pointer s0] h Q :=
  y12 (ann := ann) Tryz.func39 rfl rfl (by kernel_rfl) H
end z439
namespace z441
def ann : Ann := (.seq 12 (rg 3 12) (.seq 16 (rg 18 16) (.exit 16)))
theorem door {s0 : OA} {c1f0 : Int} {c1f1 : OA} {c1f1n c1f1c : Nat} {Q : VP} {h : Heap} (H :
let s2 : Addr := ⟨Array.size h, 0, none⟩
let h1 : Heap := Array.push h (.cells #[.pointer s0] y127 (0, 0))
let c3 : Addr := ⟨Array.size h1, 0, none⟩
let h2 : Heap := Array.push h1 (.cells #[.int .i64 c1f0, (.slice c1f1 c1f1n c1f1c)] y36 (0, 0))
∃ (t5 : OA), cellH h2 s2 = some (.pointer t5) ∧
let t6 : Bool := (!Option.isNone t5)
br t6 (
∃ (t9 : Int), cellH h2 c3 = some (.int .i64 t9) ∧
∃ (t10 : OA), cellH h2 s2 = some (.pointer t10) ∧
nilc t10 (fun t11 =>
∃ (t13 : Int), cellH h2 t11 = some (.int .i64 t13) ∧
let t14 : Bool := decide (t9 > t13)
br t14 (
∃ (t18 : OA) (t18n t18c : Nat), cellH h2 (Addr.add c3 1) = some (.slice t18 t18n t18c) ∧
SpecH PP z295 [(.slice t18 t18n t18c), (.func (.func z444) #[] #[(.pointer (some s2))])] h2 (fun v h3 => ∃ (t20 : Bool), v = (.bool t20) ∧
Q (.bool t20) h3)) (
Q (.bool false) h2))) (
Q (.bool false) h2)) : SpecH PP z442 [.pointer s0, (.agg #[.int .i64 c1f0, (.slice c1f1 c1f1n c1f1c)])] h Q :=
  y12 (ann := ann) Tryz.func40 rfl rfl (by kernel_rfl) H
end z441
namespace z422
def ann : Ann := (.seq 7 (rg 1 7) (.seq 135 (rg 2 135) (.seq 133 (.seq 3670151 (rg 4 3670151) (.block (.loop 3670151 (.seq 7864455 (rg 1 7864455) (.seq 3670151 (.cond .leaf (.exit 133)) (.seq 3670151 (.block (.seq 3670663 (rg 4 3670663) (.seq 272106119 (rg 4 272106119) (.cond (rg 7 3670151) .leaf)))) (.join (rg 2 3670151)))))))) (.seq 128 (.seq 481036337281 (rg 3 481036337281) (.block (.loop 481036337281 (.seq 1030792151169 (rg 1 1030792151169) (.seq 481036337281 (.cond .leaf (.exit 128)) (.seq 481036337281 (.block (.seq 481036339329 (rg 4 481036339329) (.seq 481036347521 (.tree (.run [0, 1, 2, 4, 6] (.alt 3 (.alt 5 (.run [7, 8, 9, 10, 11, 12, 13, 14] .done) (.alt 7 (.run [5, 8, 9, 10, 11, 12, 13, 14] .done) .nil)) (.alt 5 (.alt 3 (.run [7, 8, 9, 10, 11, 12, 13, 14] .done) (.alt 7 (.run [3, 8, 9, 10, 11, 12, 13, 14] .done) .nil)) (.alt 7 (.run [3, 5, 8, 9, 10, 11, 12, 13, 14] .done) .nil)))) 481036347521) (.join (.block (.seq 36029278055311489 (rg 7 36029278055311489) (.join (.cond (rg 7 481036337281) (.seq 295147905660389165185 (rg 7 295147905660389165185) (.join (.cond (rg 7 481036337281) .leaf))))))))))) (.join (rg 2 481036337281)))))))) (.seq 16512 (rg 1 16512) (.seq 16384 (.seq 9671406556917033397665792 (rg 2 9671406556917033397665792) (.block (.loop 9671406556917033397665792 (.seq 48357032784585166988263424 (rg 2 48357032784585166988263424) (.seq 9671406556917033397665792 (.cond .leaf (.exit 16384)) (.block (.seq 9671406556917033397731328 (rg 3 9671406556917033397731328) (.seq 9671406556917033397731328 (.seq 628641426199607170847293440 (rg 2 628641426199607170847293440) (.cond (.seq 64 (rg 1 64) (.exit 64)) .leaf)) (.seq 2485551485127677583195914240 (rg 2 2485551485127677583195914240) (.cond (rg 3 9671406556917033397665792) .leaf)))))))))) (.seq 64 (rg 3 64) (.exit 64))))))))
noncomputable abbrev cd := cdF Tryz.f41
abbrev an := anF ann
@[irreducible] def X0 (m0 xl2 : OA) (xl2n xl2c : Nat) (y61 : ON) : Fr := (mkFr 0 96 [(0, .pointer m0), (2, (.slice xl2 xl2n xl2c)), (7, .map y61)])
@[irreducible] def X2 (y61 : ON) : Fr := (mkFr 0 96 [(7, .map y61)])
@[irreducible] def Xret (t6 : Bool) : Fr := (mkFr 0 96 [(6, .bool t6)])
@[irreducible] def X5 (y123 : Int) : Fr := (mkFr 0 96 [(14, .int .i64 y123)])
@[irreducible] def L1 (m0 : OA) (y48 : ByteArray) (xl2 : OA) (xl2n xl2c : Nat) (y61 : ON) (t19 : OA) (t19n t19c : Nat) (t20 t21 : Int) (K : EP) (h : Heap) : Prop := Lp PP true (cd 116) (mkFr 0 96 [(0, .pointer m0), (1, .string y48), (2, (.slice xl2 xl2n xl2c)), (7, .map y61), (19, (.slice t19 t19n t19c)), (20, .int .i64 t20), (21, .int .i64 t21)]) K h
@[irreducible] def B1 (K : EP) : EP := seqK (fun fr h => Lp PP true (cd 116) (fr.mask 3670151) K h) K
@[irreducible] def J1 (m0 : OA) (y48 : ByteArray) (xl2 : OA) (xl2n xl2c : Nat) (y61 : ON) (t19 : OA) (t19n t19c : Nat) (t20 t21 : Int) (K : EP) (h : Heap) : Prop := Jn PP true (cd 935) (mkFr 0 96 [(0, .pointer m0), (1, .string y48), (2, (.slice xl2 xl2n xl2c)), (7, .map y61), (19, (.slice t19 t19n t19c)), (20, .int .i64 t20), (21, .int .i64 t21)]) (B1 K) h
@[irreducible] def K3 (Q : VP) : EP := seqK (fun fr h => ev PP true none (cd 15) (an 15) (fr.mask 133) (bodyK PP Tryz.f41 Q) h) (bodyK PP Tryz.f41 Q)
@[irreducible] def K1 (Q : VP) : EP := blockK 0 (K3 Q)
@[irreducible] def K4 (Q : VP) : EP := seqK (fun fr h => ev PP true none (cd 31) (an 31) (fr.mask 128) (bodyK PP Tryz.f41 Q) h) (bodyK PP Tryz.f41 Q)
@[irreducible] def K2 (Q : VP) : EP := blockK 2 (K4 Q)
@[irreducible] def L2 (m0 : OA) (y61 : ON) (t36 : OA) (t36n t36c : Nat) (t37 t38 : Int) (K : EP) (h : Heap) : Prop := Lp PP true (cd 244) (mkFr 0 96 [(0, .pointer m0), (7, .map y61), (36, (.slice t36 t36n t36c)), (37, .int .i64 t37), (38, .int .i64 t38)]) K h
@[irreducible] def B2 (K : EP) : EP := seqK (fun fr h => Lp PP true (cd 244) (fr.mask 481036337281) K h) K
@[irreducible] def K8 (K : EP) : EP := seqK (fun fr h => Jn PP true (cd 1959) (fr.mask 481036337281) (B2 K) h) (B2 K)
@[irreducible] def K6 (K : EP) : EP := blockK 3 (K8 K)
@[irreducible] def J2 (m0 : OA) (y61 : ON) (w11 : Addr) (there13 : Bool) (t36 : OA) (t36n t36c : Nat) (t37 t38 : Int) (K : EP) (h : Heap) : Prop := Jn PP true (cd 15667) (mkFr 0 96 [(0, .pointer m0), (7, .map y61), (11, (.pointer (some w11))), (13, .bool there13), (36, (.slice t36 t36n t36c)), (37, .int .i64 t37), (38, .int .i64 t38)]) (K6 K) h
@[irreducible] def K7 (Q : VP) : EP := seqK (fun fr h => ev PP true none (cd 127) (an 127) (fr.mask 16384) (bodyK PP Tryz.f41 Q) h) (bodyK PP Tryz.f41 Q)
@[irreducible] def K5 (Q : VP) : EP := blockK 5 (K7 Q)
@[irreducible] def L3 (y123 : Int) (t83 : Value) (K : EP) (h : Heap) : Prop := Lp PP true (cd 1012) (mkFr 0 96 [(14, .int .i64 y123), (83, t83)]) K h
@[irreducible] def K9 (K : EP) : EP := blockK 4 (K6 K)
@[irreducible] def J3 (m0 : OA) (y61 : ON) (w11 : Addr) (there13 : Bool) (t36 : OA) (t36n t36c : Nat) (t37 t38 : Int) (t55 : Bool) (K : EP) (h : Heap) : Prop := Jn PP true (cd 62669) (mkFr 0 96 [(0, .pointer m0), (7, .map y61), (11, (.pointer (some w11))), (13, .bool there13), (36, (.slice t36 t36n t36c)), (37, .int .i64 t37), (38, .int .i64 t38), (55, .bool t55)]) (K9 K) h
@[irreducible] def J4 (m0 : OA) (y61 : ON) (t36 : OA) (t36n t36c : Nat) (t37 t38 : Int) (K : EP) (h : Heap) : Prop := Jn PP true (cd 1959) (mkFr 0 96 [(0, .pointer m0), (7, .map y61), (36, (.slice t36 t36n t36c)), (37, .int .i64 t37), (38, .int .i64 t38)]) (B2 K) h
@[irreducible] def J5 (m0 : OA) (y61 : ON) (w11 : Addr) (t36 : OA) (t36n t36c : Nat) (t37 t38 : Int) (t68 : Bool) (K : EP) (h : Heap) : Prop := Jn PP true (cd 250679) (mkFr 0 96 [(0, .pointer m0), (7, .map y61), (11, (.pointer (some w11))), (36, (.slice t36 t36n t36c)), (37, .int .i64 t37), (38, .int .i64 t38), (68, .bool t68)]) (K9 K) h
theorem L1_of {m0 : OA} {y48 : ByteArray} {xl2 : OA} {xl2n xl2c : Nat} {y61 : ON} {t19 : OA} {t19n t19c : Nat} {t20 t21 : Int} {K : EP} {h : Heap} (H :
let t22 : Bool := decide (t21 < t20)
br t22 (
hwp PP (Instr.indexAt y42 (.slice t19 t19n t19c) (.int .i64 t21)) (fun v h1 => ∃ (t23 : Addr), v = (.pointer (some t23)) ∧
∃ (t24f0 t24f1 : ByteArray) (t24f2 : OA) (t24f2n t24f2c : Nat), rdCells h1 t23 0 [.string t24f0, .string t24f1, (.slice t24f2 t24f2n t24f2c)] ∧
let a9 : Addr := ⟨Array.size h1, 0, none⟩
let h2 : Heap := Array.push h1 (.cells #[(.string (⟨#[]⟩ : ByteArray)), (.string (⟨#[]⟩ : ByteArray)), (.slice none 0 0)] y49 (0, 0))
wrCells a9 0 [.string t24f0, .string t24f1, (.slice t24f2 t24f2n t24f2c)] (fun h3 =>
∃ (t26 : ByteArray), cellH h3 a9 = some (.string t26) ∧
let t28 : Bool := decide (t26 = y48)
br t28 (
∃ (t31 : ByteArray), cellH h3 (Addr.add a9 1) = some (.string t31) ∧
∃ (t33 : OA) (t33n t33c : Nat), cellH h3 (Addr.add a9 2) = some (.slice t33 t33n t33c) ∧
hwp PP (Instr.mapUpdate y90 (.map y61) (.string t31) (.int .i64 (t33n : Int))) (fun _ h4 =>
J1 m0 y48 xl2 xl2n xl2c y61 t19 t19n t19c t20 t21 K h4) h3) (
J1 m0 y48 xl2 xl2n xl2c y61 t19 t19n t19c t20 t21 K h3)) h2) h) (
K (.exit 0) (X0 m0 xl2 xl2n xl2c y61) h)) : L1 m0 y48 xl2 xl2n xl2c y61 t19 t19n t19c t20 t21 K h := by unfold L1; exact Lp.of_txt (an 116) 3670151 (by kernel_rfl) H
theorem L1_X0 {Q : VP} {m0 xl2 : OA} {xl2n xl2c : Nat} {y61 : ON} {h : Heap} (H :
L2 m0 y61 xl2 xl2n xl2c (xl2n : Int) 0 (K2 Q) h) : (K1 Q) (.exit 0) (X0 m0 xl2 xl2n xl2c y61) h := y20 (by kernel_rfl) H
theorem J1_of {m0 : OA} {y48 : ByteArray} {xl2 : OA} {xl2n xl2c : Nat} {y61 : ON} {t19 : OA} {t19n t19c : Nat} {t20 t21 : Int} {K : EP} {h : Heap} (H :
let t35 : Int := IntKind.i64.wrap (t21 + 1)
L1 m0 y48 xl2 xl2n xl2c y61 t19 t19n t19c t20 t35 K h) : J1 m0 y48 xl2 xl2n xl2c y61 t19 t19n t19c t20 t21 K h := by unfold J1; exact Jn.of_txt (an 935) (by kernel_rfl) H
theorem L2_of {m0 : OA} {y61 : ON} {t36 : OA} {t36n t36c : Nat} {t37 t38 : Int} {K : EP} {h : Heap} (H :
let t39 : Bool := decide (t38 < t37)
br t39 (
hwp PP (Instr.indexAt y11 (.slice t36 t36n t36c) (.int .i64 t38)) (fun v h1 => ∃ (t40 : Addr), v = (.pointer (some t40)) ∧
∃ (t41f0 t41f1 t41f2 : ByteArray) (t41f3 : Bool) (t41f4 : ByteArray), rdCells h1 t40 0 [.string t41f0, .string t41f1, .string t41f2, .bool t41f3, .string t41f4] ∧
let w11 : Addr := ⟨Array.size h1, 0, none⟩
let h2 : Heap := Array.push h1 (.cells #[(.string (⟨#[]⟩ : ByteArray)), (.string (⟨#[]⟩ : ByteArray)), (.string (⟨#[]⟩ : ByteArray)), .bool false, (.string (⟨#[]⟩ : ByteArray))] y25 (0, 0))
wrCells w11 0 [.string t41f0, .string t41f1, .string t41f2, .bool t41f3, .string t41f4] (fun h3 =>
nilc m0 (fun t44 =>
(
∃ (t46_3 : OA), cellH h3 t44 = some (.pointer t46_3) ∧
(
∃ (t48_3f0 t48_3f1 t48_3f2 : ByteArray), rdCells h3 w11 0 [.string t48_3f0, .string t48_3f1, .string t48_3f2] ∧
SpecH PP z403 [.pointer m0] h3 (fun v_9 h12 => ∃ (t50_4 : Int), v_9 = (.int .i64 t50_4) ∧
let t51_4 : Int := IntKind.i64.wrap (t50_4 + 1)
SpecH PP z215 [.pointer t46_3, (.agg #[.string t48_3f0, .string t48_3f1, .string t48_3f2]), .int .i64 t51_4] h12 (fun v_10 h13 => ∃ (t52_8 : ByteArray) (t52_9 : Bool), v_10 = (.tuple #[.string t52_8, .bool t52_9]) ∧
J2 m0 y61 w11 t52_9 t36 t36n t36c t37 t38 K h13))) ∧
(
SpecH PP z403 [.pointer m0] h3 (fun v_7 h10 => ∃ (t50_3 : Int), v_7 = (.int .i64 t50_3) ∧
∃ (t48_2f0 t48_2f1 t48_2f2 : ByteArray), rdCells h10 w11 0 [.string t48_2f0, .string t48_2f1, .string t48_2f2] ∧
let t51_3 : Int := IntKind.i64.wrap (t50_3 + 1)
SpecH PP z215 [.pointer t46_3, (.agg #[.string t48_2f0, .string t48_2f1, .string t48_2f2]), .int .i64 t51_3] h10 (fun v_8 h11 => ∃ (t52_6 : ByteArray) (t52_7 : Bool), v_8 = (.tuple #[.string t52_6, .bool t52_7]) ∧
J2 m0 y61 w11 t52_7 t36 t36n t36c t37 t38 K h11))) ∧
True) ∧
(
∃ (t48_1f0 t48_1f1 t48_1f2 : ByteArray), rdCells h3 w11 0 [.string t48_1f0, .string t48_1f1, .string t48_1f2] ∧
(
∃ (t46_2 : OA), cellH h3 t44 = some (.pointer t46_2) ∧
SpecH PP z403 [.pointer m0] h3 (fun v_5 h8 => ∃ (t50_2 : Int), v_5 = (.int .i64 t50_2) ∧
let t51_2 : Int := IntKind.i64.wrap (t50_2 + 1)
SpecH PP z215 [.pointer t46_2, (.agg #[.string t48_1f0, .string t48_1f1, .string t48_1f2]), .int .i64 t51_2] h8 (fun v_6 h9 => ∃ (t52_4 : ByteArray) (t52_5 : Bool), v_6 = (.tuple #[.string t52_4, .bool t52_5]) ∧
J2 m0 y61 w11 t52_5 t36 t36n t36c t37 t38 K h9))) ∧
(
SpecH PP z403 [.pointer m0] h3 (fun v_3 h6 => ∃ (t50_1 : Int), v_3 = (.int .i64 t50_1) ∧
∃ (t46_1 : OA), cellH h6 t44 = some (.pointer t46_1) ∧
let t51_1 : Int := IntKind.i64.wrap (t50_1 + 1)
SpecH PP z215 [.pointer t46_1, (.agg #[.string t48_1f0, .string t48_1f1, .string t48_1f2]), .int .i64 t51_1] h6 (fun v_4 h7 => ∃ (t52_2 : ByteArray) (t52_3 : Bool), v_4 = (.tuple #[.string t52_2, .bool t52_3]) ∧
J2 m0 y61 w11 t52_3 t36 t36n t36c t37 t38 K h7))) ∧
True) ∧
(
SpecH PP z403 [.pointer m0] h3 (fun v_1 h4 => ∃ (t50 : Int), v_1 = (.int .i64 t50) ∧
∃ (t46 : OA), cellH h4 t44 = some (.pointer t46) ∧
∃ (t48f0 t48f1 t48f2 : ByteArray), rdCells h4 w11 0 [.string t48f0, .string t48f1, .string t48f2] ∧
let t51 : Int := IntKind.i64.wrap (t50 + 1)
SpecH PP z215 [.pointer t46, (.agg #[.string t48f0, .string t48f1, .string t48f2]), .int .i64 t51] h4 (fun v_2 h5 => ∃ (t52 : ByteArray) (t52_1 : Bool), v_2 = (.tuple #[.string t52, .bool t52_1]) ∧
J2 m0 y61 w11 t52_1 t36 t36n t36c t37 t38 K h5))) ∧
True)) h2) h) (
K (.exit 2) (X2 y61) h)) : L2 m0 y61 t36 t36n t36c t37 t38 K h := by unfold L2; exact Lp.of_txt (an 244) 481036337281 (by kernel_rfl) H
theorem L2_X2 {Q : VP} {y61 : ON} {h : Heap} (H :
hwp PP (Instr.range y90 (.map y61)) (fun v h1 => ∃ (t83 : Value), v = t83 ∧
L3 0 t83 (K5 Q) h1) h) : (K2 Q) (.exit 2) (X2 y61) h := y20 (by kernel_rfl) H
theorem J2_of {m0 : OA} {y61 : ON} {w11 : Addr} {there13 : Bool} {t36 : OA} {t36n t36c : Nat} {t37 t38 : Int} {K : EP} {h : Heap} (H :
∃ (t57 : Bool), cellH h (Addr.add w11 3) = some (.bool t57) ∧
br t57 (
let t60 : Bool := (!there13)
J3 m0 y61 w11 there13 t36 t36n t36c t37 t38 t60 K h) (
J3 m0 y61 w11 there13 t36 t36n t36c t37 t38 false K h)) : J2 m0 y61 w11 there13 t36 t36n t36c t37 t38 K h := by unfold J2; exact Jn.of_txt (an 15667) (by kernel_rfl) H
theorem L3_of {y123 : Int} {t83 : Value} {K : EP} {h : Heap} (H :
hwp PP (Instr.next t83 false T_) (fun v h1 => ∃ (b : Bool) (r : List Value), v = .tuple ((.bool b :: r).toArray) ∧
br b (
hwp PP (Instr.entry t83) (fun v_1 h2 => ∃ (t86 t86_1 : Value), v_1 = (.tuple #[t86, t86_1]) ∧
∃ (t87 : Int), t86_1 = (.int .i64 t87) ∧
let t89 : Bool := decide (t87 > 64)
br t89 (
K .ret (Xret false) h2) (
let t91 : Bool := decide (t87 > 0)
br t91 (
let t93 : Int := IntKind.i64.wrap (y123 + 1)
L3 t93 t83 K h2) (
L3 y123 t83 K h2))) h1) (
K (.exit 5) (X5 y123) h1)) h) : L3 y123 t83 K h := by unfold L3; exact Lp.of_txt (an 1012) 9671406556917033397665792 (by kernel_rfl) H
theorem L3_Xret {Q : VP} {t6 : Bool} {h : Heap} (H :
Q (.bool t6) h) : (K5 Q) .ret (Xret t6) h := y20 (by kernel_rfl) H
theorem J3_of {m0 : OA} {y61 : ON} {w11 : Addr} {there13 : Bool} {t36 : OA} {t36n t36c : Nat} {t37 t38 : Int} {t55 : Bool} {K : EP} {h : Heap} (H :
br t55 (
∃ (t65 : ByteArray), cellH h (Addr.add w11 1) = some (.string t65) ∧
hwp PP (Instr.lookup y90 (.map y61) (.string t65) false) (fun v h1 => ∃ (t66 : Int), v = (.int .i64 t66) ∧
let t67 : Int := IntKind.i64.wrap (t66 + 1)
hwp PP (Instr.mapUpdate y90 (.map y61) (.string t65) (.int .i64 t67)) (fun _ h2 =>
J4 m0 y61 t36 t36n t36c t37 t38 K h2) h1) h) (
∃ (t70 : Bool), cellH h (Addr.add w11 3) = some (.bool t70) ∧
let t71 : Bool := (!t70)
br t71 (
J5 m0 y61 w11 t36 t36n t36c t37 t38 there13 K h) (
J5 m0 y61 w11 t36 t36n t36c t37 t38 false K h))) : J3 m0 y61 w11 there13 t36 t36n t36c t37 t38 t55 K h := by unfold J3; exact Jn.of_txt (an 62669) (by kernel_rfl) H
theorem L3_X5 {Q : VP} {y123 : Int} {h : Heap} (H :
let t95 : Bool := decide (y123 ≤ 16)
Q (.bool t95) h) : (K5 Q) (.exit 5) (X5 y123) h := y20 (by kernel_rfl) H
theorem J4_of {m0 : OA} {y61 : ON} {t36 : OA} {t36n t36c : Nat} {t37 t38 : Int} {K : EP} {h : Heap} (H :
let t81 : Int := IntKind.i64.wrap (t38 + 1)
L2 m0 y61 t36 t36n t36c t37 t81 K h) : J4 m0 y61 t36 t36n t36c t37 t38 K h := by unfold J4; exact Jn.of_txt (an 1959) (by kernel_rfl) H
theorem J5_of {m0 : OA} {y61 : ON} {w11 : Addr} {t36 : OA} {t36n t36c : Nat} {t37 t38 : Int} {t68 : Bool} {K : EP} {h : Heap} (H :
br t68 (
∃ (t78 : ByteArray), cellH h (Addr.add w11 1) = some (.string t78) ∧
hwp PP (Instr.lookup y90 (.map y61) (.string t78) false) (fun v h1 => ∃ (t79 : Int), v = (.int .i64 t79) ∧
let t80 : Int := IntKind.i64.wrap (t79 - 1)
hwp PP (Instr.mapUpdate y90 (.map y61) (.string t78) (.int .i64 t80)) (fun _ h2 =>
J4 m0 y61 t36 t36n t36c t37 t38 K h2) h1) h) (
J4 m0 y61 t36 t36n t36c t37 t38 K h)) : J5 m0 y61 w11 t36 t36n t36c t37 t38 t68 K h := by unfold J5; exact Jn.of_txt (an 250679) (by kernel_rfl) H
theorem door {m0 : OA} {y48 : ByteArray} {xl2 : OA} {xl2n xl2c : Nat} {Q : VP} {h : Heap} (H :
let h1 : Heap := Array.push h (.map #[] 0)
SpecH PP z399 [.pointer m0] h1 (fun v h2 => ∃ (t19 : OA) (t19n t19c : Nat), v = (.slice t19 t19n t19c) ∧
L1 m0 y48 xl2 xl2n xl2c (some (Array.size h)) t19 t19n t19c (t19n : Int) 0 (K1 Q) h2)) : SpecH PP z423 [.pointer m0, .string y48, (.slice xl2 xl2n xl2c)] h Q :=
  y12 (ann := ann) Tryz.func41 rfl rfl (by kernel_rfl) H
end z422
namespace z221
def ann : Ann := (.seq 1 (rg 1 1) (.seq 1 (.seq 17 (rg 2 17) (.cond (.seq 4 (rg 1 4) (.exit 4)) .leaf)) (.seq 4 (rg 5 4) (.exit 4))))
theorem door {s0 : OA} {Q : VP} {h : Heap} (H :
let t4 : Bool := (Option.isNone s0)
br t4 (
Q (.int .i64 0) h) (
nilc s0 (fun t6 =>
∃ (t8 : Int), cellH h (Addr.add t6 1) = some (.int .i64 t8) ∧
Q (.int .i64 t8) h))) : SpecH PP z223 [.pointer s0] h Q :=
  y12 (ann := ann) Tryz.func42 rfl rfl (by kernel_rfl) H
end z221
namespace z414
def ann : Ann := (.seq 527 (rg 3 527) (.seq 527 (.seq 33295 (rg 2 33295) (.cond (.seq 1792 (rg 4 1792) (.exit 1792)) .leaf)) (.seq 6668 (rg 11 6668) (.seq 2572 (.seq 134220300 (rg 2 134220300) (.cond (.seq 1792 (rg 4 1792) (.exit 1792)) .leaf)) (.seq 2572 (.seq 34359740940 (rg 7 34359740940) (.join (.cond (.seq 1792 (rg 4 1792) (.exit 1792)) .leaf))) (.seq 10760 (rg 8 10760) (.seq 10752 (.seq 35184372099592 (rg 3 35184372099592) (.cond (rg 5 10752) .leaf)) (.join (.seq 1792 (rg 5 1792) (.exit 1792))))))))))
noncomputable abbrev cd := cdF Tryz.f43
abbrev an := anF ann
@[irreducible] def K1 (Q : VP) : EP := seqK (fun fr h => ev PP true none (cd 63) (an 63) (fr.mask 2572) (bodyK PP Tryz.f43 Q) h) (bodyK PP Tryz.f43 Q)
@[irreducible] def J1 (y82 : ByteArray) (y115 : OA) (entry3n entry3c : Nat) (t9 : Addr) (t11 : OA) (t35 : Bool) (Q : VP) (h : Heap) : Prop := Jn PP true (cd 125) (mkFr 0 52 [(2, .string y82), (3, (.slice y115 entry3n entry3c)), (9, (.pointer (some t9))), (11, .pointer t11), (35, .bool t35)]) (K1 Q) h
@[irreducible] def J2 (t9 : Addr) (t11 : OA) (k13 : Addr) (Q : VP) (h : Heap) : Prop := Jn PP true (cd 255) (mkFr 0 52 [(9, (.pointer (some t9))), (11, .pointer t11), (13, (.pointer (some k13)))]) (bodyK PP Tryz.f43 Q) h
theorem J1_of {y82 : ByteArray} {y115 : OA} {entry3n entry3c : Nat} {t9 : Addr} {t11 : OA} {t35 : Bool} {Q : VP} {h : Heap} (H :
br t35 (
wrCells t9 0 [(.string (⟨#[]⟩ : ByteArray)), (.string (⟨#[]⟩ : ByteArray)), (.string (⟨#[]⟩ : ByteArray))] (fun h1 =>
∃ (t9_1f0 t9_1f1 t9_1f2 : ByteArray), rdCells h1 t9 0 [.string t9_1f0, .string t9_1f1, .string t9_1f2] ∧
Q (.tuple #[.pointer none, (.agg #[.string t9_1f0, .string t9_1f1, .string t9_1f2]), .int .i64 143]) h1) h) (
nilc t11 (fun t38 =>
∃ (t40 : ByteArray), cellH h t38 = some (.string t40) ∧
let k13 : Addr := ⟨Array.size h, 0, none⟩
let h2 : Heap := Array.push h (.cells #[(.string (⟨#[]⟩ : ByteArray)), (.string (⟨#[]⟩ : ByteArray)), (.string (⟨#[]⟩ : ByteArray))] y23 (0, 0))
wrCells k13 0 [.string t40, .string y82, (.string (⟨#[]⟩ : ByteArray))] (fun h3 =>
let t45 : Bool := decide ((entry3n : Int) > 0)
br t45 (
hwp PP (Instr.indexAt y78 (.slice y115 entry3n entry3c) (.int .i64 0)) (fun v h4 => ∃ (t47 : Addr), v = (.pointer (some t47)) ∧
∃ (t48 : ByteArray), cellH h4 t47 = some (.string t48) ∧
wr (Addr.add k13 2) (.string t48) (fun h5 =>
J2 t9 t11 k13 Q h5) h4) h3) (
J2 t9 t11 k13 Q h3)) h2))) : J1 y82 y115 entry3n entry3c t9 t11 t35 Q h := by unfold J1; exact Jn.of_txt (an 125) (by kernel_rfl) H
theorem J2_of {t9 : Addr} {t11 : OA} {k13 : Addr} {Q : VP} {h : Heap} (H :
∃ (t51f0 t51f1 t51f2 : ByteArray), rdCells h k13 0 [.string t51f0, .string t51f1, .string t51f2] ∧
wrCells t9 0 [.string t51f0, .string t51f1, .string t51f2] (fun h1 =>
∃ (t9_1f0 t9_1f1 t9_1f2 : ByteArray), rdCells h1 t9 0 [.string t9_1f0, .string t9_1f1, .string t9_1f2] ∧
Q (.tuple #[.pointer t11, (.agg #[.string t9_1f0, .string t9_1f1, .string t9_1f2]), .int .i64 0]) h1) h) : J2 t9 t11 k13 Q h := by unfold J2; exact Jn.of_txt (an 255) (by kernel_rfl) H
theorem door {m0 : OA} {txn1 : Int} {y82 : ByteArray} {y115 : OA} {entry3n entry3c : Nat} {Q : VP} {h : Heap} (H :
let t9 : Addr := ⟨Array.size h, 0, none⟩
let h1 : Heap := Array.push h (.cells #[(.string (⟨#[]⟩ : ByteArray)), (.string (⟨#[]⟩ : ByteArray)), (.string (⟨#[]⟩ : ByteArray))] y23 (0, 0))
let t15 : Bool := (Option.isNone m0)
br t15 (
wrCells t9 0 [(.string (⟨#[]⟩ : ByteArray)), (.string (⟨#[]⟩ : ByteArray)), (.string (⟨#[]⟩ : ByteArray))] (fun h2 =>
∃ (t9_1f0 t9_1f1 t9_1f2 : ByteArray), rdCells h2 t9 0 [.string t9_1f0, .string t9_1f1, .string t9_1f2] ∧
Q (.tuple #[.pointer none, (.agg #[.string t9_1f0, .string t9_1f1, .string t9_1f2]), .int .i64 3]) h2) h1) (
nilc m0 (fun t19 =>
∃ (t21 : ON), cellH h1 (Addr.add t19 2) = some (.map t21) ∧
hwp PP (Instr.lookup y44 (.map t21) (.int .i64 txn1) true) (fun v h3 => ∃ (t23 : OA) (t23_1 : Bool), v = (.tuple #[.pointer t23, .bool t23_1]) ∧
let t27 : Bool := (!t23_1)
br t27 (
wrCells t9 0 [(.string (⟨#[]⟩ : ByteArray)), (.string (⟨#[]⟩ : ByteArray)), (.string (⟨#[]⟩ : ByteArray))] (fun h4 =>
∃ (t9_2f0 t9_2f1 t9_2f2 : ByteArray), rdCells h4 t9 0 [.string t9_2f0, .string t9_2f1, .string t9_2f2] ∧
Q (.tuple #[.pointer none, (.agg #[.string t9_2f0, .string t9_2f1, .string t9_2f2]), .int .i64 140]) h4) h3) (
SpecH PP z432 [.string y82] h3 (fun v_1 h5 => ∃ (t30 : Bool), v_1 = (.bool t30) ∧
let t31 : Bool := (!t30)
br t31 (
J1 y82 y115 entry3n entry3c t9 t23 true Q h5) (
SpecH PP z299 [(.slice y115 entry3n entry3c), (.func (.func z417) #[] #[])] h5 (fun v_2 h6 => ∃ (t34 : Bool), v_2 = (.bool t34) ∧
J1 y82 y115 entry3n entry3c t9 t23 t34 Q h6))))) h1))) : SpecH PP z415 [.pointer m0, .int .i64 txn1, .string y82, (.slice y115 entry3n entry3c)] h Q :=
  y12 (ann := ann) Tryz.func43 rfl rfl (by kernel_rfl) H
end z414
namespace z428
def ann : Ann := (.seq 35 (rg 4 35) (.seq 35 (.seq 1571 (.tree (.run [0, 1, 2, 3, 4] (.alt 5 (.run [6, 7, 8, 9, 10, 11] .done) (.alt 9 (.run [5, 6, 7, 8, 10, 11] .done) .nil))) 1571) (.join (.seq 1049123 (rg 1 1049123) (.cond (.seq 448 (rg 7 448) (.exit 448)) .leaf)))) (.seq 192 (.tree (.run [0, 1, 2, 5, 6, 7, 8] (.alt 3 (.alt 4 (.run [9, 10, 11, 12, 13, 14, 15, 16] .done) (.alt 9 (.run [4, 10, 11, 12, 13, 14, 15, 16] .done) .nil)) (.alt 4 (.alt 3 (.run [9, 10, 11, 12, 13, 14, 15, 16] .done) (.alt 9 (.run [3, 10, 11, 12, 13, 14, 15, 16] .done) .nil)) (.alt 9 (.run [3, 4, 10, 11, 12, 13, 14, 15, 16] .done) .nil)))) 192) (.join (.seq 448 (rg 5 448) (.exit 448))))))
noncomputable abbrev cd := cdF Tryz.f44
abbrev an := anF ann
@[irreducible] def K1 (Q : VP) : EP := seqK (fun fr h => ev PP true none (cd 7) (an 7) (fr.mask 35) (bodyK PP Tryz.f44 Q) h) (bodyK PP Tryz.f44 Q)
@[irreducible] def J1 (m0 t1 : OA) (k5 w9 : Addr) (ok10 : Bool) (Q : VP) (h : Heap) : Prop := Jn PP true (cd 13) (mkFr 0 42 [(0, .pointer m0), (1, .pointer t1), (5, (.pointer (some k5))), (9, (.pointer (some w9))), (10, .bool ok10)]) (K1 Q) h
@[irreducible] def J2 (data6 : ByteArray) (there7 : Bool) (Q : VP) (h : Heap) : Prop := Jn PP true (cd 15) (mkFr 0 42 [(6, .string data6), (7, .bool there7)]) (bodyK PP Tryz.f44 Q) h
theorem J1_of {m0 t1 : OA} {k5 w9 : Addr} {ok10 : Bool} {Q : VP} {h : Heap} (H :
br ok10 (
∃ (t22 : ByteArray), cellH h (Addr.add w9 4) = some (.string t22) ∧
∃ (t24 : Bool), cellH h (Addr.add w9 3) = some (.bool t24) ∧
Q (.tuple #[.string t22, .bool t24, .bool true]) h) (
nilc m0 (fun t27 =>
nilc t1 (fun t32 =>
∃ (t34 : OA), cellH h (Addr.add t32 1) = some (.pointer t34) ∧
(
∃ (t29_3 : OA), cellH h t27 = some (.pointer t29_3) ∧
(
∃ (t30_3f0 t30_3f1 t30_3f2 : ByteArray), rdCells h k5 0 [.string t30_3f0, .string t30_3f1, .string t30_3f2] ∧
SpecH PP z440 [.pointer t34] h (fun v_8 h9 => ∃ (t35_4 : Int), v_8 = (.int .i64 t35_4) ∧
let t36_4 : Int := IntKind.i64.wrap (t35_4 + 1)
SpecH PP z215 [.pointer t29_3, (.agg #[.string t30_3f0, .string t30_3f1, .string t30_3f2]), .int .i64 t36_4] h9 (fun v_9 h10 => ∃ (t37_8 : ByteArray) (t37_9 : Bool), v_9 = (.tuple #[.string t37_8, .bool t37_9]) ∧
J2 t37_8 t37_9 Q h10))) ∧
(
SpecH PP z440 [.pointer t34] h (fun v_6 h7 => ∃ (t35_3 : Int), v_6 = (.int .i64 t35_3) ∧
∃ (t30_2f0 t30_2f1 t30_2f2 : ByteArray), rdCells h7 k5 0 [.string t30_2f0, .string t30_2f1, .string t30_2f2] ∧
let t36_3 : Int := IntKind.i64.wrap (t35_3 + 1)
SpecH PP z215 [.pointer t29_3, (.agg #[.string t30_2f0, .string t30_2f1, .string t30_2f2]), .int .i64 t36_3] h7 (fun v_7 h8 => ∃ (t37_6 : ByteArray) (t37_7 : Bool), v_7 = (.tuple #[.string t37_6, .bool t37_7]) ∧
J2 t37_6 t37_7 Q h8))) ∧
True) ∧
(
∃ (t30_1f0 t30_1f1 t30_1f2 : ByteArray), rdCells h k5 0 [.string t30_1f0, .string t30_1f1, .string t30_1f2] ∧
(
∃ (t29_2 : OA), cellH h t27 = some (.pointer t29_2) ∧
SpecH PP z440 [.pointer t34] h (fun v_4 h5 => ∃ (t35_2 : Int), v_4 = (.int .i64 t35_2) ∧
let t36_2 : Int := IntKind.i64.wrap (t35_2 + 1)
SpecH PP z215 [.pointer t29_2, (.agg #[.string t30_1f0, .string t30_1f1, .string t30_1f2]), .int .i64 t36_2] h5 (fun v_5 h6 => ∃ (t37_4 : ByteArray) (t37_5 : Bool), v_5 = (.tuple #[.string t37_4, .bool t37_5]) ∧
J2 t37_4 t37_5 Q h6))) ∧
(
SpecH PP z440 [.pointer t34] h (fun v_2 h3 => ∃ (t35_1 : Int), v_2 = (.int .i64 t35_1) ∧
∃ (t29_1 : OA), cellH h3 t27 = some (.pointer t29_1) ∧
let t36_1 : Int := IntKind.i64.wrap (t35_1 + 1)
SpecH PP z215 [.pointer t29_1, (.agg #[.string t30_1f0, .string t30_1f1, .string t30_1f2]), .int .i64 t36_1] h3 (fun v_3 h4 => ∃ (t37_2 : ByteArray) (t37_3 : Bool), v_3 = (.tuple #[.string t37_2, .bool t37_3]) ∧
J2 t37_2 t37_3 Q h4))) ∧
True) ∧
(
SpecH PP z440 [.pointer t34] h (fun v h1 => ∃ (t35 : Int), v = (.int .i64 t35) ∧
∃ (t29 : OA), cellH h1 t27 = some (.pointer t29) ∧
∃ (t30f0 t30f1 t30f2 : ByteArray), rdCells h1 k5 0 [.string t30f0, .string t30f1, .string t30f2] ∧
let t36 : Int := IntKind.i64.wrap (t35 + 1)
SpecH PP z215 [.pointer t29, (.agg #[.string t30f0, .string t30f1, .string t30f2]), .int .i64 t36] h1 (fun v_1 h2 => ∃ (t37 : ByteArray) (t37_1 : Bool), v_1 = (.tuple #[.string t37, .bool t37_1]) ∧
J2 t37 t37_1 Q h2))) ∧
True)))) : J1 m0 t1 k5 w9 ok10 Q h := by unfold J1; exact Jn.of_txt (an 13) (by kernel_rfl) H
theorem J2_of {data6 : ByteArray} {there7 : Bool} {Q : VP} {h : Heap} (H :
Q (.tuple #[.string data6, .bool there7, .bool false]) h) : J2 data6 there7 Q h := by unfold J2; exact Jn.of_txt (an 15) (by kernel_rfl) H
theorem door {m0 t1 : OA} {k2f0 k2f1 k2f2 : ByteArray} {Q : VP} {h : Heap} (H :
let k5 : Addr := ⟨Array.size h, 0, none⟩
let h1 : Heap := Array.push h (.cells #[.string k2f0, .string k2f1, .string k2f2] y23 (0, 0))
nilc t1 (fun t13 =>
∃ (t15 : OA), cellH h1 (Addr.add t13 1) = some (.pointer t15) ∧
∃ (t16f0 t16f1 t16f2 : ByteArray), rdCells h1 k5 0 [.string t16f0, .string t16f1, .string t16f2] ∧
(
SpecH PP z450 [.pointer t15, (.agg #[.string t16f0, .string t16f1, .string t16f2])] h1 (fun v_1 h5 => ∃ (t17_2f0 t17_2f1 t17_2f2 : ByteArray) (t17_2f3 : Bool) (t17_2f4 : ByteArray) (t17_3 : Bool), v_1 = (.tuple #[(.agg #[.string t17_2f0, .string t17_2f1, .string t17_2f2, .bool t17_2f3, .string t17_2f4]), .bool t17_3]) ∧
let w9_1 : Addr := ⟨Array.size h5, 0, none⟩
let h6 : Heap := Array.push h5 (.cells #[(.string (⟨#[]⟩ : ByteArray)), (.string (⟨#[]⟩ : ByteArray)), (.string (⟨#[]⟩ : ByteArray)), .bool false, (.string (⟨#[]⟩ : ByteArray))] y25 (0, 0))
wrCells w9_1 0 [.string t17_2f0, .string t17_2f1, .string t17_2f2, .bool t17_2f3, .string t17_2f4] (fun h7 =>
J1 m0 t1 k5 w9_1 t17_3 Q h7) h6)) ∧
(
let w9 : Addr := ⟨Array.size h1, 0, none⟩
let h2 : Heap := Array.push h1 (.cells #[(.string (⟨#[]⟩ : ByteArray)), (.string (⟨#[]⟩ : ByteArray)), (.string (⟨#[]⟩ : ByteArray)), .bool false, (.string (⟨#[]⟩ : ByteArray))] y25 (0, 0))
SpecH PP z450 [.pointer t15, (.agg #[.string t16f0, .string t16f1, .string t16f2])] h2 (fun v h3 => ∃ (t17f0 t17f1 t17f2 : ByteArray) (t17f3 : Bool) (t17f4 : ByteArray) (t17_1 : Bool), v = (.tuple #[(.agg #[.string t17f0, .string t17f1, .string t17f2, .bool t17f3, .string t17f4]), .bool t17_1]) ∧
wrCells w9 0 [.string t17f0, .string t17f1, .string t17f2, .bool t17f3, .string t17f4] (fun h4 =>
J1 m0 t1 k5 w9 t17_1 Q h4) h3)) ∧
True)) : SpecH PP z429 [.pointer m0, .pointer t1, (.agg #[.string k2f0, .string k2f1, .string k2f2])] h Q :=
  y12 (ann := ann) Tryz.func44 rfl rfl (by kernel_rfl) H
end z428
namespace z453
def ann : Ann := (.seq 9 (rg 1 9) (.seq 41 (rg 2 41) (.cond (rg 6 0) .leaf)))
theorem door {s0 : OA} {k1f0 k1f1 k1f2 : ByteArray} {Q : VP} {h : Heap} (H :
let k3 : Addr := ⟨Array.size h, 0, none⟩
let h1 : Heap := Array.push h (.cells #[.string k1f0, .string k1f1, .string k1f2] y23 (0, 0))
let t5 : Bool := (!Option.isNone s0)
br t5 (
nilc s0 (fun t7 =>
∃ (t9 : ON), cellH h1 (Addr.add t7 1) = some (.map t9) ∧
∃ (t10f0 t10f1 t10f2 : ByteArray), rdCells h1 k3 0 [.string t10f0, .string t10f1, .string t10f2] ∧
hwp PP (Instr.mapUpdate y137 (.map t9) (.agg #[.string t10f0, .string t10f1, .string t10f2]) (.bool true)) (fun _ h2 =>
Q (.tuple #[]) h2) h1)) (
Q (.tuple #[]) h1)) : SpecH PP z454 [.pointer s0, (.agg #[.string k1f0, .string k1f1, .string k1f2])] h Q :=
  y12 (ann := ann) Tryz.func45 rfl rfl (by kernel_rfl) H
end z453
namespace z210
def ann : Ann := (.seq 3 (rg 1 3) (.seq 35 (rg 1 35) (.seq 32 (.seq 114723 (rg 5 114723) (.block (.loop 114723 (.seq 245795 (rg 1 245795) (.seq 114723 (.cond .leaf (.exit 32)) (.seq 114723 (.block (.seq 114851 (rg 4 114851) (.seq 114851 (.seq 115107 (rg 3 115107) (.seq 35184372203683 (rg 24 35184372203683) (.join (.cond (rg 9 114851) .leaf)))) (.join (.seq 115363 (rg 9 115363) (.seq 117411 (rg 6 117411) (rg 14 114723))))))) (rg 2 114723))))))) (.seq 16 (rg 2 16) (.exit 16)))))
noncomputable abbrev cd := cdF Tryz.f46
abbrev an := anF ann
@[irreducible] def X0 (out5 : OA) (out5n out5c : Nat) : Fr := (mkFr 0 81 [(5, (.slice out5 out5n out5c))])
@[irreducible] def L1 (s0 : OA) (at1 : Int) (out5 : OA) (out5n out5c : Nat) (t14 : OA) (t14n t14c : Nat) (t15 t16 : Int) (K : EP) (h : Heap) : Prop := Lp PP true (cd 116) (mkFr 0 81 [(0, .pointer s0), (1, .int .i64 at1), (5, (.slice out5 out5n out5c)), (14, (.slice t14 t14n t14c)), (15, .int .i64 t15), (16, .int .i64 t16)]) K h
@[irreducible] def B1 (K : EP) : EP := seqK (fun fr h => Lp PP true (cd 116) (fr.mask 114723) K h) K
@[irreducible] def K5 (K : EP) : EP := seqK (fun fr h => ev PP true none (cd 935) (an 935) (fr.mask 114723) (B1 K) h) (B1 K)
@[irreducible] def K4 (K : EP) : EP := blockK 1 (K5 K)
@[irreducible] def K2 (K : EP) : EP := seqK (fun fr h => Jn PP true (cd 7475) (fr.mask 114851) (K4 K) h) (K4 K)
@[irreducible] def J1 (s0 : OA) (at1 : Int) (out5 : OA) (out5n out5c : Nat) (k7 : Addr) (t14 : OA) (t14n t14c : Nat) (t15 t16 : Int) (t45 : Bool) (K : EP) (h : Heap) : Prop := Jn PP true (cd 29899) (mkFr 0 81 [(0, .pointer s0), (1, .int .i64 at1), (5, (.slice out5 out5n out5c)), (7, (.pointer (some k7))), (14, (.slice t14 t14n t14c)), (15, .int .i64 t15), (16, .int .i64 t16), (45, .bool t45)]) (K2 K) h
@[irreducible] def K3 (Q : VP) : EP := seqK (fun fr h => ev PP true none (cd 15) (an 15) (fr.mask 32) (bodyK PP Tryz.f46 Q) h) (bodyK PP Tryz.f46 Q)
@[irreducible] def K1 (Q : VP) : EP := blockK 0 (K3 Q)
@[irreducible] def J2 (s0 : OA) (at1 : Int) (out5 : OA) (out5n out5c : Nat) (k7 : Addr) (t14 : OA) (t14n t14c : Nat) (t15 t16 : Int) (K : EP) (h : Heap) : Prop := Jn PP true (cd 7475) (mkFr 0 81 [(0, .pointer s0), (1, .int .i64 at1), (5, (.slice out5 out5n out5c)), (7, (.pointer (some k7))), (14, (.slice t14 t14n t14c)), (15, .int .i64 t15), (16, .int .i64 t16)]) (K4 K) h
theorem L1_of {s0 : OA} {at1 : Int} {out5 : OA} {out5n out5c : Nat} {t14 : OA} {t14n t14c : Nat} {t15 t16 : Int} {K : EP} {h : Heap} (H :
let t17 : Bool := decide (t16 < t15)
br t17 (
hwp PP (Instr.indexAt y14 (.slice t14 t14n t14c) (.int .i64 t16)) (fun v h1 => ∃ (t18 : Addr), v = (.pointer (some t18)) ∧
∃ (t19f0 t19f1 t19f2 : ByteArray), rdCells h1 t18 0 [.string t19f0, .string t19f1, .string t19f2] ∧
let k7 : Addr := ⟨Array.size h1, 0, none⟩
let h2 : Heap := Array.push h1 (.cells #[(.string (⟨#[]⟩ : ByteArray)), (.string (⟨#[]⟩ : ByteArray)), (.string (⟨#[]⟩ : ByteArray))] y23 (0, 0))
wrCells k7 0 [.string t19f0, .string t19f1, .string t19f2] (fun h3 =>
let t23 : Bool := ((out5n : Int) == 0)
br t23 (
J1 s0 at1 out5 out5n out5c k7 t14 t14n t14c t15 t16 true K h3) (
let t27 : Int := IntKind.i64.wrap ((out5n : Int) - 1)
hwp PP (Instr.indexAt y42 (.slice out5 out5n out5c) (.int .i64 t27)) (fun v_1 h4 => ∃ (t28 : Addr), v_1 = (.pointer (some t28)) ∧
∃ (t30 : ByteArray), cellH h4 t28 = some (.string t30) ∧
∃ (t32 : ByteArray), cellH h4 k7 = some (.string t32) ∧
let t33 : Bool := (!decide (t30 = t32))
br t33 (
J1 s0 at1 out5 out5n out5c k7 t14 t14n t14c t15 t16 true K h4) (
let t38 : Int := IntKind.i64.wrap ((out5n : Int) - 1)
hwp PP (Instr.indexAt y42 (.slice out5 out5n out5c) (.int .i64 t38)) (fun v_2 h5 => ∃ (t39 : Addr), v_2 = (.pointer (some t39)) ∧
∃ (t41 : ByteArray), cellH h5 (Addr.add t39 1) = some (.string t41) ∧
∃ (t43 : ByteArray), cellH h5 (Addr.add k7 1) = some (.string t43) ∧
let t44 : Bool := (!decide (t41 = t43))
J1 s0 at1 out5 out5n out5c k7 t14 t14n t14c t15 t16 t44 K h5) h4)) h3)) h2) h) (
K (.exit 0) (X0 out5 out5n out5c) h)) : L1 s0 at1 out5 out5n out5c t14 t14n t14c t15 t16 K h := by unfold L1; exact Lp.of_txt (an 116) 114723 (by kernel_rfl) H
theorem L1_X0 {Q : VP} {out5 : OA} {out5n out5c : Nat} {h : Heap} (H :
Q (.slice out5 out5n out5c) h) : (K1 Q) (.exit 0) (X0 out5 out5n out5c) h := y20 (by kernel_rfl) H
theorem J1_of {s0 : OA} {at1 : Int} {out5 : OA} {out5n out5c : Nat} {k7 : Addr} {t14 : OA} {t14n t14c : Nat} {t15 t16 : Int} {t45 : Bool} {K : EP} {h : Heap} (H :
br t45 (
∃ (t48 : ByteArray), cellH h k7 = some (.string t48) ∧
∃ (t50 : ByteArray), cellH h (Addr.add k7 1) = some (.string t50) ∧
let h1 : Heap := Array.push h (.cells #[.string t48, .string t50, (.slice none 0 0)] y49 (0, 0))
hwp PP (Builtin.append_ #[y42, y42] y42 #[(.slice out5 out5n out5c), (.slice (some ⟨Array.size h, 0, none⟩) 1 1)]) (fun v h2 => ∃ (t53 : OA) (t53n t53c : Nat), v = (.slice t53 t53n t53c) ∧
J2 s0 at1 t53 t53n t53c k7 t14 t14n t14c t15 t16 K h2) h1) (
J2 s0 at1 out5 out5n out5c k7 t14 t14n t14c t15 t16 K h)) : J1 s0 at1 out5 out5n out5c k7 t14 t14n t14c t15 t16 t45 K h := by unfold J1; exact Jn.of_txt (an 29899) (by kernel_rfl) H
theorem J2_of {s0 : OA} {at1 : Int} {out5 : OA} {out5n out5c : Nat} {k7 : Addr} {t14 : OA} {t14n t14c : Nat} {t15 t16 : Int} {K : EP} {h : Heap} (H :
∃ (t56f0 t56f1 t56f2 : ByteArray), rdCells h k7 0 [.string t56f0, .string t56f1, .string t56f2] ∧
SpecH PP z215 [.pointer s0, (.agg #[.string t56f0, .string t56f1, .string t56f2]), .int .i64 at1] h (fun v h1 => ∃ (t58 : ByteArray) (t58_1 : Bool), v = (.tuple #[.string t58, .bool t58_1]) ∧
let t64 : Int := IntKind.i64.wrap ((out5n : Int) - 1)
hwp PP (Instr.indexAt y42 (.slice out5 out5n out5c) (.int .i64 t64)) (fun v_1 h2 => ∃ (t65 : Addr), v_1 = (.pointer (some t65)) ∧
∃ (t70 : OA) (t70n t70c : Nat), cellH h2 (Addr.add t65 2) = some (.slice t70 t70n t70c) ∧
∃ (t72 : ByteArray), cellH h2 (Addr.add k7 2) = some (.string t72) ∧
let h3 : Heap := Array.push h2 (.cells #[.string t72, .string t58] y143 (0, 0))
hwp PP (Builtin.append_ #[y104, y104] y104 #[(.slice t70 t70n t70c), (.slice (some ⟨Array.size h2, 0, none⟩) 1 1)]) (fun v_2 h4 => ∃ (t76 : OA) (t76n t76c : Nat), v_2 = (.slice t76 t76n t76c) ∧
wr (Addr.add t65 2) (.slice t76 t76n t76c) (fun h5 =>
let t79 : Int := IntKind.i64.wrap (t16 + 1)
L1 s0 at1 out5 out5n out5c t14 t14n t14c t15 t79 K h5) h4) h3) h1)) : J2 s0 at1 out5 out5n out5c k7 t14 t14n t14c t15 t16 K h := by unfold J2; exact Jn.of_txt (an 7475) (by kernel_rfl) H
theorem door {s0 : OA} {at1 : Int} {Q : VP} {h : Heap} (H :
SpecH PP z231 [.pointer s0, .int .i64 at1, (.func (.func z213) #[] #[])] h (fun v h1 => ∃ (t14 : OA) (t14n t14c : Nat), v = (.slice t14 t14n t14c) ∧
L1 s0 at1 none 0 0 t14 t14n t14c (t14n : Int) 0 (K1 Q) h1)) : SpecH PP z211 [.pointer s0, .int .i64 at1] h Q :=
  y12 (ann := ann) Tryz.func46 rfl rfl (by kernel_rfl) H
end z210
namespace z282
def ann : Ann := (.seq 1 (rg 1 1) (.seq 25 (rg 2 25) (.seq 57 (rg 1 57) (.seq 0 (.seq 14392 (rg 3 14392) (.block (.loop 14392 (.seq 30776 (rg 1 30776) (.seq 14392 (.cond .leaf (.exit 0)) (.seq 14392 (.block (.seq 14520 (rg 4 14520) (.seq 14520 (.block (.seq 145592 (rg 18 145592) (.join (.cond (.seq 4 (rg 1 4) (.exit 4)) (.seq 34359752888 (rg 6 34359752888) (.cond (.seq 14504 (rg 3 14504) (rg 1 14520)) (.seq 8796093036728 (rg 6 8796093036728) (.cond (.seq 4 (rg 1 4) (.exit 4)) .leaf)))))))) (.join (.seq 14520 (rg 3 14520) (.seq 14520 (.block (.seq 2251799813699768 (rg 7 2251799813699768) (.join (.cond (.seq 4 (rg 1 4) (.exit 4)) (.seq 288230376151726264 (rg 5 288230376151726264) (.cond (.seq 4 (rg 1 4) (.exit 4)) (.seq 9223372036854790328 (rg 5 9223372036854790328) (.cond (.seq 4 (rg 1 4) (.exit 4)) .leaf)))))))) (.seq 14776 (rg 1 14776) (.seq 14520 (.seq 4132070672510939576760 (rg 4 4132070672510939576760) (.block (.loop 4132070672510939576760 (.seq 8854437155380584790456 (rg 1 8854437155380584790456) (.seq 4132070672510939576760 (.cond .leaf (.exit 14520)) (.seq 4132070672510939576760 (.block (.seq 4132070672510939577784 (rg 4 4132070672510939577784) (.seq 4132070672510939577528 (.seq 19346945184506577734876344 (rg 10 19346945184506577734876344) (.join (.cond (.seq 4 (rg 1 4) (.exit 4)) .leaf))) (.seq 4132070672510939577528 (.seq 309489141892017579664358584 (rg 4 309489141892017579664358584) (.cond (.seq 4 (rg 1 4) (.exit 4)) .leaf)) (rg 3 4132070672510939576760))))) (rg 2 4132070672510939576760))))))) (rg 2 14392))))))))) (rg 2 14392))))))) (.seq 4 (rg 1 4) (.exit 4))))))
noncomputable abbrev cd := cdF Tryz.f47
abbrev an := anF ann
@[irreducible] def X0  : Fr := (mkFr 0 94 [])
@[irreducible] def L1 (tenants3 boxes4 : Int) (last5 : Addr) (t11 : OA) (t11n t11c : Nat) (t12 t13 : Int) (K : EP) (h : Heap) : Prop := Lp PP true (cd 244) (mkFr 0 94 [(3, .int .i64 tenants3), (4, .int .i64 boxes4), (5, (.pointer (some last5))), (11, (.slice t11 t11n t11c)), (12, .int .i64 t12), (13, .int .i64 t13)]) K h
@[irreducible] def B1 (K : EP) : EP := seqK (fun fr h => Lp PP true (cd 244) (fr.mask 14392) K h) K
@[irreducible] def K6 (K : EP) : EP := seqK (fun fr h => ev PP true none (cd 1959) (an 1959) (fr.mask 14392) (B1 K) h) (B1 K)
@[irreducible] def K5 (K : EP) : EP := blockK 1 (K6 K)
@[irreducible] def K4 (K : EP) : EP := seqK (fun fr h => Jn PP true (cd 15667) (fr.mask 14520) (K5 K) h) (K5 K)
@[irreducible] def K2 (K : EP) : EP := blockK 2 (K4 K)
@[irreducible] def J1 (tenants3 boxes4 : Int) (last5 x7 : Addr) (t11 : OA) (t11n t11c : Nat) (t12 t13 : Int) (t17 : Bool) (K : EP) (h : Heap) : Prop := Jn PP true (cd 62665) (mkFr 0 94 [(3, .int .i64 tenants3), (4, .int .i64 boxes4), (5, (.pointer (some last5))), (7, (.pointer (some x7))), (11, (.slice t11 t11n t11c)), (12, .int .i64 t12), (13, .int .i64 t13), (17, .bool t17)]) (K2 K) h
@[irreducible] def K3 (Q : VP) : EP := seqK (fun fr h => ev PP true none (cd 31) (an 31) (fr.mask 0) (bodyK PP Tryz.f47 Q) h) (bodyK PP Tryz.f47 Q)
@[irreducible] def K1 (Q : VP) : EP := blockK 0 (K3 Q)
theorem L1_of {tenants3 boxes4 : Int} {last5 : Addr} {t11 : OA} {t11n t11c : Nat} {t12 t13 : Int} {K : EP} {h : Heap} (H :
let t14 : Bool := decide (t13 < t12)
br t14 (
hwp PP (Instr.indexAt y42 (.slice t11 t11n t11c) (.int .i64 t13)) (fun v h1 => ∃ (t15 : Addr), v = (.pointer (some t15)) ∧
∃ (t16f0 t16f1 : ByteArray) (t16f2 : OA) (t16f2n t16f2c : Nat), rdCells h1 t15 0 [.string t16f0, .string t16f1, (.slice t16f2 t16f2n t16f2c)] ∧
let x7 : Addr := ⟨Array.size h1, 0, none⟩
let h2 : Heap := Array.push h1 (.cells #[(.string (⟨#[]⟩ : ByteArray)), (.string (⟨#[]⟩ : ByteArray)), (.slice none 0 0)] y49 (0, 0))
wrCells x7 0 [.string t16f0, .string t16f1, (.slice t16f2 t16f2n t16f2c)] (fun h3 =>
∃ (t19 : ByteArray), cellH h3 x7 = some (.string t19) ∧
SpecH PP z285 [.string t19] h3 (fun v_1 h4 => ∃ (t20 : Bool), v_1 = (.bool t20) ∧
let t21 : Bool := (!t20)
br t21 (
J1 tenants3 boxes4 last5 x7 t11 t11n t11c t12 t13 true K h4) (
∃ (t24 : ByteArray), cellH h4 (Addr.add x7 1) = some (.string t24) ∧
SpecH PP z285 [.string t24] h4 (fun v_2 h5 => ∃ (t25 : Bool), v_2 = (.bool t25) ∧
let t26 : Bool := (!t25)
br t26 (
J1 tenants3 boxes4 last5 x7 t11 t11n t11c t12 t13 true K h5) (
∃ (t30 : ByteArray), cellH h5 x7 = some (.string t30) ∧
∃ (t32 : ByteArray), cellH h5 last5 = some (.string t32) ∧
let t33 : Bool := strLt t30 t32
J1 tenants3 boxes4 last5 x7 t11 t11n t11c t12 t13 t33 K h5))))) h2) h) (
K (.exit 0) (X0) h)) : L1 tenants3 boxes4 last5 t11 t11n t11c t12 t13 K h := by unfold L1; exact Lp.of_txt (an 244) 14392 (by kernel_rfl) H
theorem L1_X0 {Q : VP}  {h : Heap} (H :
Q (.int .i64 0) h) : (K1 Q) (.exit 0) (X0 ) h := y20 (by kernel_rfl) H
theorem door {xl0 : OA} {xl0n xl0c : Nat} {Q : VP} {h : Heap} (H :
let last5 : Addr := ⟨Array.size h, 0, none⟩
let h1 : Heap := Array.push h (.cells #[(.string (⟨#[]⟩ : ByteArray)), (.string (⟨#[]⟩ : ByteArray)), (.slice none 0 0)] y49 (0, 0))
L1 0 0 last5 xl0 xl0n xl0c (xl0n : Int) 0 (K1 Q) h1) : SpecH PP z283 [(.slice xl0 xl0n xl0c)] h Q :=
  y12 (ann := ann) Tryz.func47 rfl rfl (by kernel_rfl) H
end z282
namespace z208
def ann : Ann := (.seq 0 (rg 1 0) (.seq 1 (rg 4 1) (.exit 1)))
theorem door  {Q : VP} {h : Heap} (H :
let h1 : Heap := Array.push h (.map #[] 0)
let t3 : Addr := ⟨Array.size h1, 0, none⟩
let h2 : Heap := Array.push h1 (.cells #[(.map (some (Array.size h))), .int .i64 0, .int .i64 0] y43 (0, 0))
Q (.pointer (some t3)) h2) : SpecH PP z209 [] h Q :=
  y12 (ann := ann) Tryz.func48 rfl rfl (by kernel_rfl) H
end z208
namespace z447
def ann : Ann := (.seq 9 (rg 1 9) (.seq 41 (rg 2 41) (.cond (rg 6 0) .leaf)))
theorem door {s0 : OA} {b1f0 b1f1 : ByteArray} {Q : VP} {h : Heap} (H :
let b3 : Addr := ⟨Array.size h, 0, none⟩
let h1 : Heap := Array.push h (.cells #[.string b1f0, .string b1f1] y74 (0, 0))
let t5 : Bool := (!Option.isNone s0)
br t5 (
nilc s0 (fun t7 =>
∃ (t9 : ON), cellH h1 (Addr.add t7 2) = some (.map t9) ∧
∃ (t10f0 t10f1 : ByteArray), rdCells h1 b3 0 [.string t10f0, .string t10f1] ∧
hwp PP (Instr.mapUpdate y136 (.map t9) (.agg #[.string t10f0, .string t10f1]) (.bool true)) (fun _ h2 =>
Q (.tuple #[]) h2) h1)) (
Q (.tuple #[]) h1)) : SpecH PP z448 [.pointer s0, (.agg #[.string b1f0, .string b1f1])] h Q :=
  y12 (ann := ann) Tryz.func67 rfl rfl (by kernel_rfl) H
end z447
namespace z424
def ann : Ann := (.seq 56 (rg 4 56) (.seq 64 (rg 2 64) (.exit 64)))
theorem door {m0 t1 : OA} {b2f0 b2f1 : ByteArray} {Q : VP} {h : Heap} (H :
let m3 : Addr := ⟨Array.size h, 0, none⟩
let h1 : Heap := Array.push h (.cells #[.pointer m0] y95 (0, 0))
let t4 : Addr := ⟨Array.size h1, 0, none⟩
let h2 : Heap := Array.push h1 (.cells #[.pointer t1] y101 (0, 0))
let b5 : Addr := ⟨Array.size h2, 0, none⟩
let h3 : Heap := Array.push h2 (.cells #[.string b2f0, .string b2f1] y74 (0, 0))
Q (.func (.func z427) #[] #[(.pointer (some m3)), (.pointer (some b5)), (.pointer (some t4))]) h3) : SpecH PP z425 [.pointer m0, .pointer t1, (.agg #[.string b2f0, .string b2f1])] h Q :=
  y12 (ann := ann) Tryz.func68 rfl rfl (by kernel_rfl) H
end z424
namespace z451
def ann : Ann := (.seq 21 (rg 1 21) (.seq 149 (rg 2 149) (.cond (rg 9 0) .leaf)))
theorem door {s0 : OA} {k1f0 k1f1 k1f2 data2 : ByteArray} {Q : VP} {h : Heap} (H :
let k4 : Addr := ⟨Array.size h, 0, none⟩
let h1 : Heap := Array.push h (.cells #[.string k1f0, .string k1f1, .string k1f2] y23 (0, 0))
let t7 : Bool := (!Option.isNone s0)
br t7 (
nilc s0 (fun t9 =>
∃ (t11 : ON), cellH h1 (Addr.add t9 3) = some (.map t11) ∧
∃ (t12f0 t12f1 t12f2 : ByteArray), rdCells h1 k4 0 [.string t12f0, .string t12f1, .string t12f2] ∧
∃ (t13f0 t13f1 t13f2 : ByteArray), rdCells h1 k4 0 [.string t13f0, .string t13f1, .string t13f2] ∧
hwp PP (Instr.mapUpdate y38 (.map t11) (.agg #[.string t12f0, .string t12f1, .string t12f2]) (.agg #[.string t13f0, .string t13f1, .string t13f2, .bool true, .string data2])) (fun _ h2 =>
Q (.tuple #[]) h2) h1)) (
Q (.tuple #[]) h1)) : SpecH PP z452 [.pointer s0, (.agg #[.string k1f0, .string k1f1, .string k1f2]), .string data2] h Q :=
  y12 (ann := ann) Tryz.func70 rfl rfl (by kernel_rfl) H
end z451
namespace z445
def ann : Ann := (.seq 9 (rg 1 9) (.seq 41 (rg 2 41) (.cond (rg 8 0) .leaf)))
theorem door {s0 : OA} {k1f0 k1f1 k1f2 : ByteArray} {Q : VP} {h : Heap} (H :
let k3 : Addr := ⟨Array.size h, 0, none⟩
let h1 : Heap := Array.push h (.cells #[.string k1f0, .string k1f1, .string k1f2] y23 (0, 0))
let t5 : Bool := (!Option.isNone s0)
br t5 (
nilc s0 (fun t7 =>
∃ (t9 : ON), cellH h1 (Addr.add t7 3) = some (.map t9) ∧
∃ (t10f0 t10f1 t10f2 : ByteArray), rdCells h1 k3 0 [.string t10f0, .string t10f1, .string t10f2] ∧
∃ (t11f0 t11f1 t11f2 : ByteArray), rdCells h1 k3 0 [.string t11f0, .string t11f1, .string t11f2] ∧
hwp PP (Instr.mapUpdate y38 (.map t9) (.agg #[.string t10f0, .string t10f1, .string t10f2]) (.agg #[.string t11f0, .string t11f1, .string t11f2, .bool false, (.string (⟨#[]⟩ : ByteArray))])) (fun _ h2 =>
Q (.tuple #[]) h2) h1)) (
Q (.tuple #[]) h1)) : SpecH PP z446 [.pointer s0, (.agg #[.string k1f0, .string k1f1, .string k1f2])] h Q :=
  y12 (ann := ann) Tryz.func71 rfl rfl (by kernel_rfl) H
end z445
namespace z296
def ann : Ann := (.seq 3 (rg 1 3) (.seq 16 (rg 5 16) (.exit 16)))
theorem door {s0 : OA} {s0n s0c : Nat} {f1 : Value} {Q : VP} {h : Heap} (H :
SpecH PP z307 [(.slice s0 s0n s0c), f1] h (fun v h1 => ∃ (t7 : Int), v = (.int .i64 t7) ∧
let t8 : Bool := decide (t7 ≥ 0)
Q (.bool t8) h1)) : SpecH PP z297 [(.slice s0 s0n s0c), f1] h Q :=
  y12 (ann := ann) Tryz.func73 rfl rfl (by kernel_rfl) H
end z296
namespace z433
def ann : Ann := (.seq 1 (rg 1 1) (.seq 4 (rg 19 4) (.exit 4)))
theorem door {c0 : Int} {Q : VP} {h : Heap} (H :
let t4 : Bool := decide (c0 < 97)
br t4 (
let t11 : Bool := decide (c0 < 48)
br t11 (
let t19 : Bool := (c0 != 45)
Q (.bool t19) h) (
let t14 : Bool := decide (c0 > 57)
br t14 (
let t19_1 : Bool := (c0 != 45)
Q (.bool t19_1) h) (
Q (.bool false) h))) (
let t7 : Bool := decide (c0 > 122)
br t7 (
let t11_1 : Bool := decide (c0 < 48)
br t11_1 (
let t19_2 : Bool := (c0 != 45)
Q (.bool t19_2) h) (
let t14_1 : Bool := decide (c0 > 57)
br t14_1 (
let t19_3 : Bool := (c0 != 45)
Q (.bool t19_3) h) (
Q (.bool false) h))) (
Q (.bool false) h))) : SpecH PP z434 [.int .u8 c0] h Q :=
  y12 (ann := ann) Tryz.func74 rfl rfl (by kernel_rfl) H
end z433
namespace z224
def ann : Ann := (.seq 3 (rg 1 3) (.seq 3 (.seq 262147 (rg 10 262147) (.join (.cond (.seq 16 (rg 1 16) (.exit 16)) .leaf))) (.seq 1 (rg 10 1) (.seq 33 (rg 1 33) (.seq 32 (.seq 4294967329 (rg 5 4294967329) (.block (.loop 4294967329 (.seq 21474836513 (rg 2 21474836513) (.seq 4294967329 (.cond .leaf (.exit 32)) (.block (.seq 4294967521 (rg 6 4294967521) (.seq 4294967777 (rg 8 4294967777) (.seq 4294967777 (.seq 18014402804449761 (rg 10 18014402804449761) (.join (.cond (rg 3 4294967777) .leaf))) (.join (.seq 4294967777 (rg 4 4294967777) (.seq 9223372041149743585 (rg 4 9223372041149743585) (.cond (rg 6 4294967329) (.seq 1180591620721706271201 (rg 2 1180591620721706271201) (.cond (.tree (.run [0, 1, 2, 5, 6, 7] (.alt 3 (.alt 4 (.run [8, 9] .done) (.alt 8 (.run [4, 9] .done) .nil)) (.alt 4 (.alt 3 (.run [8, 9] .done) (.alt 8 (.run [3, 9] .done) .nil)) (.alt 8 (.run [3, 4, 9] .done) .nil)))) 4294967329) .leaf))))))))))))))) (.seq 16 (rg 2 16) (.exit 16)))))))
noncomputable abbrev cd := cdF Tryz.f75
abbrev an := anF ann
@[irreducible] def X0 (gone5 : Int) : Fr := (mkFr 0 81 [(5, .int .i64 gone5)])
@[irreducible] def K1 (Q : VP) : EP := seqK (fun fr h => ev PP true none (cd 7) (an 7) (fr.mask 3) (bodyK PP Tryz.f75 Q) h) (bodyK PP Tryz.f75 Q)
@[irreducible] def J1 (s0 : OA) (at1 : Int) (t18 : Bool) (Q : VP) (h : Heap) : Prop := Jn PP true (cd 13) (mkFr 0 81 [(0, .pointer s0), (1, .int .i64 at1), (18, .bool t18)]) (K1 Q) h
@[irreducible] def K3 (Q : VP) : EP := seqK (fun fr h => ev PP true none (cd 63) (an 63) (fr.mask 32) (bodyK PP Tryz.f75 Q) h) (bodyK PP Tryz.f75 Q)
@[irreducible] def K2 (Q : VP) : EP := blockK 0 (K3 Q)
@[irreducible] def L1 (s0 : OA) (gone5 : Int) (t32 : Value) (K : EP) (h : Heap) : Prop := Lp PP true (cd 500) (mkFr 0 81 [(0, .pointer s0), (5, .int .i64 gone5), (32, t32)]) K h
@[irreducible] def B1 (K : EP) : EP := seqK (fun fr h => Lp PP true (cd 500) (fr.mask 4294967329) K h) K
@[irreducible] def K5 (K : EP) : EP := blockK 1 (B1 K)
@[irreducible] def K4 (K : EP) : EP := seqK (fun fr h => Jn PP true (cd 32055) (fr.mask 4294967777) (K5 K) h) (K5 K)
@[irreducible] def J2 (s0 : OA) (gone5 : Int) (k6 : Addr) (xl7 : OA) (xl7n xl7c : Nat) (xn8 : Int) (t32 : Value) (t54 : Bool) (K : EP) (h : Heap) : Prop := Jn PP true (cd 64109) (mkFr 0 81 [(0, .pointer s0), (5, .int .i64 gone5), (6, (.pointer (some k6))), (7, (.slice xl7 xl7n xl7c)), (8, .int .i64 xn8), (32, t32), (54, .bool t54)]) (K4 K) h
@[irreducible] def J3 (s0 : OA) (gone5 : Int) (k6 : Addr) (xl7 : OA) (xl7n xl7c : Nat) (xn8 : Int) (t32 : Value) (K : EP) (h : Heap) : Prop := Jn PP true (cd 32055) (mkFr 0 81 [(0, .pointer s0), (5, .int .i64 gone5), (6, (.pointer (some k6))), (7, (.slice xl7 xl7n xl7c)), (8, .int .i64 xn8), (32, t32)]) (K5 K) h
theorem J1_of {s0 : OA} {at1 : Int} {t18 : Bool} {Q : VP} {h : Heap} (H :
br t18 (
Q (.int .i64 0) h) (
nilc s0 (fun t22 =>
∃ (t24 : Int), cellH h (Addr.add t22 1) = some (.int .i64 t24) ∧
let t25 : Int := (if t24 < at1 then t24 else at1)
nilc s0 (fun t26 =>
wr (Addr.add t26 2) (.int .i64 t25) (fun h1 =>
nilc s0 (fun t29 =>
∃ (t31 : ON), cellH h1 t29 = some (.map t31) ∧
hwp PP (Instr.range y17 (.map t31)) (fun v h2 => ∃ (t32 : Value), v = t32 ∧
L1 s0 0 t32 (K2 Q) h2) h1)) h)))) : J1 s0 at1 t18 Q h := by unfold J1; exact Jn.of_txt (an 13) (by kernel_rfl) H
theorem L1_of {s0 : OA} {gone5 : Int} {t32 : Value} {K : EP} {h : Heap} (H :
hwp PP (Instr.next t32 false T_) (fun v h1 => ∃ (b : Bool) (r : List Value), v = .tuple ((.bool b :: r).toArray) ∧
br b (
hwp PP (Instr.entry t32) (fun v_1 h2 => ∃ (t35 t35_1 : Value), v_1 = (.tuple #[t35, t35_1]) ∧
∃ (t36f0 t36f1 t36f2 : ByteArray), t35 = (.agg #[.string t36f0, .string t36f1, .string t36f2]) ∧
∃ (t37 : OA) (t37n t37c : Nat), t35_1 = (.slice t37 t37n t37c) ∧
let k6 : Addr := ⟨Array.size h2, 0, none⟩
let h3 : Heap := Array.push h2 (.cells #[(.string (⟨#[]⟩ : ByteArray)), (.string (⟨#[]⟩ : ByteArray)), (.string (⟨#[]⟩ : ByteArray))] y23 (0, 0))
wrCells k6 0 [.string t36f0, .string t36f1, .string t36f2] (fun h4 =>
nilc s0 (fun t41 =>
∃ (t43 : Int), cellH h4 (Addr.add t41 2) = some (.int .i64 t43) ∧
SpecH PP z235 [.pointer s0, (.slice t37 t37n t37c), .int .i64 t43] h4 (fun v_2 h5 => ∃ (t44 : Int), v_2 = (.int .i64 t44) ∧
let t46 : Bool := decide (t44 > 0)
br t46 (
let t50 : Int := IntKind.i64.wrap (t44 - 1)
hwp PP (Instr.indexAt y19 (.slice t37 t37n t37c) (.int .i64 t50)) (fun v_3 h6 => ∃ (t51 : Addr), v_3 = (.pointer (some t51)) ∧
∃ (t53 : Bool), cellH h6 (Addr.add t51 1) = some (.bool t53) ∧
J2 s0 gone5 k6 t37 t37n t37c t44 t32 t53 K h6) h5) (
J2 s0 gone5 k6 t37 t37n t37c t44 t32 false K h5)))) h3) h1) (
K (.exit 0) (X0 gone5) h1)) h) : L1 s0 gone5 t32 K h := by unfold L1; exact Lp.of_txt (an 500) 4294967329 (by kernel_rfl) H
theorem L1_X0 {Q : VP} {gone5 : Int} {h : Heap} (H :
Q (.int .i64 gone5) h) : (K2 Q) (.exit 0) (X0 gone5) h := y20 (by kernel_rfl) H
theorem J2_of {s0 : OA} {gone5 : Int} {k6 : Addr} {xl7 : OA} {xl7n xl7c : Nat} {xn8 : Int} {t32 : Value} {t54 : Bool} {K : EP} {h : Heap} (H :
br t54 (
let t56 : Int := IntKind.i64.wrap (xn8 - 1)
J3 s0 gone5 k6 xl7 xl7n xl7c t56 t32 K h) (
J3 s0 gone5 k6 xl7 xl7n xl7c xn8 t32 K h)) : J2 s0 gone5 k6 xl7 xl7n xl7c xn8 t32 t54 K h := by unfold J2; exact Jn.of_txt (an 64109) (by kernel_rfl) H
theorem J3_of {s0 : OA} {gone5 : Int} {k6 : Addr} {xl7 : OA} {xl7n xl7c : Nat} {xn8 : Int} {t32 : Value} {K : EP} {h : Heap} (H :
let t59 : Int := IntKind.i64.wrap (gone5 + xn8)
let t63 : Bool := (xn8 == (xl7n : Int))
br t63 (
nilc s0 (fun t65 =>
∃ (t67 : ON), cellH h t65 = some (.map t67) ∧
∃ (t68f0 t68f1 t68f2 : ByteArray), rdCells h k6 0 [.string t68f0, .string t68f1, .string t68f2] ∧
hwp PP (Builtin.delete_ #[y17, y23] T_ #[.map t67, (.agg #[.string t68f0, .string t68f1, .string t68f2])]) (fun v h1 => v = (.tuple #[]) ∧
L1 s0 t59 t32 K h1) h)) (
let t70 : Bool := decide (xn8 > 0)
br t70 (
nilc s0 (fun t72 =>
hwp PP (Instr.sliceAt y19 (.slice xl7 xl7n xl7c) (some (.int .i64 xn8)) none none) (fun v_1 h2 => ∃ (t78 : OA) (t78n t78c : Nat), v_1 = (.slice t78 t78n t78c) ∧
(
∃ (t74_3 : ON), cellH h2 t72 = some (.map t74_3) ∧
(
∃ (t75_3f0 t75_3f1 t75_3f2 : ByteArray), rdCells h2 k6 0 [.string t75_3f0, .string t75_3f1, .string t75_3f2] ∧
SpecH PP z291 [(.slice t78 t78n t78c)] h2 (fun v_6 h11 => ∃ (t79_4 : OA) (t79_4n t79_4c : Nat), v_6 = (.slice t79_4 t79_4n t79_4c) ∧
hwp PP (Instr.mapUpdate y17 (.map t74_3) (.agg #[.string t75_3f0, .string t75_3f1, .string t75_3f2]) (.slice t79_4 t79_4n t79_4c)) (fun _ h12 =>
L1 s0 t59 t32 K h12) h11)) ∧
(
SpecH PP z291 [(.slice t78 t78n t78c)] h2 (fun v_5 h9 => ∃ (t79_3 : OA) (t79_3n t79_3c : Nat), v_5 = (.slice t79_3 t79_3n t79_3c) ∧
∃ (t75_2f0 t75_2f1 t75_2f2 : ByteArray), rdCells h9 k6 0 [.string t75_2f0, .string t75_2f1, .string t75_2f2] ∧
hwp PP (Instr.mapUpdate y17 (.map t74_3) (.agg #[.string t75_2f0, .string t75_2f1, .string t75_2f2]) (.slice t79_3 t79_3n t79_3c)) (fun _ h10 =>
L1 s0 t59 t32 K h10) h9)) ∧
True) ∧
(
∃ (t75_1f0 t75_1f1 t75_1f2 : ByteArray), rdCells h2 k6 0 [.string t75_1f0, .string t75_1f1, .string t75_1f2] ∧
(
∃ (t74_2 : ON), cellH h2 t72 = some (.map t74_2) ∧
SpecH PP z291 [(.slice t78 t78n t78c)] h2 (fun v_4 h7 => ∃ (t79_2 : OA) (t79_2n t79_2c : Nat), v_4 = (.slice t79_2 t79_2n t79_2c) ∧
hwp PP (Instr.mapUpdate y17 (.map t74_2) (.agg #[.string t75_1f0, .string t75_1f1, .string t75_1f2]) (.slice t79_2 t79_2n t79_2c)) (fun _ h8 =>
L1 s0 t59 t32 K h8) h7)) ∧
(
SpecH PP z291 [(.slice t78 t78n t78c)] h2 (fun v_3 h5 => ∃ (t79_1 : OA) (t79_1n t79_1c : Nat), v_3 = (.slice t79_1 t79_1n t79_1c) ∧
∃ (t74_1 : ON), cellH h5 t72 = some (.map t74_1) ∧
hwp PP (Instr.mapUpdate y17 (.map t74_1) (.agg #[.string t75_1f0, .string t75_1f1, .string t75_1f2]) (.slice t79_1 t79_1n t79_1c)) (fun _ h6 =>
L1 s0 t59 t32 K h6) h5)) ∧
True) ∧
(
SpecH PP z291 [(.slice t78 t78n t78c)] h2 (fun v_2 h3 => ∃ (t79 : OA) (t79n t79c : Nat), v_2 = (.slice t79 t79n t79c) ∧
∃ (t74 : ON), cellH h3 t72 = some (.map t74) ∧
∃ (t75f0 t75f1 t75f2 : ByteArray), rdCells h3 k6 0 [.string t75f0, .string t75f1, .string t75f2] ∧
hwp PP (Instr.mapUpdate y17 (.map t74) (.agg #[.string t75f0, .string t75f1, .string t75f2]) (.slice t79 t79n t79c)) (fun _ h4 =>
L1 s0 t59 t32 K h4) h3)) ∧
True) h)) (
L1 s0 t59 t32 K h))) : J3 s0 gone5 k6 xl7 xl7n xl7c xn8 t32 K h := by unfold J3; exact Jn.of_txt (an 32055) (by kernel_rfl) H
theorem door {s0 : OA} {at1 : Int} {Q : VP} {h : Heap} (H :
let t10 : Bool := (Option.isNone s0)
br t10 (
J1 s0 at1 true Q h) (
nilc s0 (fun t14 =>
∃ (t16 : Int), cellH h (Addr.add t14 2) = some (.int .i64 t16) ∧
let t17 : Bool := decide (at1 ≤ t16)
J1 s0 at1 t17 Q h))) : SpecH PP z225 [.pointer s0, .int .i64 at1] h Q :=
  y12 (ann := ann) Tryz.func75 rfl rfl (by kernel_rfl) H
end z224
namespace z300
def ann : Ann := (.seq 3 (rg 1 3) (.seq 35 (rg 4 35) (.seq 35 (.seq 4131 (rg 2 4131) (.cond (.seq 16 (rg 2 16) (.exit 16)) .leaf)) (.seq 33 (.seq 99 (rg 3 99) (.block (.loop 99 (.seq 99 (.seq 524387 (rg 4 524387) (.cond .leaf (.exit 33))) (.seq 99 (.block (.seq 227 (rg 6 227) (.seq 536871139 (rg 4 536871139) (.cond (.seq 99 (rg 5 99) (rg 3 99)) .leaf)))) (.join (rg 3 99))))))) (.seq 33 (rg 4 33) (.seq 16 (rg 4 16) (.exit 16)))))))
noncomputable abbrev cd := cdF Tryz.f76
abbrev an := anF ann
@[irreducible] def X0 (s0 : OA) (s0n s0c : Nat) (i5 : Int) : Fr := (mkFr 0 42 [(0, (.slice s0 s0n s0c)), (5, .int .i64 i5)])
@[irreducible] def L1 (s0 : OA) (s0n s0c : Nat) (del1 : Value) (i5 j6 : Int) (K : EP) (h : Heap) : Prop := Lp PP true (cd 244) (mkFr 0 42 [(0, (.slice s0 s0n s0c)), (1, del1), (5, .int .i64 i5), (6, .int .i64 j6)]) K h
@[irreducible] def B1 (K : EP) : EP := seqK (fun fr h => Lp PP true (cd 244) (fr.mask 99) K h) K
@[irreducible] def J1 (s0 : OA) (s0n s0c : Nat) (del1 : Value) (i5 j6 : Int) (K : EP) (h : Heap) : Prop := Jn PP true (cd 979) (mkFr 0 42 [(0, (.slice s0 s0n s0c)), (1, del1), (5, .int .i64 i5), (6, .int .i64 j6)]) (B1 K) h
@[irreducible] def K2 (Q : VP) : EP := seqK (fun fr h => ev PP true none (cd 31) (an 31) (fr.mask 33) (bodyK PP Tryz.f76 Q) h) (bodyK PP Tryz.f76 Q)
@[irreducible] def K1 (Q : VP) : EP := blockK 0 (K2 Q)
theorem L1_of {s0 : OA} {s0n s0c : Nat} {del1 : Value} {i5 j6 : Int} {K : EP} {h : Heap} (H :
let t19 : Bool := decide (j6 < (s0n : Int))
br t19 (
hwp PP (Instr.indexAt y88 (.slice s0 s0n s0c) (.int .i64 j6)) (fun v h1 => ∃ (t24 : Addr), v = (.pointer (some t24)) ∧
∃ (t25f0 : Int) (t25f1 : OA) (t25f1n t25f1c : Nat), rdCells h1 t24 0 [.int .i64 t25f0, (.slice t25f1 t25f1n t25f1c)] ∧
let v7 : Addr := ⟨Array.size h1, 0, none⟩
let h2 : Heap := Array.push h1 (.cells #[.int .i64 0, (.slice none 0 0)] y36 (0, 0))
wrCells v7 0 [.int .i64 t25f0, (.slice t25f1 t25f1n t25f1c)] (fun h3 =>
∃ (t27f0 : Int) (t27f1 : OA) (t27f1n t27f1c : Nat), rdCells h3 v7 0 [.int .i64 t27f0, (.slice t27f1 t27f1n t27f1c)] ∧
callV PP del1 [(.agg #[.int .i64 t27f0, (.slice t27f1 t27f1n t27f1c)])] (fun v_1 h4 => ∃ (t28 : Bool), v_1 = (.bool t28) ∧
let t29 : Bool := (!t28)
br t29 (
∃ (t32f0 : Int) (t32f1 : OA) (t32f1n t32f1c : Nat), rdCells h4 v7 0 [.int .i64 t32f0, (.slice t32f1 t32f1n t32f1c)] ∧
hwp PP (Instr.indexAt y88 (.slice s0 s0n s0c) (.int .i64 i5)) (fun v_2 h5 => ∃ (t33 : Addr), v_2 = (.pointer (some t33)) ∧
wrCells t33 0 [.int .i64 t32f0, (.slice t32f1 t32f1n t32f1c)] (fun h6 =>
let t35 : Int := IntKind.i64.wrap (i5 + 1)
J1 s0 s0n s0c del1 t35 j6 K h6) h5) h4) (
J1 s0 s0n s0c del1 i5 j6 K h4)) h3) h2) h) (
K (.exit 0) (X0 s0 s0n s0c i5) h)) : L1 s0 s0n s0c del1 i5 j6 K h := by unfold L1; exact Lp.of_txt (an 244) 99 (by kernel_rfl) H
theorem L1_X0 {Q : VP} {s0 : OA} {s0n s0c : Nat} {i5 : Int} {h : Heap} (H :
hwp PP (Instr.sliceAt y88 (.slice s0 s0n s0c) (some (.int .i64 i5)) none none) (fun v h1 => ∃ (t38 : OA) (t38n t38c : Nat), v = (.slice t38 t38n t38c) ∧
hwp PP (Builtin.clear_ #[y88] T_ #[(.slice t38 t38n t38c)]) (fun v_1 h2 => v_1 = (.tuple #[]) ∧
hwp PP (Instr.sliceAt y88 (.slice s0 s0n s0c) none (some (.int .i64 i5)) none) (fun v_2 h3 => ∃ (t41 : OA) (t41n t41c : Nat), v_2 = (.slice t41 t41n t41c) ∧
Q (.slice t41 t41n t41c) h3) h2) h1) h) : (K1 Q) (.exit 0) (X0 s0 s0n s0c i5) h := y20 (by kernel_rfl) H
theorem J1_of {s0 : OA} {s0n s0c : Nat} {del1 : Value} {i5 j6 : Int} {K : EP} {h : Heap} (H :
let t21 : Int := IntKind.i64.wrap (j6 + 1)
L1 s0 s0n s0c del1 i5 t21 K h) : J1 s0 s0n s0c del1 i5 j6 K h := by unfold J1; exact Jn.of_txt (an 979) (by kernel_rfl) H
theorem door {s0 : OA} {s0n s0c : Nat} {del1 : Value} {Q : VP} {h : Heap} (H :
SpecH PP z303 [(.slice s0 s0n s0c), del1] h (fun v h1 => ∃ (t10 : Int), v = (.int .i64 t10) ∧
let t12 : Bool := (t10 == (-1))
br t12 (
Q (.slice s0 s0n s0c) h1) (
let t15 : Int := IntKind.i64.wrap (t10 + 1)
L1 s0 s0n s0c del1 t10 t15 (K1 Q) h1))) : SpecH PP z301 [(.slice s0 s0n s0c), del1] h Q :=
  y12 (ann := ann) Tryz.func76 rfl rfl (by kernel_rfl) H
end z300
namespace z420
def ann : Ann := (.seq 6 (rg 2 6) (.seq 8 (rg 5 8) (.exit 8)))
theorem door {c0f0 : Int} {c0f1 : OA} {c0f1n c0f1c : Nat} {t1 : Addr} {Q : VP} {h : Heap} (H :
let c2 : Addr := ⟨Array.size h, 0, none⟩
let h1 : Heap := Array.push h (.cells #[.int .i64 c0f0, (.slice c0f1 c0f1n c0f1c)] y36 (0, 0))
∃ (t5 : Int), cellH h1 c2 = some (.int .i64 t5) ∧
∃ (t6 : Int), cellH h1 t1 = some (.int .i64 t6) ∧
let t7 : Bool := decide (t5 ≤ t6)
Q (.bool t7) h1) : SpecH PP z421 [(.agg #[.int .i64 c0f0, (.slice c0f1 c0f1n c0f1c)]), (.pointer (some t1))] h Q :=
  y12 (ann := ann) Tryz.func77 rfl rfl (by kernel_rfl) H
end z420
namespace z314
def ann : Ann := (.seq 3 (rg 1 3) (.seq 34 (rg 3 34) (.seq 32 (rg 3 32) (.seq 16 (rg 2 16) (.exit 16)))))
theorem door {seq0 cmp1 : Value} {Q : VP} {h : Heap} (H :
SpecH PP z293 [seq0] h (fun v h1 => ∃ (t7 : OA) (t7n t7c : Nat), v = (.slice t7 t7n t7c) ∧
SpecH PP z313 [(.slice t7 t7n t7c), cmp1] h1 (fun v_1 h2 => v_1 = (.tuple #[]) ∧
Q (.slice t7 t7n t7c) h2))) : SpecH PP z315 [seq0, cmp1] h Q :=
  y12 (ann := ann) Tryz.func78 rfl rfl (by kernel_rfl) H
end z314
namespace z266
def ann : Ann := (.seq 2 (rg 2 2) (.seq 4 (rg 2 4) (.exit 4)))
theorem door {m0 : ON} {Q : VP} {h : Heap} (H :
let m1 : Addr := ⟨Array.size h, 0, none⟩
let h1 : Heap := Array.push h (.cells #[.map m0] y38 (0, 0))
Q (.func (.func z269) #[] #[(.pointer (some m1))]) h1) : SpecH PP z267 [.map m0] h Q :=
  y12 (ann := ann) Tryz.func79 rfl rfl (by kernel_rfl) H
end z266
namespace z457
def ann : Ann := (.seq 12 (rg 3 12) (.seq 16 (rg 24 16) (.exit 16)))
theorem door {a0f0 a0f1 a0f2 : ByteArray} {a0f3 : Bool} {a0f4 b1f0 b1f1 b1f2 : ByteArray} {b1f3 : Bool} {b1f4 : ByteArray} {Q : VP} {h : Heap} (H :
let a2 : Addr := ⟨Array.size h, 0, none⟩
let h1 : Heap := Array.push h (.cells #[.string a0f0, .string a0f1, .string a0f2, .bool a0f3, .string a0f4] y25 (0, 0))
let b3 : Addr := ⟨Array.size h1, 0, none⟩
let h2 : Heap := Array.push h1 (.cells #[.string b1f0, .string b1f1, .string b1f2, .bool b1f3, .string b1f4] y25 (0, 0))
∃ (t7 : ByteArray), cellH h2 a2 = some (.string t7) ∧
∃ (t10 : ByteArray), cellH h2 b3 = some (.string t10) ∧
∃ v, PureAt PP z239 [.string t7, .string t10] v ∧
∃ (t11 : Int), v = (.int .i64 t11) ∧
∃ (t14 : ByteArray), cellH h2 (Addr.add a2 1) = some (.string t14) ∧
∃ (t17 : ByteArray), cellH h2 (Addr.add b3 1) = some (.string t17) ∧
∃ v_1, PureAt PP z239 [.string t14, .string t17] v_1 ∧
∃ (t18 : Int), v_1 = (.int .i64 t18) ∧
∃ (t21 : ByteArray), cellH h2 (Addr.add a2 2) = some (.string t21) ∧
∃ (t24 : ByteArray), cellH h2 (Addr.add b3 2) = some (.string t24) ∧
∃ v_2, PureAt PP z239 [.string t21, .string t24] v_2 ∧
∃ (t25 : Int), v_2 = (.int .i64 t25) ∧
let h3 : Heap := Array.push h2 (.cells #[.int .i64 t11, .int .i64 t18, .int .i64 t25] y63 (0, 0))
SpecH PP z243 [(.slice (some ⟨Array.size h2, 0, none⟩) 3 3)] h3 (fun v_3 h4 => ∃ (t27 : Int), v_3 = (.int .i64 t27) ∧
Q (.int .i64 t27) h4)) : SpecH PP z458 [(.agg #[.string a0f0, .string a0f1, .string a0f2, .bool a0f3, .string a0f4]), (.agg #[.string b1f0, .string b1f1, .string b1f2, .bool b1f3, .string b1f4])] h Q :=
  y12 (ann := ann) Tryz.func80 rfl rfl (by kernel_rfl) H
end z457
namespace z242
def ann : Ann := (.seq 1 (rg 1 1) (.seq 9 (rg 1 9) (.seq 8 (.seq 456 (rg 3 456) (.block (.loop 456 (.seq 968 (rg 1 968) (.seq 456 (.cond .leaf (.exit 8)) (.seq 456 (.block (.seq 488 (rg 3 488) (.seq 16872 (rg 3 16872) (.cond (.seq 4 (rg 2 4) (.exit 4)) .leaf)))) (rg 2 456))))))) (.seq 4 (rg 2 4) (.exit 4)))))
noncomputable abbrev cd := cdF Tryz.f81
abbrev an := anF ann
@[irreducible] def Xret (t2 : Int) : Fr := (mkFr 0 18 [(2, .int .i64 t2)])
@[irreducible] def X0 (zero3 : Int) : Fr := (mkFr 0 18 [(3, .int .i64 zero3)])
@[irreducible] def L1 (zero3 : Int) (t6 : OA) (t6n t6c : Nat) (t7 t8 : Int) (K : EP) (h : Heap) : Prop := Lp PP true (cd 116) (mkFr 0 18 [(3, .int .i64 zero3), (6, (.slice t6 t6n t6c)), (7, .int .i64 t7), (8, .int .i64 t8)]) K h
@[irreducible] def K2 (Q : VP) : EP := seqK (fun fr h => ev PP true none (cd 15) (an 15) (fr.mask 8) (bodyK PP Tryz.f81 Q) h) (bodyK PP Tryz.f81 Q)
@[irreducible] def K1 (Q : VP) : EP := blockK 0 (K2 Q)
theorem L1_of {zero3 : Int} {t6 : OA} {t6n t6c : Nat} {t7 t8 : Int} {K : EP} {h : Heap} (H :
let t9 : Bool := decide (t8 < t7)
br t9 (
hwp PP (Instr.indexAt T_sl_int (.slice t6 t6n t6c) (.int .i64 t8)) (fun v h1 => ∃ (t10 : Addr), v = (.pointer (some t10)) ∧
∃ (t11 : Int), cellH h1 t10 = some (.int .i64 t11) ∧
let t14 : Bool := (t11 != zero3)
br t14 (
K .ret (Xret t11) h1) (
let t16 : Int := IntKind.i64.wrap (t8 + 1)
L1 zero3 t6 t6n t6c t7 t16 K h1)) h) (
K (.exit 0) (X0 zero3) h)) : L1 zero3 t6 t6n t6c t7 t8 K h := by unfold L1; exact Lp.of_txt (an 116) 456 (by kernel_rfl) H
theorem L1_Xret {Q : VP} {t2 : Int} {h : Heap} (H :
Q (.int .i64 t2) h) : (K1 Q) .ret (Xret t2) h := y20 (by kernel_rfl) H
theorem L1_X0 {Q : VP} {zero3 : Int} {h : Heap} (H :
Q (.int .i64 zero3) h) : (K1 Q) (.exit 0) (X0 zero3) h := y20 (by kernel_rfl) H
theorem door {vals0 : OA} {vals0n vals0c : Nat} {Q : VP} {h : Heap} (H :
L1 0 vals0 vals0n vals0c (vals0n : Int) 0 (K1 Q) h) : SpecH PP z243 [(.slice vals0 vals0n vals0c)] h Q :=
  y12 (ann := ann) Tryz.func81 rfl rfl (by kernel_rfl) H
end z242
namespace z238
def ann : Ann := (.seq 3 (rg 1 3) (.seq 35 (rg 3 35) (.seq 99 (rg 3 99) (.seq 67 (.seq 2115 (rg 1 2115) (.cond (.seq 0 (.seq 4096 (rg 1 4096) (.cond (.seq 16 (rg 1 16) (.exit 16)) .leaf)) (.seq 16 (rg 1 16) (.exit 16))) .leaf)) (.seq 3 (.seq 8195 (rg 1 8195) (.cond (.seq 16 (rg 1 16) (.exit 16)) .leaf)) (.seq 3 (.seq 65539 (rg 3 65539) (.cond (.seq 16 (rg 1 16) (.exit 16)) .leaf)) (.seq 0 (.seq 524288 (rg 3 524288) (.cond (.seq 16 (rg 1 16) (.exit 16)) .leaf)) (.seq 16 (rg 1 16) (.exit 16)))))))))
theorem door {x0 y1 : ByteArray} {Q : VP} {h : Heap} (H :
∃ v, PureAt PP z245 [.string x0] v ∧
∃ (t8 : Bool), v = (.bool t8) ∧
∃ v_1, PureAt PP z245 [.string y1] v_1 ∧
∃ (t10 : Bool), v_1 = (.bool t10) ∧
br t8 (
br t10 (
Q (.int .i64 0) h) (
Q (.int .i64 (-1)) h)) (
br t10 (
Q (.int .i64 1) h) (
let t16 : Bool := strLt x0 y1
br t16 (
Q (.int .i64 (-1)) h) (
let t19 : Bool := (!(strLt x0 y1 || decide (x0 = y1)))
br t19 (
Q (.int .i64 1) h) (
Q (.int .i64 0) h))))) : SpecH PP z239 [.string x0, .string y1] h Q :=
  y12 (ann := ann) Tryz.func82 rfl rfl (by kernel_rfl) H
end z238
namespace z294
def ann : Ann := (.seq 3 (rg 1 3) (.seq 16 (rg 5 16) (.exit 16)))
theorem door {s0 : OA} {s0n s0c : Nat} {f1 : Value} {Q : VP} {h : Heap} (H :
SpecH PP z305 [(.slice s0 s0n s0c), f1] h (fun v h1 => ∃ (t7 : Int), v = (.int .i64 t7) ∧
let t8 : Bool := decide (t7 ≥ 0)
Q (.bool t8) h1)) : SpecH PP z295 [(.slice s0 s0n s0c), f1] h Q :=
  y12 (ann := ann) Tryz.func83 rfl rfl (by kernel_rfl) H
end z294
namespace z443
def ann : Ann := (.seq 6 (rg 2 6) (.seq 8 (rg 22 8) (.exit 8)))
theorem door {w0f0 w0f1 w0f2 : ByteArray} {w0f3 : Bool} {w0f4 : ByteArray} {t1 : Addr} {Q : VP} {h : Heap} (H :
let w2 : Addr := ⟨Array.size h, 0, none⟩
let h1 : Heap := Array.push h (.cells #[.string w0f0, .string w0f1, .string w0f2, .bool w0f3, .string w0f4] y25 (0, 0))
∃ (t4 : OA), cellH h1 t1 = some (.pointer t4) ∧
nilc t4 (fun t5 =>
∃ (t7 : ON), cellH h1 (Addr.add t5 1) = some (.map t7) ∧
∃ (t9f0 t9f1 t9f2 : ByteArray), rdCells h1 w2 0 [.string t9f0, .string t9f1, .string t9f2] ∧
hwp PP (Instr.lookup y137 (.map t7) (.agg #[.string t9f0, .string t9f1, .string t9f2]) false) (fun v h2 => ∃ (t10 : Bool), v = (.bool t10) ∧
br t10 (
Q (.bool true) h2) (
∃ (t12 : OA), cellH h2 t1 = some (.pointer t12) ∧
nilc t12 (fun t13 =>
∃ (t15 : ON), cellH h2 (Addr.add t13 2) = some (.map t15) ∧
∃ (t18 : ByteArray), cellH h2 w2 = some (.string t18) ∧
∃ (t21 : ByteArray), cellH h2 (Addr.add w2 1) = some (.string t21) ∧
hwp PP (Instr.lookup y136 (.map t15) (.agg #[.string t18, .string t21]) false) (fun v_1 h3 => ∃ (t23 : Bool), v_1 = (.bool t23) ∧
Q (.bool t23) h3) h2))) h1)) : SpecH PP z444 [(.agg #[.string w0f0, .string w0f1, .string w0f2, .bool w0f3, .string w0f4]), (.pointer (some t1))] h Q :=
  y12 (ann := ann) Tryz.func84 rfl rfl (by kernel_rfl) H
end z443
namespace z214
def ann : Ann := (.seq 21 (rg 3 21) (.seq 21 (.seq 2069 (rg 2 2069) (.cond (.seq 192 (rg 2 192) (.exit 192)) .leaf)) (.seq 261 (rg 7 261) (.seq 768 (rg 5 768) (.seq 768 (.seq 4294968064 (rg 11 4294968064) (.join (.cond (.seq 192 (rg 2 192) (.exit 192)) .leaf))) (.seq 192 (rg 8 192) (.exit 192)))))))
noncomputable abbrev cd := cdF Tryz.f85
abbrev an := anF ann
@[irreducible] def K1 (Q : VP) : EP := seqK (fun fr h => ev PP true none (cd 63) (an 63) (fr.mask 768) (bodyK PP Tryz.f85 Q) h) (bodyK PP Tryz.f85 Q)
@[irreducible] def J1 (xl8 : OA) (xl8n xl8c : Nat) (xn9 : Int) (t32 : Bool) (Q : VP) (h : Heap) : Prop := Jn PP true (cd 125) (mkFr 0 39 [(8, (.slice xl8 xl8n xl8c)), (9, .int .i64 xn9), (32, .bool t32)]) (K1 Q) h
theorem J1_of {xl8 : OA} {xl8n xl8c : Nat} {xn9 : Int} {t32 : Bool} {Q : VP} {h : Heap} (H :
br t32 (
Q (.tuple #[(.string (⟨#[]⟩ : ByteArray)), .bool false]) h) (
let t35 : Int := IntKind.i64.wrap (xn9 - 1)
hwp PP (Instr.indexAt y19 (.slice xl8 xl8n xl8c) (.int .i64 t35)) (fun v h1 => ∃ (t36 : Addr), v = (.pointer (some t36)) ∧
∃ (t38 : ByteArray), cellH h1 (Addr.add t36 2) = some (.string t38) ∧
Q (.tuple #[.string t38, .bool true]) h1) h)) : J1 xl8 xl8n xl8c xn9 t32 Q h := by unfold J1; exact Jn.of_txt (an 125) (by kernel_rfl) H
theorem door {s0 : OA} {k1f0 k1f1 k1f2 : ByteArray} {at2 : Int} {Q : VP} {h : Heap} (H :
let k4 : Addr := ⟨Array.size h, 0, none⟩
let h1 : Heap := Array.push h (.cells #[.string k1f0, .string k1f1, .string k1f2] y23 (0, 0))
let t11 : Bool := (Option.isNone s0)
br t11 (
Q (.tuple #[(.string (⟨#[]⟩ : ByteArray)), .bool false]) h1) (
nilc s0 (fun t13 =>
∃ (t15 : ON), cellH h1 t13 = some (.map t15) ∧
∃ (t16f0 t16f1 t16f2 : ByteArray), rdCells h1 k4 0 [.string t16f0, .string t16f1, .string t16f2] ∧
hwp PP (Instr.lookup y17 (.map t15) (.agg #[.string t16f0, .string t16f1, .string t16f2]) false) (fun v h2 => ∃ (t17 : OA) (t17n t17c : Nat), v = (.slice t17 t17n t17c) ∧
SpecH PP z235 [.pointer s0, (.slice t17 t17n t17c), .int .i64 at2] h2 (fun v_1 h3 => ∃ (t21 : Int), v_1 = (.int .i64 t21) ∧
let t23 : Bool := (t21 == 0)
br t23 (
J1 t17 t17n t17c t21 true Q h3) (
let t27 : Int := IntKind.i64.wrap (t21 - 1)
hwp PP (Instr.indexAt y19 (.slice t17 t17n t17c) (.int .i64 t27)) (fun v_2 h4 => ∃ (t28 : Addr), v_2 = (.pointer (some t28)) ∧
∃ (t30 : Bool), cellH h4 (Addr.add t28 1) = some (.bool t30) ∧
let t31 : Bool := (!t30)
J1 t17 t17n t17c t21 t31 Q h4) h3))) h1))) : SpecH PP z215 [.pointer s0, (.agg #[.string k1f0, .string k1f1, .string k1f2]), .int .i64 at2] h Q :=
  y12 (ann := ann) Tryz.func85 rfl rfl (by kernel_rfl) H
end z214
namespace z298
def ann : Ann := (.seq 3 (rg 1 3) (.seq 16 (rg 5 16) (.exit 16)))
theorem door {s0 : OA} {s0n s0c : Nat} {f1 : Value} {Q : VP} {h : Heap} (H :
SpecH PP z309 [(.slice s0 s0n s0c), f1] h (fun v h1 => ∃ (t7 : Int), v = (.int .i64 t7) ∧
let t8 : Bool := decide (t7 ≥ 0)
Q (.bool t8) h1)) : SpecH PP z299 [(.slice s0 s0n s0c), f1] h Q :=
  y12 (ann := ann) Tryz.func86 rfl rfl (by kernel_rfl) H
end z298
namespace z416
def ann : Ann := (.seq 1 (rg 1 1) (.seq 4 (rg 4 4) (.exit 4)))
theorem door {s0 : ByteArray} {Q : VP} {h : Heap} (H :
SpecH PP z460 [.string s0] h (fun v h1 => ∃ (t4 : Bool), v = (.bool t4) ∧
let t5 : Bool := (!t4)
Q (.bool t5) h1)) : SpecH PP z417 [.string s0] h Q :=
  y12 (ann := ann) Tryz.func87 rfl rfl (by kernel_rfl) H
end z416
namespace z459
def ann : Ann := (.seq 5 (rg 1 5) (.seq 5 (.seq 1029 (rg 7 1029) (.join (.cond (.seq 4 (rg 1 4) (.exit 4)) .leaf))) (.seq 5 (.seq 4101 (rg 2 4101) (.block (.range 5 (rg 1 12) (.block (.seq 8388612 (rg 10 8388612) (.join (.cond (.seq 0 (rg 1 0) (.exit 0)) .leaf))))))) (.seq 4 (rg 4 4) (.exit 4)))))
noncomputable abbrev cd := cdF Tryz.f88
abbrev an := anF ann
@[irreducible] def K1 (Q : VP) : EP := seqK (fun fr h => ev PP true none (cd 7) (an 7) (fr.mask 5) (bodyKR PP Tryz.f88 Q) h) (bodyKR PP Tryz.f88 Q)
@[irreducible] def J1 (s0 : ByteArray) (t2 : Addr) (t10 : Bool) (Q : VP) (h : Heap) : Prop := Jn PP true (cd 13) (mkFr 0 27 [(0, .string s0), (2, (.pointer (some t2))), (10, .bool t10)]) (K1 Q) h
@[irreducible] def K3 (Q : VP) : EP := seqK (fun fr h => ev PP true none (cd 15) (an 15) (fr.mask 5) (bodyKR PP Tryz.f88 Q) h) (bodyKR PP Tryz.f88 Q)
@[irreducible] def K2 (Q : VP) : EP := blockK 0 (K3 Q)
@[irreducible] def R1 (s0 : ByteArray) (t2 : Addr) (t13 : ByteArray) (l : Nat) (K : VP) (h : Heap) : Prop := ev PP false none (cd 116) (an 116) (setAll (mkFr 0 27 [(0, .string s0), (2, (.pointer (some t2)))]) [(13, .string t13)]) (roundK PP l (cd 117) (an 117) 12 K) h
@[irreducible] def K4 (l : Nat) (K : VP) : EP := blockK 1 (roundEnd l K)
@[irreducible] def J2 (t2 : Addr) (t23 : Bool) (l : Nat) (K : VP) (h : Heap) : Prop := Jn PP false (cd 469) (mkFr 0 27 [(2, (.pointer (some t2))), (23, .bool t23)]) (K4 l K) h
theorem J1_of {s0 : ByteArray} {t2 : Addr} {t10 : Bool} {Q : VP} {h : Heap} (H :
br t10 (
wr t2 (.bool false) (fun h1 =>
∃ (t2_1 : Bool), cellH h1 t2 = some (.bool t2_1) ∧
∀ h2, Takes h1 h2 → Q (.bool t2_1) h2) h) (
SpecH PP z379 [.string s0, (.string (⟨#[47]⟩ : ByteArray))] h (fun v h3 => ∃ (t12 : Value), v = t12 ∧
rangeK PP t12 #[13] (cd 116) (cd 117) (mkFr 0 27 [(0, .string s0), (2, (.pointer (some t2)))]) (K2 Q) h3))) : J1 s0 t2 t10 Q h := by unfold J1; exact Jn.of_txt (an 13) (by kernel_rfl) H
theorem R1_of {s0 : ByteArray} {t2 : Addr} {t13 : ByteArray} {l : Nat} {K : VP} {h : Heap} (H :
∃ xL : Loop, h[l]? = some (.loop xL) ∧ xL.state = .ready ∧
let h1 : Heap := h.setIfInBounds l (.loop { xL with state := .busy })
let t15 : Bool := decide (t13 = (⟨#[]⟩ : ByteArray))
br t15 (
J2 t2 true l K h1) (
let t18 : Bool := decide (t13 = (⟨#[46]⟩ : ByteArray))
br t18 (
J2 t2 true l K h1) (
let t22 : Bool := decide (t13 = (⟨#[46, 46]⟩ : ByteArray))
J2 t2 t22 l K h1))) : R1 s0 t2 t13 l K h := y20 (by kernel_rfl) H
theorem R1_yield {s0 : ByteArray} {t2 : Addr} {t13 : ByteArray} {l : Nat} {K : VP} {h : Heap} {L : Loop} (hl : h[l]? = some (.loop L)) (hp : L.params = #[13]) (ha : L.assign = (cd 116)) (hb : L.body = (cd 117)) (hf : FrRel (mkFr 0 27 [(0, .string s0), (2, (.pointer (some t2)))]) L.tmps) (H : R1 s0 t2 t13 l K h) : callV PP (.func (.yield l) #[] #[]) [.string t13] K h := by
  unfold R1 at H
  refine yield_ok (ann := an 116) (annB := an 117) (m := 12) hl (by rw [hp]; rfl) hf ?_
  rw [ha, hb, hp]; exact H
theorem R1_outn0 {Q : VP} {s0 : ByteArray} {t2 : Addr} {h : Heap} (H :
SpecH PP z375 [.string s0, (.func (.func z462) #[] #[])] h (fun v h1 => ∃ (t25 : Int), v = (.int .i64 t25) ∧
let t26 : Bool := decide (t25 < 0)
wr t2 (.bool t26) (fun h2 =>
∃ (t2_1 : Bool), cellH h2 t2 = some (.bool t2_1) ∧
∀ h3, Takes h2 h3 → Q (.bool t2_1) h3) h1)) : (K2 Q) .normal (mkFr 0 27 [(0, .string s0), (2, (.pointer (some t2)))]) h := y20 (by kernel_rfl) H
theorem R1_outret {Q : VP} {s0 : ByteArray} {t2 : Addr} {h : Heap} (H :
∃ (t2_1 : Bool), cellH h t2 = some (.bool t2_1) ∧
∀ h1, Takes h h1 → Q (.bool t2_1) h1) : (K2 Q) .ret (mkFr 0 27 [(0, .string s0), (2, (.pointer (some t2)))]) h := y20 (by kernel_rfl) H
theorem J2_of {t2 : Addr} {t23 : Bool} {l : Nat} {K : VP} {h : Heap} (H :
br t23 (
wr t2 (.bool false) (fun h1 =>
∃ xL, h1[l]? = some (.loop xL) ∧ K (.bool false) (h1.setIfInBounds l (endL xL (some .ret)))) h) (
∃ xL_1, h[l]? = some (.loop xL_1) ∧ K (.bool true) (h.setIfInBounds l (endL xL_1 none)))) : J2 t2 t23 l K h := by unfold J2; exact Jn.of_txt (an 469) (by kernel_rfl) H
theorem door {s0 : ByteArray} {Q : VP} {h : Heap} (H :
let t2 : Addr := ⟨Array.size h, 0, none⟩
let h1 : Heap := Array.push h (.cells #[.bool false] T_bool (0, 0))
let t5 : Bool := decide (s0 = (⟨#[]⟩ : ByteArray))
br t5 (
J1 s0 t2 true Q h1) (
let t8 : Int := (ByteArray.size s0 : Int)
let t9 : Bool := decide (t8 > 64)
J1 s0 t2 t9 Q h1)) : SpecH PP z460 [.string s0] h Q :=
  spec_of_txtR (ann := ann) Tryz.func88 rfl (by kernel_rfl) H
end z459
namespace z449
def ann : Ann := (.seq 25 (rg 3 25) (.seq 25 (.seq 537 (rg 2 537) (.cond (.seq 48 (rg 3 48) (.exit 48)) .leaf)) (.seq 208 (.tree (.run [0, 1, 2, 3, 4] (.alt 5 (.run [6, 7, 8, 9, 10, 11] .done) (.alt 9 (.run [5, 6, 7, 8, 10, 11] .done) .nil))) 208) (.join (.seq 48 (rg 4 48) (.exit 48))))))
noncomputable abbrev cd := cdF Tryz.f89
abbrev an := anF ann
@[irreducible] def J1 (t4 w6 : Addr) (ok7 : Bool) (Q : VP) (h : Heap) : Prop := Jn PP true (cd 15) (mkFr 0 22 [(4, (.pointer (some t4))), (6, (.pointer (some w6))), (7, .bool ok7)]) (bodyK PP Tryz.f89 Q) h
theorem J1_of {t4 w6 : Addr} {ok7 : Bool} {Q : VP} {h : Heap} (H :
∃ (t20f0 t20f1 t20f2 : ByteArray) (t20f3 : Bool) (t20f4 : ByteArray), rdCells h w6 0 [.string t20f0, .string t20f1, .string t20f2, .bool t20f3, .string t20f4] ∧
wrCells t4 0 [.string t20f0, .string t20f1, .string t20f2, .bool t20f3, .string t20f4] (fun h1 =>
∃ (t4_1f0 t4_1f1 t4_1f2 : ByteArray) (t4_1f3 : Bool) (t4_1f4 : ByteArray), rdCells h1 t4 0 [.string t4_1f0, .string t4_1f1, .string t4_1f2, .bool t4_1f3, .string t4_1f4] ∧
Q (.tuple #[(.agg #[.string t4_1f0, .string t4_1f1, .string t4_1f2, .bool t4_1f3, .string t4_1f4]), .bool ok7]) h1) h) : J1 t4 w6 ok7 Q h := by unfold J1; exact Jn.of_txt (an 15) (by kernel_rfl) H
theorem door {s0 : OA} {k1f0 k1f1 k1f2 : ByteArray} {Q : VP} {h : Heap} (H :
let k3 : Addr := ⟨Array.size h, 0, none⟩
let h1 : Heap := Array.push h (.cells #[.string k1f0, .string k1f1, .string k1f2] y23 (0, 0))
let t4 : Addr := ⟨Array.size h1, 0, none⟩
let h2 : Heap := Array.push h1 (.cells #[(.string (⟨#[]⟩ : ByteArray)), (.string (⟨#[]⟩ : ByteArray)), (.string (⟨#[]⟩ : ByteArray)), .bool false, (.string (⟨#[]⟩ : ByteArray))] y25 (0, 0))
let t9 : Bool := (Option.isNone s0)
br t9 (
wrCells t4 0 [(.string (⟨#[]⟩ : ByteArray)), (.string (⟨#[]⟩ : ByteArray)), (.string (⟨#[]⟩ : ByteArray)), .bool false, (.string (⟨#[]⟩ : ByteArray))] (fun h3 =>
∃ (t4_1f0 t4_1f1 t4_1f2 : ByteArray) (t4_1f3 : Bool) (t4_1f4 : ByteArray), rdCells h3 t4 0 [.string t4_1f0, .string t4_1f1, .string t4_1f2, .bool t4_1f3, .string t4_1f4] ∧
Q (.tuple #[(.agg #[.string t4_1f0, .string t4_1f1, .string t4_1f2, .bool t4_1f3, .string t4_1f4]), .bool false]) h3) h2) (
nilc s0 (fun t13 =>
∃ (t15 : ON), cellH h2 (Addr.add t13 3) = some (.map t15) ∧
∃ (t16f0 t16f1 t16f2 : ByteArray), rdCells h2 k3 0 [.string t16f0, .string t16f1, .string t16f2] ∧
(
hwp PP (Instr.lookup y38 (.map t15) (.agg #[.string t16f0, .string t16f1, .string t16f2]) true) (fun v_1 h7 => ∃ (t17_2f0 t17_2f1 t17_2f2 : ByteArray) (t17_2f3 : Bool) (t17_2f4 : ByteArray) (t17_3 : Bool), v_1 = (.tuple #[(.agg #[.string t17_2f0, .string t17_2f1, .string t17_2f2, .bool t17_2f3, .string t17_2f4]), .bool t17_3]) ∧
let w6_1 : Addr := ⟨Array.size h7, 0, none⟩
let h8 : Heap := Array.push h7 (.cells #[(.string (⟨#[]⟩ : ByteArray)), (.string (⟨#[]⟩ : ByteArray)), (.string (⟨#[]⟩ : ByteArray)), .bool false, (.string (⟨#[]⟩ : ByteArray))] y25 (0, 0))
wrCells w6_1 0 [.string t17_2f0, .string t17_2f1, .string t17_2f2, .bool t17_2f3, .string t17_2f4] (fun h9 =>
J1 t4 w6_1 t17_3 Q h9) h8) h2) ∧
(
let w6 : Addr := ⟨Array.size h2, 0, none⟩
let h4 : Heap := Array.push h2 (.cells #[(.string (⟨#[]⟩ : ByteArray)), (.string (⟨#[]⟩ : ByteArray)), (.string (⟨#[]⟩ : ByteArray)), .bool false, (.string (⟨#[]⟩ : ByteArray))] y25 (0, 0))
hwp PP (Instr.lookup y38 (.map t15) (.agg #[.string t16f0, .string t16f1, .string t16f2]) true) (fun v h5 => ∃ (t17f0 t17f1 t17f2 : ByteArray) (t17f3 : Bool) (t17f4 : ByteArray) (t17_1 : Bool), v = (.tuple #[(.agg #[.string t17f0, .string t17f1, .string t17f2, .bool t17f3, .string t17f4]), .bool t17_1]) ∧
wrCells w6 0 [.string t17f0, .string t17f1, .string t17f2, .bool t17f3, .string t17f4] (fun h6 =>
J1 t4 w6 t17_1 Q h6) h5) h4) ∧
True))) : SpecH PP z450 [.pointer s0, (.agg #[.string k1f0, .string k1f1, .string k1f2])] h Q :=
  y12 (ann := ann) Tryz.func89 rfl rfl (by kernel_rfl) H
end z449
namespace z230
def ann : Ann := (.seq 7 (rg 1 7) (.seq 135 (rg 1 135) (.seq 135 (.seq 4231 (rg 2 4231) (.cond (.seq 64 (rg 2 64) (.exit 64)) .leaf)) (.seq 128 (.seq 262279 (rg 5 262279) (.block (.loop 262279 (.seq 1310855 (rg 2 1310855) (.seq 262279 (.cond .leaf (.exit 128)) (.block (.seq 262535 (rg 4 262535) (.seq 263559 (rg 9 263559) (.seq 34360000903 (rg 6 34360000903) (.join (.cond (rg 5 262279) .leaf))))))))))) (.seq 128 (rg 2 128) (.seq 64 (rg 2 64) (.exit 64)))))))
noncomputable abbrev cd := cdF Tryz.f90
abbrev an := anF ann
@[irreducible] def X0 (out7 : OA) (out7n out7c : Nat) : Fr := (mkFr 0 43 [(7, (.slice out7 out7n out7c))])
@[irreducible] def L1 (s0 : OA) (at1 : Int) (y128 : Value) (out7 : OA) (out7n out7c : Nat) (t18 : Value) (K : EP) (h : Heap) : Prop := Lp PP true (cd 244) (mkFr 0 43 [(0, .pointer s0), (1, .int .i64 at1), (2, y128), (7, (.slice out7 out7n out7c)), (18, t18)]) K h
@[irreducible] def B1 (K : EP) : EP := seqK (fun fr h => Lp PP true (cd 244) (fr.mask 262279) K h) K
@[irreducible] def K2 (K : EP) : EP := blockK 1 (B1 K)
@[irreducible] def J1 (s0 : OA) (at1 : Int) (y128 : Value) (out7 : OA) (out7n out7c : Nat) (k8 : Addr) (t18 : Value) (t35 : Bool) (K : EP) (h : Heap) : Prop := Jn PP true (cd 15671) (mkFr 0 43 [(0, .pointer s0), (1, .int .i64 at1), (2, y128), (7, (.slice out7 out7n out7c)), (8, (.pointer (some k8))), (18, t18), (35, .bool t35)]) (K2 K) h
@[irreducible] def K3 (Q : VP) : EP := seqK (fun fr h => ev PP true none (cd 31) (an 31) (fr.mask 128) (bodyK PP Tryz.f90 Q) h) (bodyK PP Tryz.f90 Q)
@[irreducible] def K1 (Q : VP) : EP := blockK 0 (K3 Q)
theorem L1_of {s0 : OA} {at1 : Int} {y128 : Value} {out7 : OA} {out7n out7c : Nat} {t18 : Value} {K : EP} {h : Heap} (H :
hwp PP (Instr.next t18 false T_) (fun v h1 => ∃ (b : Bool) (r : List Value), v = .tuple ((.bool b :: r).toArray) ∧
br b (
hwp PP (Instr.entry t18) (fun v_1 h2 => ∃ (t21 t21_1 : Value), v_1 = (.tuple #[t21, t21_1]) ∧
∃ (t22f0 t22f1 t22f2 : ByteArray), t21 = (.agg #[.string t22f0, .string t22f1, .string t22f2]) ∧
let k8 : Addr := ⟨Array.size h2, 0, none⟩
let h3 : Heap := Array.push h2 (.cells #[(.string (⟨#[]⟩ : ByteArray)), (.string (⟨#[]⟩ : ByteArray)), (.string (⟨#[]⟩ : ByteArray))] y23 (0, 0))
wrCells k8 0 [.string t22f0, .string t22f1, .string t22f2] (fun h4 =>
∃ (t25f0 t25f1 t25f2 : ByteArray), rdCells h4 k8 0 [.string t25f0, .string t25f1, .string t25f2] ∧
SpecH PP z215 [.pointer s0, (.agg #[.string t25f0, .string t25f1, .string t25f2]), .int .i64 at1] h4 (fun v_2 h5 => ∃ (t27 : ByteArray) (t27_1 : Bool), v_2 = (.tuple #[.string t27, .bool t27_1]) ∧
br t27_1 (
∃ (t33f0 t33f1 t33f2 : ByteArray), rdCells h5 k8 0 [.string t33f0, .string t33f1, .string t33f2] ∧
callV PP y128 [(.agg #[.string t33f0, .string t33f1, .string t33f2])] (fun v_3 h6 => ∃ (t34 : Bool), v_3 = (.bool t34) ∧
J1 s0 at1 y128 out7 out7n out7c k8 t18 t34 K h6) h5) (
J1 s0 at1 y128 out7 out7n out7c k8 t18 false K h5))) h3) h1) (
K (.exit 0) (X0 out7 out7n out7c) h1)) h) : L1 s0 at1 y128 out7 out7n out7c t18 K h := by unfold L1; exact Lp.of_txt (an 244) 262279 (by kernel_rfl) H
theorem L1_X0 {Q : VP} {out7 : OA} {out7n out7c : Nat} {h : Heap} (H :
SpecH PP z311 [(.slice out7 out7n out7c), (.func (.func z233) #[] #[])] h (fun v h1 => v = (.tuple #[]) ∧
Q (.slice out7 out7n out7c) h1)) : (K1 Q) (.exit 0) (X0 out7 out7n out7c) h := y20 (by kernel_rfl) H
theorem J1_of {s0 : OA} {at1 : Int} {y128 : Value} {out7 : OA} {out7n out7c : Nat} {k8 : Addr} {t18 : Value} {t35 : Bool} {K : EP} {h : Heap} (H :
br t35 (
∃ (t37f0 t37f1 t37f2 : ByteArray), rdCells h k8 0 [.string t37f0, .string t37f1, .string t37f2] ∧
let h1 : Heap := Array.push h (.cells #[.string t37f0, .string t37f1, .string t37f2] y23 (0, 0))
hwp PP (Builtin.append_ #[y14, y14] y14 #[(.slice out7 out7n out7c), (.slice (some ⟨Array.size h, 0, none⟩) 1 1)]) (fun v h2 => ∃ (t39 : OA) (t39n t39c : Nat), v = (.slice t39 t39n t39c) ∧
L1 s0 at1 y128 t39 t39n t39c t18 K h2) h1) (
L1 s0 at1 y128 out7 out7n out7c t18 K h)) : J1 s0 at1 y128 out7 out7n out7c k8 t18 t35 K h := by unfold J1; exact Jn.of_txt (an 15671) (by kernel_rfl) H
theorem door {s0 : OA} {at1 : Int} {y128 : Value} {Q : VP} {h : Heap} (H :
let t12 : Bool := (Option.isNone s0)
br t12 (
Q (.slice none 0 0) h) (
nilc s0 (fun t15 =>
∃ (t17 : ON), cellH h t15 = some (.map t17) ∧
hwp PP (Instr.range y17 (.map t17)) (fun v h1 => ∃ (t18 : Value), v = t18 ∧
L1 s0 at1 y128 none 0 0 t18 (K1 Q) h1) h))) : SpecH PP z231 [.pointer s0, .int .i64 at1, y128] h Q :=
  y12 (ann := ann) Tryz.func90 rfl rfl (by kernel_rfl) H
end z230
namespace z212
def ann : Ann := (.seq 0 (rg 2 0) (.seq 4 (rg 1 4) (.exit 4)))
theorem door {t0f0 t0f1 t0f2 : ByteArray} {Q : VP} {h : Heap} (H :
let t1 : Addr := ⟨Array.size h, 0, none⟩
let h1 : Heap := Array.push h (.cells #[.string t0f0, .string t0f1, .string t0f2] y23 (0, 0))
Q (.bool true) h1) : SpecH PP z213 [(.agg #[.string t0f0, .string t0f1, .string t0f2])] h Q :=
  y12 (ann := ann) Tryz.func91 rfl rfl (by kernel_rfl) H
end z212
namespace z284
end z284
namespace z426
def ann : Ann := (.seq 13 (.seq 29360141 (.tree (.run [5, 6, 7, 8, 13] (.alt 0 (.run [1, 2] (.alt 3 (.alt 4 (.run [9, 10, 11, 12] .done) (.alt 9 (.run [4, 10, 11, 12] .done) .nil)) (.alt 4 (.alt 3 (.run [9, 10, 11, 12] .done) (.alt 9 (.run [3, 10, 11, 12] .done) .nil)) (.alt 9 (.run [3, 4, 10, 11, 12] .done) .nil)))) (.alt 4 (.alt 0 (.run [1, 2] (.alt 3 (.run [9, 10, 11, 12] .done) (.alt 9 (.run [3, 10, 11, 12] .done) .nil))) (.alt 9 (.run [0, 1, 2, 3, 10, 11, 12] .done) .nil)) (.alt 9 (.run [0, 1, 2, 3, 4, 10, 11, 12] .done) .nil)))) 29360141) (.join (.block (.loop 29360141 (.seq 62914573 (rg 1 62914573) (.seq 29360141 (.cond .leaf (.exit 13)) (.seq 29360141 (.block (.seq 29360205 (rg 3 29360205) (.seq 29360461 (.tree (.run [0, 1, 2, 3, 4, 5, 6, 7, 8, 9] (.alt 10 (.run [11, 12, 13, 14, 15, 16] .done) (.alt 14 (.run [10, 11, 12, 13, 15, 16] .done) .nil))) 29360461) (.join (.seq 562949982781453 (rg 8 562949982781453) (.cond (.exit 0) .leaf)))))) (.join (rg 2 29360141))))))))) (.seq 252201579132747781 (rg 7 252201579132747781) (.block (.loop 252201579132747781 (.seq 540431955284459525 (rg 1 540431955284459525) (.seq 252201579132747781 (.cond .leaf (.exit 0)) (.seq 252201579132747781 (.block (.seq 252201579132748805 (rg 4 252201579132748805) (.seq 302231707105236426424325 (rg 18 302231707105236426424325) (.cond (.exit 0) .leaf)))) (.join (rg 2 252201579132747781)))))))))
noncomputable abbrev cd := cdF Tryz.f106
abbrev an := anF ann
@[irreducible] def X0 (y40 : Value) (t2 t3 : Addr) : Fr := (mkFr 0 80 [(0, y40), (2, (.pointer (some t2))), (3, (.pointer (some t3)))])
@[irreducible] def Xret  : Fr := (mkFr 0 80 [])
@[irreducible] def X2  : Fr := (mkFr 0 80 [])
@[irreducible] def K1 (Q : VP) : EP := seqK (fun fr h => ev PP true none (cd 3) (an 3) (fr.mask 13) (bodyK PP Tryz.f106 Q) h) (bodyK PP Tryz.f106 Q)
@[irreducible] def J1 (y40 : Value) (t2 t3 : Addr) (t22 : OA) (t22n t22c : Nat) (t23 t24 : Int) (Q : VP) (h : Heap) : Prop := Jn PP true (cd 5) (mkFr 0 80 [(0, y40), (2, (.pointer (some t2))), (3, (.pointer (some t3))), (22, (.slice t22 t22n t22c)), (23, .int .i64 t23), (24, .int .i64 t24)]) (K1 Q) h
@[irreducible] def K2 (Q : VP) : EP := blockK 0 (K1 Q)
@[irreducible] def L1 (y40 : Value) (t2 t3 : Addr) (t22 : OA) (t22n t22c : Nat) (t23 t24 : Int) (K : EP) (h : Heap) : Prop := Lp PP true (cd 20) (mkFr 0 80 [(0, y40), (2, (.pointer (some t2))), (3, (.pointer (some t3))), (22, (.slice t22 t22n t22c)), (23, .int .i64 t23), (24, .int .i64 t24)]) K h
@[irreducible] def B1 (K : EP) : EP := seqK (fun fr h => Lp PP true (cd 20) (fr.mask 29360141) K h) K
@[irreducible] def K5 (K : EP) : EP := seqK (fun fr h => Jn PP true (cd 167) (fr.mask 29360141) (B1 K) h) (B1 K)
@[irreducible] def K4 (K : EP) : EP := blockK 1 (K5 K)
@[irreducible] def J2 (y40 : Value) (t2 t3 : Addr) (s6 : ByteArray) (own8 : Bool) (t22 : OA) (t22n t22c : Nat) (t23 t24 : Int) (K : EP) (h : Heap) : Prop := Jn PP true (cd 1331) (mkFr 0 80 [(0, y40), (2, (.pointer (some t2))), (3, (.pointer (some t3))), (6, .string s6), (8, .bool own8), (22, (.slice t22 t22n t22c)), (23, .int .i64 t23), (24, .int .i64 t24)]) (K4 K) h
@[irreducible] def K3 (Q : VP) : EP := blockK 2 (bodyK PP Tryz.f106 Q)
@[irreducible] def L2 (y40 : Value) (t2 : Addr) (t55 : OA) (t55n t55c : Nat) (t56 t57 : Int) (K : EP) (h : Heap) : Prop := Lp PP true (cd 28) (mkFr 0 80 [(0, y40), (2, (.pointer (some t2))), (55, (.slice t55 t55n t55c)), (56, .int .i64 t56), (57, .int .i64 t57)]) K h
@[irreducible] def B2 (K : EP) : EP := seqK (fun fr h => Lp PP true (cd 28) (fr.mask 252201579132747781) K h) K
@[irreducible] def J3 (y40 : Value) (t2 t3 : Addr) (t22 : OA) (t22n t22c : Nat) (t23 t24 : Int) (K : EP) (h : Heap) : Prop := Jn PP true (cd 167) (mkFr 0 80 [(0, y40), (2, (.pointer (some t2))), (3, (.pointer (some t3))), (22, (.slice t22 t22n t22c)), (23, .int .i64 t23), (24, .int .i64 t24)]) (B1 K) h
@[irreducible] def J4 (y40 : Value) (t2 : Addr) (t55 : OA) (t55n t55c : Nat) (t56 t57 : Int) (K : EP) (h : Heap) : Prop := Jn PP true (cd 231) (mkFr 0 80 [(0, y40), (2, (.pointer (some t2))), (55, (.slice t55 t55n t55c)), (56, .int .i64 t56), (57, .int .i64 t57)]) (B2 K) h
theorem J1_of {y40 : Value} {t2 t3 : Addr} {t22 : OA} {t22n t22c : Nat} {t23 t24 : Int} {Q : VP} {h : Heap} (H :
L1 y40 t2 t3 t22 t22n t22c t23 t24 (K2 Q) h) : J1 y40 t2 t3 t22 t22n t22c t23 t24 Q h := by unfold J1; exact Jn.of_txt (an 5) (by kernel_rfl) H
theorem L1_of {y40 : Value} {t2 t3 : Addr} {t22 : OA} {t22n t22c : Nat} {t23 t24 : Int} {K : EP} {h : Heap} (H :
let t25 : Bool := decide (t24 < t23)
br t25 (
hwp PP (Instr.indexAt y78 (.slice t22 t22n t22c) (.int .i64 t24)) (fun v h1 => ∃ (t26 : Addr), v = (.pointer (some t26)) ∧
∃ (t27 : ByteArray), cellH h1 t26 = some (.string t27) ∧
∃ (t29 : OA), cellH h1 t3 = some (.pointer t29) ∧
nilc t29 (fun t30 =>
∃ (t32 : OA), cellH h1 (Addr.add t30 1) = some (.pointer t32) ∧
∃ (t34 : ByteArray), cellH h1 t2 = some (.string t34) ∧
∃ (t36 : ByteArray), cellH h1 (Addr.add t2 1) = some (.string t36) ∧
(
SpecH PP z450 [.pointer t32, (.agg #[.string t34, .string t36, .string t27])] h1 (fun v_2 h5 => ∃ (t39_2f0 t39_2f1 t39_2f2 : ByteArray) (t39_2f3 : Bool) (t39_2f4 : ByteArray) (t39_3 : Bool), v_2 = (.tuple #[(.agg #[.string t39_2f0, .string t39_2f1, .string t39_2f2, .bool t39_2f3, .string t39_2f4]), .bool t39_3]) ∧
let t7_1 : Addr := ⟨Array.size h5, 0, none⟩
let h6 : Heap := Array.push h5 (.cells #[(.string (⟨#[]⟩ : ByteArray)), (.string (⟨#[]⟩ : ByteArray)), (.string (⟨#[]⟩ : ByteArray)), .bool false, (.string (⟨#[]⟩ : ByteArray))] y25 (0, 0))
wrCells t7_1 0 [.string t39_2f0, .string t39_2f1, .string t39_2f2, .bool t39_2f3, .string t39_2f4] (fun h7 =>
J2 y40 t2 t3 t27 t39_3 t22 t22n t22c t23 t24 K h7) h6)) ∧
(
let t7 : Addr := ⟨Array.size h1, 0, none⟩
let h2 : Heap := Array.push h1 (.cells #[(.string (⟨#[]⟩ : ByteArray)), (.string (⟨#[]⟩ : ByteArray)), (.string (⟨#[]⟩ : ByteArray)), .bool false, (.string (⟨#[]⟩ : ByteArray))] y25 (0, 0))
SpecH PP z450 [.pointer t32, (.agg #[.string t34, .string t36, .string t27])] h2 (fun v_1 h3 => ∃ (t39f0 t39f1 t39f2 : ByteArray) (t39f3 : Bool) (t39f4 : ByteArray) (t39_1 : Bool), v_1 = (.tuple #[(.agg #[.string t39f0, .string t39f1, .string t39f2, .bool t39f3, .string t39f4]), .bool t39_1]) ∧
wrCells t7 0 [.string t39f0, .string t39f1, .string t39f2, .bool t39f3, .string t39f4] (fun h4 =>
J2 y40 t2 t3 t27 t39_1 t22 t22n t22c t23 t24 K h4) h3)) ∧
True)) h) (
K (.exit 0) (X0 y40 t2 t3) h)) : L1 y40 t2 t3 t22 t22n t22c t23 t24 K h := by unfold L1; exact Lp.of_txt (an 20) 29360141 (by kernel_rfl) H
theorem L1_X0 {Q : VP} {y40 : Value} {t2 t3 : Addr} {h : Heap} (H :
∃ (t51 : OA), cellH h t3 = some (.pointer t51) ∧
nilc t51 (fun t52 =>
∃ (t54 : OA), cellH h (Addr.add t52 1) = some (.pointer t54) ∧
SpecH PP z456 [.pointer t54] h (fun v h1 => ∃ (t55 : OA) (t55n t55c : Nat), v = (.slice t55 t55n t55c) ∧
L2 y40 t2 t55 t55n t55c (t55n : Int) 0 (K3 Q) h1))) : (K2 Q) (.exit 0) (X0 y40 t2 t3) h := y20 (by kernel_rfl) H
theorem J2_of {y40 : Value} {t2 t3 : Addr} {s6 : ByteArray} {own8 : Bool} {t22 : OA} {t22n t22c : Nat} {t23 t24 : Int} {K : EP} {h : Heap} (H :
let t43 : Bool := (!own8)
br t43 (
callV PP y40 [.string s6] (fun v h1 => ∃ (t47 : Bool), v = (.bool t47) ∧
let t48 : Bool := (!t47)
br t48 (
K .ret (Xret) h1) (
J3 y40 t2 t3 t22 t22n t22c t23 t24 K h1)) h) (
J3 y40 t2 t3 t22 t22n t22c t23 t24 K h)) : J2 y40 t2 t3 s6 own8 t22 t22n t22c t23 t24 K h := by unfold J2; exact Jn.of_txt (an 1331) (by kernel_rfl) H
theorem L2_of {y40 : Value} {t2 : Addr} {t55 : OA} {t55n t55c : Nat} {t56 t57 : Int} {K : EP} {h : Heap} (H :
let t58 : Bool := decide (t57 < t56)
br t58 (
hwp PP (Instr.indexAt y11 (.slice t55 t55n t55c) (.int .i64 t57)) (fun v h1 => ∃ (t59 : Addr), v = (.pointer (some t59)) ∧
∃ (t60f0 t60f1 t60f2 : ByteArray) (t60f3 : Bool) (t60f4 : ByteArray), rdCells h1 t59 0 [.string t60f0, .string t60f1, .string t60f2, .bool t60f3, .string t60f4] ∧
let w10 : Addr := ⟨Array.size h1, 0, none⟩
let h2 : Heap := Array.push h1 (.cells #[(.string (⟨#[]⟩ : ByteArray)), (.string (⟨#[]⟩ : ByteArray)), (.string (⟨#[]⟩ : ByteArray)), .bool false, (.string (⟨#[]⟩ : ByteArray))] y25 (0, 0))
wrCells w10 0 [.string t60f0, .string t60f1, .string t60f2, .bool t60f3, .string t60f4] (fun h3 =>
∃ (t62 : Bool), cellH h3 (Addr.add w10 3) = some (.bool t62) ∧
br t62 (
∃ (t66 : ByteArray), cellH h3 (Addr.add w10 1) = some (.string t66) ∧
∃ (t68 : ByteArray), cellH h3 (Addr.add t2 1) = some (.string t68) ∧
let t69 : Bool := decide (t66 = t68)
br t69 (
∃ (t75 : ByteArray), cellH h3 (Addr.add w10 2) = some (.string t75) ∧
callV PP y40 [.string t75] (fun v_1 h4 => ∃ (t76 : Bool), v_1 = (.bool t76) ∧
let t77 : Bool := (!t76)
br t77 (
K .ret (Xret) h4) (
J4 y40 t2 t55 t55n t55c t56 t57 K h4)) h3) (
J4 y40 t2 t55 t55n t55c t56 t57 K h3)) (
J4 y40 t2 t55 t55n t55c t56 t57 K h3)) h2) h) (
K (.exit 2) (X2) h)) : L2 y40 t2 t55 t55n t55c t56 t57 K h := by unfold L2; exact Lp.of_txt (an 28) 252201579132747781 (by kernel_rfl) H
theorem J3_of {y40 : Value} {t2 t3 : Addr} {t22 : OA} {t22n t22c : Nat} {t23 t24 : Int} {K : EP} {h : Heap} (H :
let t50 : Int := IntKind.i64.wrap (t24 + 1)
L1 y40 t2 t3 t22 t22n t22c t23 t50 K h) : J3 y40 t2 t3 t22 t22n t22c t23 t24 K h := by unfold J3; exact Jn.of_txt (an 167) (by kernel_rfl) H
theorem J4_of {y40 : Value} {t2 : Addr} {t55 : OA} {t55n t55c : Nat} {t56 t57 : Int} {K : EP} {h : Heap} (H :
let t79 : Int := IntKind.i64.wrap (t57 + 1)
L2 y40 t2 t55 t55n t55c t56 t79 K h) : J4 y40 t2 t55 t55n t55c t56 t57 K h := by unfold J4; exact Jn.of_txt (an 231) (by kernel_rfl) H
theorem L2_X2 {Q : VP}  {h : Heap} (H :
Q (.tuple #[]) h) : (K3 Q) (.exit 2) (X2 ) h := y20 (by kernel_rfl) H
theorem door {y40 : Value} {t1 t2 t3 : Addr} {Q : VP} {h : Heap} (H :
∃ (t16 : OA), cellH h t3 = some (.pointer t16) ∧
nilc t16 (fun t17 =>
∃ (t19 : OA), cellH h (Addr.add t17 1) = some (.pointer t19) ∧
(
∃ (t11_3 : OA), cellH h t1 = some (.pointer t11_3) ∧
nilc t11_3 (fun t12_3 =>
(
∃ (t14_7 : OA), cellH h t12_3 = some (.pointer t14_7) ∧
(
∃ (t15_5f0 t15_5f1 : ByteArray), rdCells h t2 0 [.string t15_5f0, .string t15_5f1] ∧
SpecH PP z440 [.pointer t19] h (fun v_16 h17 => ∃ (t20_8 : Int), v_16 = (.int .i64 t20_8) ∧
let t21_8 : Int := IntKind.i64.wrap (t20_8 + 1)
SpecH PP z217 [.pointer t14_7, (.agg #[.string t15_5f0, .string t15_5f1]), .int .i64 t21_8] h17 (fun v_17 h18 => ∃ (t22_8 : OA) (t22_8n t22_8c : Nat), v_17 = (.slice t22_8 t22_8n t22_8c) ∧
J1 y40 t2 t3 t22_8 t22_8n t22_8c (t22_8n : Int) 0 Q h18))) ∧
(
SpecH PP z440 [.pointer t19] h (fun v_14 h15 => ∃ (t20_7 : Int), v_14 = (.int .i64 t20_7) ∧
∃ (t15_4f0 t15_4f1 : ByteArray), rdCells h15 t2 0 [.string t15_4f0, .string t15_4f1] ∧
let t21_7 : Int := IntKind.i64.wrap (t20_7 + 1)
SpecH PP z217 [.pointer t14_7, (.agg #[.string t15_4f0, .string t15_4f1]), .int .i64 t21_7] h15 (fun v_15 h16 => ∃ (t22_7 : OA) (t22_7n t22_7c : Nat), v_15 = (.slice t22_7 t22_7n t22_7c) ∧
J1 y40 t2 t3 t22_7 t22_7n t22_7c (t22_7n : Int) 0 Q h16))) ∧
True) ∧
(
∃ (t15_3f0 t15_3f1 : ByteArray), rdCells h t2 0 [.string t15_3f0, .string t15_3f1] ∧
(
∃ (t14_6 : OA), cellH h t12_3 = some (.pointer t14_6) ∧
SpecH PP z440 [.pointer t19] h (fun v_12 h13 => ∃ (t20_6 : Int), v_12 = (.int .i64 t20_6) ∧
let t21_6 : Int := IntKind.i64.wrap (t20_6 + 1)
SpecH PP z217 [.pointer t14_6, (.agg #[.string t15_3f0, .string t15_3f1]), .int .i64 t21_6] h13 (fun v_13 h14 => ∃ (t22_6 : OA) (t22_6n t22_6c : Nat), v_13 = (.slice t22_6 t22_6n t22_6c) ∧
J1 y40 t2 t3 t22_6 t22_6n t22_6c (t22_6n : Int) 0 Q h14))) ∧
(
SpecH PP z440 [.pointer t19] h (fun v_10 h11 => ∃ (t20_5 : Int), v_10 = (.int .i64 t20_5) ∧
∃ (t14_5 : OA), cellH h11 t12_3 = some (.pointer t14_5) ∧
let t21_5 : Int := IntKind.i64.wrap (t20_5 + 1)
SpecH PP z217 [.pointer t14_5, (.agg #[.string t15_3f0, .string t15_3f1]), .int .i64 t21_5] h11 (fun v_11 h12 => ∃ (t22_5 : OA) (t22_5n t22_5c : Nat), v_11 = (.slice t22_5 t22_5n t22_5c) ∧
J1 y40 t2 t3 t22_5 t22_5n t22_5c (t22_5n : Int) 0 Q h12))) ∧
True) ∧
(
SpecH PP z440 [.pointer t19] h (fun v_8 h9 => ∃ (t20_4 : Int), v_8 = (.int .i64 t20_4) ∧
∃ (t14_4 : OA), cellH h9 t12_3 = some (.pointer t14_4) ∧
∃ (t15_2f0 t15_2f1 : ByteArray), rdCells h9 t2 0 [.string t15_2f0, .string t15_2f1] ∧
let t21_4 : Int := IntKind.i64.wrap (t20_4 + 1)
SpecH PP z217 [.pointer t14_4, (.agg #[.string t15_2f0, .string t15_2f1]), .int .i64 t21_4] h9 (fun v_9 h10 => ∃ (t22_4 : OA) (t22_4n t22_4c : Nat), v_9 = (.slice t22_4 t22_4n t22_4c) ∧
J1 y40 t2 t3 t22_4 t22_4n t22_4c (t22_4n : Int) 0 Q h10))) ∧
True)) ∧
(
∃ (t15_1f0 t15_1f1 : ByteArray), rdCells h t2 0 [.string t15_1f0, .string t15_1f1] ∧
(
∃ (t11_2 : OA), cellH h t1 = some (.pointer t11_2) ∧
nilc t11_2 (fun t12_2 =>
(
∃ (t14_3 : OA), cellH h t12_2 = some (.pointer t14_3) ∧
SpecH PP z440 [.pointer t19] h (fun v_6 h7 => ∃ (t20_3 : Int), v_6 = (.int .i64 t20_3) ∧
let t21_3 : Int := IntKind.i64.wrap (t20_3 + 1)
SpecH PP z217 [.pointer t14_3, (.agg #[.string t15_1f0, .string t15_1f1]), .int .i64 t21_3] h7 (fun v_7 h8 => ∃ (t22_3 : OA) (t22_3n t22_3c : Nat), v_7 = (.slice t22_3 t22_3n t22_3c) ∧
J1 y40 t2 t3 t22_3 t22_3n t22_3c (t22_3n : Int) 0 Q h8))) ∧
(
SpecH PP z440 [.pointer t19] h (fun v_4 h5 => ∃ (t20_2 : Int), v_4 = (.int .i64 t20_2) ∧
∃ (t14_2 : OA), cellH h5 t12_2 = some (.pointer t14_2) ∧
let t21_2 : Int := IntKind.i64.wrap (t20_2 + 1)
SpecH PP z217 [.pointer t14_2, (.agg #[.string t15_1f0, .string t15_1f1]), .int .i64 t21_2] h5 (fun v_5 h6 => ∃ (t22_2 : OA) (t22_2n t22_2c : Nat), v_5 = (.slice t22_2 t22_2n t22_2c) ∧
J1 y40 t2 t3 t22_2 t22_2n t22_2c (t22_2n : Int) 0 Q h6))) ∧
True)) ∧
(
SpecH PP z440 [.pointer t19] h (fun v_2 h3 => ∃ (t20_1 : Int), v_2 = (.int .i64 t20_1) ∧
∃ (t11_1 : OA), cellH h3 t1 = some (.pointer t11_1) ∧
nilc t11_1 (fun t12_1 =>
∃ (t14_1 : OA), cellH h3 t12_1 = some (.pointer t14_1) ∧
let t21_1 : Int := IntKind.i64.wrap (t20_1 + 1)
SpecH PP z217 [.pointer t14_1, (.agg #[.string t15_1f0, .string t15_1f1]), .int .i64 t21_1] h3 (fun v_3 h4 => ∃ (t22_1 : OA) (t22_1n t22_1c : Nat), v_3 = (.slice t22_1 t22_1n t22_1c) ∧
J1 y40 t2 t3 t22_1 t22_1n t22_1c (t22_1n : Int) 0 Q h4)))) ∧
True) ∧
(
SpecH PP z440 [.pointer t19] h (fun v h1 => ∃ (t20 : Int), v = (.int .i64 t20) ∧
∃ (t11 : OA), cellH h1 t1 = some (.pointer t11) ∧
nilc t11 (fun t12 =>
∃ (t14 : OA), cellH h1 t12 = some (.pointer t14) ∧
∃ (t15f0 t15f1 : ByteArray), rdCells h1 t2 0 [.string t15f0, .string t15f1] ∧
let t21 : Int := IntKind.i64.wrap (t20 + 1)
SpecH PP z217 [.pointer t14, (.agg #[.string t15f0, .string t15f1]), .int .i64 t21] h1 (fun v_1 h2 => ∃ (t22 : OA) (t22n t22c : Nat), v_1 = (.slice t22 t22n t22c) ∧
J1 y40 t2 t3 t22 t22n t22c (t22n : Int) 0 Q h2)))) ∧
True)) : SpecH PP z427 [y40, (.pointer (some t1)), (.pointer (some t2)), (.pointer (some t3))] h Q :=
  y12 (ann := ann) Tryz.func106 rfl rfl (by kernel_rfl) H
end z426
namespace z216
def ann : Ann := (.seq 21 (rg 2 21) (.seq 149 (rg 1 149) (.seq 128 (.seq 57472 (rg 6 57472) (.block (.loop 57472 (.seq 123008 (rg 1 123008) (.seq 57472 (.cond .leaf (.exit 128)) (.seq 57472 (.block (.seq 57984 (rg 4 57984) (rg 6 57472))) (rg 2 57472))))))) (.seq 64 (rg 2 64) (.exit 64)))))
noncomputable abbrev cd := cdF Tryz.f107
abbrev an := anF ann
@[irreducible] def X0 (out7 : OA) (out7n out7c : Nat) : Fr := (mkFr 0 26 [(7, (.slice out7 out7n out7c))])
@[irreducible] def L1 (out7 : OA) (out7n out7c : Nat) (t13 : OA) (t13n t13c : Nat) (t14 t15 : Int) (K : EP) (h : Heap) : Prop := Lp PP true (cd 116) (mkFr 0 26 [(7, (.slice out7 out7n out7c)), (13, (.slice t13 t13n t13c)), (14, .int .i64 t14), (15, .int .i64 t15)]) K h
@[irreducible] def K2 (Q : VP) : EP := seqK (fun fr h => ev PP true none (cd 15) (an 15) (fr.mask 128) (bodyK PP Tryz.f107 Q) h) (bodyK PP Tryz.f107 Q)
@[irreducible] def K1 (Q : VP) : EP := blockK 0 (K2 Q)
theorem L1_of {out7 : OA} {out7n out7c : Nat} {t13 : OA} {t13n t13c : Nat} {t14 t15 : Int} {K : EP} {h : Heap} (H :
let t16 : Bool := decide (t15 < t14)
br t16 (
hwp PP (Instr.indexAt y14 (.slice t13 t13n t13c) (.int .i64 t15)) (fun v h1 => ∃ (t17 : Addr), v = (.pointer (some t17)) ∧
∃ (t18f0 t18f1 t18f2 : ByteArray), rdCells h1 t17 0 [.string t18f0, .string t18f1, .string t18f2] ∧
let k9 : Addr := ⟨Array.size h1, 0, none⟩
let h2 : Heap := Array.push h1 (.cells #[(.string (⟨#[]⟩ : ByteArray)), (.string (⟨#[]⟩ : ByteArray)), (.string (⟨#[]⟩ : ByteArray))] y23 (0, 0))
wrCells k9 0 [.string t18f0, .string t18f1, .string t18f2] (fun h3 =>
∃ (t21 : ByteArray), cellH h3 (Addr.add k9 2) = some (.string t21) ∧
let h4 : Heap := Array.push h3 (.cells #[.string t21] y29 (0, 0))
hwp PP (Builtin.append_ #[y78, y78] y78 #[(.slice out7 out7n out7c), (.slice (some ⟨Array.size h3, 0, none⟩) 1 1)]) (fun v_1 h5 => ∃ (t23 : OA) (t23n t23c : Nat), v_1 = (.slice t23 t23n t23c) ∧
let t24 : Int := IntKind.i64.wrap (t15 + 1)
L1 t23 t23n t23c t13 t13n t13c t14 t24 K h5) h4) h2) h) (
K (.exit 0) (X0 out7 out7n out7c) h)) : L1 out7 out7n out7c t13 t13n t13c t14 t15 K h := by unfold L1; exact Lp.of_txt (an 116) 57472 (by kernel_rfl) H
theorem L1_X0 {Q : VP} {out7 : OA} {out7n out7c : Nat} {h : Heap} (H :
Q (.slice out7 out7n out7c) h) : (K1 Q) (.exit 0) (X0 out7 out7n out7c) h := y20 (by kernel_rfl) H
theorem door {s0 : OA} {b1f0 b1f1 : ByteArray} {at2 : Int} {Q : VP} {h : Heap} (H :
let b4 : Addr := ⟨Array.size h, 0, none⟩
let h1 : Heap := Array.push h (.cells #[.string b1f0, .string b1f1] y74 (0, 0))
SpecH PP z231 [.pointer s0, .int .i64 at2, (.func (.func z220) #[] #[(.pointer (some b4))])] h1 (fun v h2 => ∃ (t13 : OA) (t13n t13c : Nat), v = (.slice t13 t13n t13c) ∧
L1 none 0 0 t13 t13n t13c (t13n : Int) 0 (K1 Q) h2)) : SpecH PP z217 [.pointer s0, (.agg #[.string b1f0, .string b1f1]), .int .i64 at2] h Q :=
  y12 (ann := ann) Tryz.func107 rfl rfl (by kernel_rfl) H
end z216
namespace z270
def ann : Ann := (.seq 1 (rg 1 1) (.seq 1 (.cond (.seq 4 (rg 4 4) (.exit 4)) .leaf) (.seq 4 (rg 3 4) (.exit 4))))
theorem door {x0 : Int} {Q : VP} {h : Heap} (H :
SpecH PP z275 [.int .u64 x0] h (fun v h1 => ∃ (t7 : Int), v = (.int .i64 t7) ∧
Q (.int .i64 t7) h1)) : SpecH PP z271 [.int .u64 x0] h Q :=
  y12 (ann := ann) Tryz.func109 rfl rfl (by kernel_rfl) H
end z270
namespace z306
def ann : Ann := (.seq 3 (rg 1 3) (.seq 0 (.seq 387 (rg 3 387) (.block (.loop 387 (.seq 899 (rg 1 899) (.seq 387 (.cond .leaf (.exit 0)) (.seq 387 (.block (.seq 419 (rg 2 419) (.seq 65955 (rg 6 65955) (.cond (.seq 16 (rg 2 16) (.exit 16)) .leaf)))) (rg 2 387))))))) (.seq 16 (rg 1 16) (.exit 16))))
noncomputable abbrev cd := cdF Tryz.f111
abbrev an := anF ann
@[irreducible] def Xret (t4 : Int) : Fr := (mkFr 0 19 [(4, .int .i64 t4)])
@[irreducible] def X0  : Fr := (mkFr 0 19 [])
@[irreducible] def L1 (s0 : OA) (s0n s0c : Nat) (f1 : Value) (t7 t8 : Int) (K : EP) (h : Heap) : Prop := Lp PP true (cd 52) (mkFr 0 19 [(0, (.slice s0 s0n s0c)), (1, f1), (7, .int .i64 t7), (8, .int .i64 t8)]) K h
@[irreducible] def K2 (Q : VP) : EP := seqK (fun fr h => ev PP true none (cd 7) (an 7) (fr.mask 0) (bodyK PP Tryz.f111 Q) h) (bodyK PP Tryz.f111 Q)
@[irreducible] def K1 (Q : VP) : EP := blockK 0 (K2 Q)
theorem L1_of {s0 : OA} {s0n s0c : Nat} {f1 : Value} {t7 t8 : Int} {K : EP} {h : Heap} (H :
let t9 : Bool := decide (t8 < t7)
br t9 (
hwp PP (Instr.indexAt T_sl_uint8 (.slice s0 s0n s0c) (.int .i64 t8)) (fun v h1 => ∃ (t14 : Addr), v = (.pointer (some t14)) ∧
∃ (t15 : Int), cellH h1 t14 = some (.int .u8 t15) ∧
callV PP f1 [.int .u8 t15] (fun v_1 h2 => ∃ (t16 : Bool), v_1 = (.bool t16) ∧
br t16 (
K .ret (Xret t8) h2) (
let t18 : Int := IntKind.i64.wrap (t8 + 1)
L1 s0 s0n s0c f1 t7 t18 K h2)) h1) h) (
K (.exit 0) (X0) h)) : L1 s0 s0n s0c f1 t7 t8 K h := by unfold L1; exact Lp.of_txt (an 52) 387 (by kernel_rfl) H
theorem L1_Xret {Q : VP} {t4 : Int} {h : Heap} (H :
Q (.int .i64 t4) h) : (K1 Q) .ret (Xret t4) h := y20 (by kernel_rfl) H
theorem L1_X0 {Q : VP}  {h : Heap} (H :
Q (.int .i64 (-1)) h) : (K1 Q) (.exit 0) (X0 ) h := y20 (by kernel_rfl) H
theorem door {s0 : OA} {s0n s0c : Nat} {f1 : Value} {Q : VP} {h : Heap} (H :
L1 s0 s0n s0c f1 (s0n : Int) 0 (K1 Q) h) : SpecH PP z307 [(.slice s0 s0n s0c), f1] h Q :=
  y12 (ann := ann) Tryz.func111 rfl rfl (by kernel_rfl) H
end z306
namespace z234
def ann : Ann := (.seq 7 (rg 1 7) (.seq 6 (rg 7 6) (.seq 128 (rg 8 128) (.seq 64 (rg 2 64) (.exit 64)))))
theorem door {s0 xl1 : OA} {xl1n xl1c : Nat} {at2 : Int} {Q : VP} {h : Heap} (H :
nilc s0 (fun t11 =>
∃ (t13 : Int), cellH h (Addr.add t11 2) = some (.int .i64 t13) ∧
let t14 : Int := (if t13 > at2 then t13 else at2)
SpecH PP z289 [(.slice xl1 xl1n xl1c), .int .i64 t14, (.func (.func z237) #[] #[])] h (fun v h1 => ∃ (t18 : Int) (t18_1 : Bool), v = (.tuple #[.int .i64 t18, .bool t18_1]) ∧
Q (.int .i64 t18) h1))) : SpecH PP z235 [.pointer s0, (.slice xl1 xl1n xl1c), .int .i64 at2] h Q :=
  y12 (ann := ann) Tryz.func112 rfl rfl (by kernel_rfl) H
end z234
namespace z290
def ann : Ann := (.seq 1 (rg 1 1) (.seq 1 (.seq 17 (rg 2 17) (.cond (.seq 4 (rg 1 4) (.exit 4)) .leaf)) (.seq 4 (rg 4 4) (.exit 4))))
theorem door {s0 : OA} {s0n s0c : Nat} {Q : VP} {h : Heap} (H :
let t4 : Bool := (Option.isNone s0)
br t4 (
Q (.slice none 0 0) h) (
let h1 : Heap := Array.push h (.cells #[] y41 (0, 0))
hwp PP (Builtin.append_ #[y19, y19] y19 #[(.slice (some ⟨Array.size h, 0, none⟩) 0 0), (.slice s0 s0n s0c)]) (fun v h2 => ∃ (t7 : OA) (t7n t7c : Nat), v = (.slice t7 t7n t7c) ∧
Q (.slice t7 t7n t7c) h2) h1)) : SpecH PP z291 [(.slice s0 s0n s0c)] h Q :=
  y12 (ann := ann) Tryz.func113 rfl rfl (by kernel_rfl) H
end z290
namespace z302
def ann : Ann := (.seq 3 (rg 1 3) (.seq 0 (.seq 387 (rg 3 387) (.block (.loop 387 (.seq 899 (rg 1 899) (.seq 387 (.cond .leaf (.exit 0)) (.seq 387 (.block (.seq 419 (rg 2 419) (.seq 65955 (rg 6 65955) (.cond (.seq 16 (rg 2 16) (.exit 16)) .leaf)))) (rg 2 387))))))) (.seq 16 (rg 1 16) (.exit 16))))
noncomputable abbrev cd := cdF Tryz.f114
abbrev an := anF ann
@[irreducible] def Xret (t4 : Int) : Fr := (mkFr 0 19 [(4, .int .i64 t4)])
@[irreducible] def X0  : Fr := (mkFr 0 19 [])
@[irreducible] def L1 (s0 : OA) (s0n s0c : Nat) (f1 : Value) (t7 t8 : Int) (K : EP) (h : Heap) : Prop := Lp PP true (cd 52) (mkFr 0 19 [(0, (.slice s0 s0n s0c)), (1, f1), (7, .int .i64 t7), (8, .int .i64 t8)]) K h
@[irreducible] def K2 (Q : VP) : EP := seqK (fun fr h => ev PP true none (cd 7) (an 7) (fr.mask 0) (bodyK PP Tryz.f114 Q) h) (bodyK PP Tryz.f114 Q)
@[irreducible] def K1 (Q : VP) : EP := blockK 0 (K2 Q)
theorem L1_of {s0 : OA} {s0n s0c : Nat} {f1 : Value} {t7 t8 : Int} {K : EP} {h : Heap} (H :
let t9 : Bool := decide (t8 < t7)
br t9 (
hwp PP (Instr.indexAt y88 (.slice s0 s0n s0c) (.int .i64 t8)) (fun v h1 => ∃ (t14 : Addr), v = (.pointer (some t14)) ∧
∃ (t15f0 : Int) (t15f1 : OA) (t15f1n t15f1c : Nat), rdCells h1 t14 0 [.int .i64 t15f0, (.slice t15f1 t15f1n t15f1c)] ∧
callV PP f1 [(.agg #[.int .i64 t15f0, (.slice t15f1 t15f1n t15f1c)])] (fun v_1 h2 => ∃ (t16 : Bool), v_1 = (.bool t16) ∧
br t16 (
K .ret (Xret t8) h2) (
let t18 : Int := IntKind.i64.wrap (t8 + 1)
L1 s0 s0n s0c f1 t7 t18 K h2)) h1) h) (
K (.exit 0) (X0) h)) : L1 s0 s0n s0c f1 t7 t8 K h := by unfold L1; exact Lp.of_txt (an 52) 387 (by kernel_rfl) H
theorem L1_Xret {Q : VP} {t4 : Int} {h : Heap} (H :
Q (.int .i64 t4) h) : (K1 Q) .ret (Xret t4) h := y20 (by kernel_rfl) H
theorem L1_X0 {Q : VP}  {h : Heap} (H :
Q (.int .i64 (-1)) h) : (K1 Q) (.exit 0) (X0 ) h := y20 (by kernel_rfl) H
theorem door {s0 : OA} {s0n s0c : Nat} {f1 : Value} {Q : VP} {h : Heap} (H :
L1 s0 s0n s0c f1 (s0n : Int) 0 (K1 Q) h) : SpecH PP z303 [(.slice s0 s0n s0c), f1] h Q :=
  y12 (ann := ann) Tryz.func114 rfl rfl (by kernel_rfl) H
end z302
namespace z292
def ann : Ann := (.seq 1 (rg 1 1) (.seq 4 (rg 3 4) (.exit 4)))
theorem door {seq0 : Value} {Q : VP} {h : Heap} (H :
SpecH PP z287 [(.slice none 0 0), seq0] h (fun v h1 => ∃ (t4 : OA) (t4n t4c : Nat), v = (.slice t4 t4n t4c) ∧
Q (.slice t4 t4n t4c) h1)) : SpecH PP z293 [seq0] h Q :=
  y12 (ann := ann) Tryz.func115 rfl rfl (by kernel_rfl) H
end z292
namespace z312
def ann : Ann := (.seq 19 (rg 3 19) (rg 7 0))
theorem door {x0 : OA} {x0n x0c : Nat} {cmp1 : Value} {Q : VP} {h : Heap} (H :
let t10 : Int := IntKind.u64.wrap (x0n : Int)
SpecH PP z271 [.int .u64 t10] h (fun v h1 => ∃ (t11 : Int), v = (.int .i64 t11) ∧
SpecH PP z361 [(.slice x0 x0n x0c), .int .i64 0, (.int .i64 (x0n : Int)), .int .i64 t11, cmp1] h1 (fun v_1 h2 => v_1 = (.tuple #[]) ∧
Q (.tuple #[]) h2))) : SpecH PP z313 [(.slice x0 x0n x0c), cmp1] h Q :=
  y12 (ann := ann) Tryz.func116 rfl rfl (by kernel_rfl) H
end z312
namespace z268
def ann : Ann := (.seq 65 (rg 2 65) (.block (.loop 65 (.seq 321 (rg 2 321) (.seq 65 (.cond .leaf (.exit 0)) (.block (.seq 81 (rg 4 81) (.seq 16449 (rg 4 16449) (.cond (.exit 0) .leaf)))))))))
noncomputable abbrev cd := cdF Tryz.f117
abbrev an := anF ann
@[irreducible] def Xret  : Fr := (mkFr 0 15 [])
@[irreducible] def X0  : Fr := (mkFr 0 15 [])
@[irreducible] def L1 (y40 t6 : Value) (K : EP) (h : Heap) : Prop := Lp PP true (cd 12) (mkFr 0 15 [(0, y40), (6, t6)]) K h
@[irreducible] def K1 (Q : VP) : EP := blockK 0 (bodyK PP Tryz.f117 Q)
theorem L1_of {y40 t6 : Value} {K : EP} {h : Heap} (H :
hwp PP (Instr.next t6 false T_) (fun v h1 => ∃ (b : Bool) (r : List Value), v = .tuple ((.bool b :: r).toArray) ∧
br b (
hwp PP (Instr.entry t6) (fun v_1 h2 => ∃ (t9 t9_1 : Value), v_1 = (.tuple #[t9, t9_1]) ∧
∃ (t10f0 t10f1 t10f2 : ByteArray) (t10f3 : Bool) (t10f4 : ByteArray), t9_1 = (.agg #[.string t10f0, .string t10f1, .string t10f2, .bool t10f3, .string t10f4]) ∧
let v4 : Addr := ⟨Array.size h2, 0, none⟩
let h3 : Heap := Array.push h2 (.cells #[(.string (⟨#[]⟩ : ByteArray)), (.string (⟨#[]⟩ : ByteArray)), (.string (⟨#[]⟩ : ByteArray)), .bool false, (.string (⟨#[]⟩ : ByteArray))] y25 (0, 0))
wrCells v4 0 [.string t10f0, .string t10f1, .string t10f2, .bool t10f3, .string t10f4] (fun h4 =>
∃ (t12f0 t12f1 t12f2 : ByteArray) (t12f3 : Bool) (t12f4 : ByteArray), rdCells h4 v4 0 [.string t12f0, .string t12f1, .string t12f2, .bool t12f3, .string t12f4] ∧
callV PP y40 [(.agg #[.string t12f0, .string t12f1, .string t12f2, .bool t12f3, .string t12f4])] (fun v_2 h5 => ∃ (t13 : Bool), v_2 = (.bool t13) ∧
let t14 : Bool := (!t13)
br t14 (
K .ret (Xret) h5) (
L1 y40 t6 K h5)) h4) h3) h1) (
K (.exit 0) (X0) h1)) h) : L1 y40 t6 K h := by unfold L1; exact Lp.of_txt (an 12) 65 (by kernel_rfl) H
theorem L1_X0 {Q : VP}  {h : Heap} (H :
Q (.tuple #[]) h) : (K1 Q) (.exit 0) (X0 ) h := y20 (by kernel_rfl) H
theorem door {y40 : Value} {t1 : Addr} {Q : VP} {h : Heap} (H :
∃ (t5 : ON), cellH h t1 = some (.map t5) ∧
hwp PP (Instr.range y38 (.map t5)) (fun v h1 => ∃ (t6 : Value), v = t6 ∧
L1 y40 t6 (K1 Q) h1) h) : SpecH PP z269 [y40, (.pointer (some t1))] h Q :=
  y12 (ann := ann) Tryz.func117 rfl rfl (by kernel_rfl) H
end z268
namespace z244
def ann : Ann := (.seq 1 (rg 1 1) (.seq 4 (rg 4 4) (.exit 4)))
theorem door {x0 : ByteArray} {Q : VP} {h : Heap} (H :
let t5 : Bool := (!decide (x0 = x0))
Q (.bool t5) h) : SpecH PP z245 [.string x0] h Q :=
  y12 (ann := ann) Tryz.func118 rfl rfl (by kernel_rfl) H
end z244
namespace z304
def ann : Ann := (.seq 3 (rg 1 3) (.seq 0 (.seq 387 (rg 3 387) (.block (.loop 387 (.seq 899 (rg 1 899) (.seq 387 (.cond .leaf (.exit 0)) (.seq 387 (.block (.seq 419 (rg 2 419) (.seq 65955 (rg 6 65955) (.cond (.seq 16 (rg 2 16) (.exit 16)) .leaf)))) (rg 2 387))))))) (.seq 16 (rg 1 16) (.exit 16))))
noncomputable abbrev cd := cdF Tryz.f119
abbrev an := anF ann
@[irreducible] def Xret (t4 : Int) : Fr := (mkFr 0 19 [(4, .int .i64 t4)])
@[irreducible] def X0  : Fr := (mkFr 0 19 [])
@[irreducible] def L1 (s0 : OA) (s0n s0c : Nat) (f1 : Value) (t7 t8 : Int) (K : EP) (h : Heap) : Prop := Lp PP true (cd 52) (mkFr 0 19 [(0, (.slice s0 s0n s0c)), (1, f1), (7, .int .i64 t7), (8, .int .i64 t8)]) K h
@[irreducible] def K2 (Q : VP) : EP := seqK (fun fr h => ev PP true none (cd 7) (an 7) (fr.mask 0) (bodyK PP Tryz.f119 Q) h) (bodyK PP Tryz.f119 Q)
@[irreducible] def K1 (Q : VP) : EP := blockK 0 (K2 Q)
theorem L1_of {s0 : OA} {s0n s0c : Nat} {f1 : Value} {t7 t8 : Int} {K : EP} {h : Heap} (H :
let t9 : Bool := decide (t8 < t7)
br t9 (
hwp PP (Instr.indexAt y11 (.slice s0 s0n s0c) (.int .i64 t8)) (fun v h1 => ∃ (t14 : Addr), v = (.pointer (some t14)) ∧
∃ (t15f0 t15f1 t15f2 : ByteArray) (t15f3 : Bool) (t15f4 : ByteArray), rdCells h1 t14 0 [.string t15f0, .string t15f1, .string t15f2, .bool t15f3, .string t15f4] ∧
callV PP f1 [(.agg #[.string t15f0, .string t15f1, .string t15f2, .bool t15f3, .string t15f4])] (fun v_1 h2 => ∃ (t16 : Bool), v_1 = (.bool t16) ∧
br t16 (
K .ret (Xret t8) h2) (
let t18 : Int := IntKind.i64.wrap (t8 + 1)
L1 s0 s0n s0c f1 t7 t18 K h2)) h1) h) (
K (.exit 0) (X0) h)) : L1 s0 s0n s0c f1 t7 t8 K h := by unfold L1; exact Lp.of_txt (an 52) 387 (by kernel_rfl) H
theorem L1_Xret {Q : VP} {t4 : Int} {h : Heap} (H :
Q (.int .i64 t4) h) : (K1 Q) .ret (Xret t4) h := y20 (by kernel_rfl) H
theorem L1_X0 {Q : VP}  {h : Heap} (H :
Q (.int .i64 (-1)) h) : (K1 Q) (.exit 0) (X0 ) h := y20 (by kernel_rfl) H
theorem door {s0 : OA} {s0n s0c : Nat} {f1 : Value} {Q : VP} {h : Heap} (H :
L1 s0 s0n s0c f1 (s0n : Int) 0 (K1 Q) h) : SpecH PP z305 [(.slice s0 s0n s0c), f1] h Q :=
  y12 (ann := ann) Tryz.func119 rfl rfl (by kernel_rfl) H
end z304
namespace z308
def ann : Ann := (.seq 3 (rg 1 3) (.seq 0 (.seq 387 (rg 3 387) (.block (.loop 387 (.seq 899 (rg 1 899) (.seq 387 (.cond .leaf (.exit 0)) (.seq 387 (.block (.seq 419 (rg 2 419) (.seq 65955 (rg 6 65955) (.cond (.seq 16 (rg 2 16) (.exit 16)) .leaf)))) (rg 2 387))))))) (.seq 16 (rg 1 16) (.exit 16))))
noncomputable abbrev cd := cdF Tryz.f120
abbrev an := anF ann
@[irreducible] def Xret (t4 : Int) : Fr := (mkFr 0 19 [(4, .int .i64 t4)])
@[irreducible] def X0  : Fr := (mkFr 0 19 [])
@[irreducible] def L1 (s0 : OA) (s0n s0c : Nat) (f1 : Value) (t7 t8 : Int) (K : EP) (h : Heap) : Prop := Lp PP true (cd 52) (mkFr 0 19 [(0, (.slice s0 s0n s0c)), (1, f1), (7, .int .i64 t7), (8, .int .i64 t8)]) K h
@[irreducible] def K2 (Q : VP) : EP := seqK (fun fr h => ev PP true none (cd 7) (an 7) (fr.mask 0) (bodyK PP Tryz.f120 Q) h) (bodyK PP Tryz.f120 Q)
@[irreducible] def K1 (Q : VP) : EP := blockK 0 (K2 Q)
theorem L1_of {s0 : OA} {s0n s0c : Nat} {f1 : Value} {t7 t8 : Int} {K : EP} {h : Heap} (H :
let t9 : Bool := decide (t8 < t7)
br t9 (
hwp PP (Instr.indexAt y78 (.slice s0 s0n s0c) (.int .i64 t8)) (fun v h1 => ∃ (t14 : Addr), v = (.pointer (some t14)) ∧
∃ (t15 : ByteArray), cellH h1 t14 = some (.string t15) ∧
callV PP f1 [.string t15] (fun v_1 h2 => ∃ (t16 : Bool), v_1 = (.bool t16) ∧
br t16 (
K .ret (Xret t8) h2) (
let t18 : Int := IntKind.i64.wrap (t8 + 1)
L1 s0 s0n s0c f1 t7 t18 K h2)) h1) h) (
K (.exit 0) (X0) h)) : L1 s0 s0n s0c f1 t7 t8 K h := by unfold L1; exact Lp.of_txt (an 52) 387 (by kernel_rfl) H
theorem L1_Xret {Q : VP} {t4 : Int} {h : Heap} (H :
Q (.int .i64 t4) h) : (K1 Q) .ret (Xret t4) h := y20 (by kernel_rfl) H
theorem L1_X0 {Q : VP}  {h : Heap} (H :
Q (.int .i64 (-1)) h) : (K1 Q) (.exit 0) (X0 ) h := y20 (by kernel_rfl) H
theorem door {s0 : OA} {s0n s0c : Nat} {f1 : Value} {Q : VP} {h : Heap} (H :
L1 s0 s0n s0c f1 (s0n : Int) 0 (K1 Q) h) : SpecH PP z309 [(.slice s0 s0n s0c), f1] h Q :=
  y12 (ann := ann) Tryz.func120 rfl rfl (by kernel_rfl) H
end z308
namespace z378
def ann : Ann := (.seq 3 (rg 1 3) (.seq 16 (rg 4 16) (.exit 16)))
theorem door {s0 sep1 : ByteArray} {Q : VP} {h : Heap} (H :
SpecH PP z383 [.string s0, .string sep1, .int .i64 0] h (fun v h1 => ∃ (t7 : Value), v = t7 ∧
Q t7 h1)) : SpecH PP z379 [.string s0, .string sep1] h Q :=
  y12 (ann := ann) Tryz.func121 rfl rfl (by kernel_rfl) H
end z378
namespace z374
def ann : Ann := (.seq 3 (rg 1 3) (.seq 16 (rg 4 16) (.exit 16)))
theorem door {s0 : ByteArray} {f1 : Value} {Q : VP} {h : Heap} (H :
SpecH PP z381 [.string s0, f1, .bool true] h (fun v h1 => ∃ (t7 : Int), v = (.int .i64 t7) ∧
Q (.int .i64 t7) h1)) : SpecH PP z375 [.string s0, f1] h Q :=
  y12 (ann := ann) Tryz.func122 rfl rfl (by kernel_rfl) H
end z374
namespace z461
def ann : Ann := (.seq 1 (rg 1 1) (.seq 4 (rg 4 4) (.exit 4)))
theorem door {c0 : Int} {Q : VP} {h : Heap} (H :
SpecH PP z373 [(.string (⟨#[97, 98, 99, 100, 101, 102, 103, 104, 105, 106, 107, 108, 109, 110, 111, 112, 113, 114, 115, 116, 117, 118, 119, 120, 121, 122, 48, 49, 50, 51, 52, 53, 54, 55, 56, 57, 46, 95, 45, 47]⟩ : ByteArray)), .int .i32 c0] h (fun v h1 => ∃ (t4 : Bool), v = (.bool t4) ∧
let t5 : Bool := (!t4)
Q (.bool t5) h1)) : SpecH PP z462 [.int .i32 c0] h Q :=
  y12 (ann := ann) Tryz.func123 rfl rfl (by kernel_rfl) H
end z461
namespace z372
def ann : Ann := (.seq 3 (rg 1 3) (.seq 16 (rg 5 16) (.exit 16)))
theorem door {s0 : ByteArray} {r1 : Int} {Q : VP} {h : Heap} (H :
SpecH PP z377 [.string s0, .int .i32 r1] h (fun v h1 => ∃ (t7 : Int), v = (.int .i64 t7) ∧
let t8 : Bool := decide (t7 ≥ 0)
Q (.bool t8) h1)) : SpecH PP z373 [.string s0, .int .i32 r1] h Q :=
  y12 (ann := ann) Tryz.func124 rfl rfl (by kernel_rfl) H
end z372
namespace z310
def ann : Ann := (.seq 19 (rg 3 19) (rg 7 0))
theorem door {x0 : OA} {x0n x0c : Nat} {cmp1 : Value} {Q : VP} {h : Heap} (H :
let t10 : Int := IntKind.u64.wrap (x0n : Int)
SpecH PP z271 [.int .u64 t10] h (fun v h1 => ∃ (t11 : Int), v = (.int .i64 t11) ∧
SpecH PP z359 [(.slice x0 x0n x0c), .int .i64 0, (.int .i64 (x0n : Int)), .int .i64 t11, cmp1] h1 (fun v_1 h2 => v_1 = (.tuple #[]) ∧
Q (.tuple #[]) h2))) : SpecH PP z311 [(.slice x0 x0n x0c), cmp1] h Q :=
  y12 (ann := ann) Tryz.func125 rfl rfl (by kernel_rfl) H
end z310
namespace z232
def ann : Ann := (.seq 12 (rg 3 12) (.seq 16 (rg 18 16) (.exit 16)))
theorem door {a0f0 a0f1 a0f2 b1f0 b1f1 b1f2 : ByteArray} {Q : VP} {h : Heap} (H :
let a2 : Addr := ⟨Array.size h, 0, none⟩
let h1 : Heap := Array.push h (.cells #[.string a0f0, .string a0f1, .string a0f2] y23 (0, 0))
let b3 : Addr := ⟨Array.size h1, 0, none⟩
let h2 : Heap := Array.push h1 (.cells #[.string b1f0, .string b1f1, .string b1f2] y23 (0, 0))
∃ (t6 : ByteArray), cellH h2 a2 = some (.string t6) ∧
∃ (t8 : ByteArray), cellH h2 b3 = some (.string t8) ∧
∃ v, PureAt PP z239 [.string t6, .string t8] v ∧
∃ (t9 : Int), v = (.int .i64 t9) ∧
∃ (t11 : ByteArray), cellH h2 (Addr.add a2 1) = some (.string t11) ∧
∃ (t13 : ByteArray), cellH h2 (Addr.add b3 1) = some (.string t13) ∧
∃ v_1, PureAt PP z239 [.string t11, .string t13] v_1 ∧
∃ (t14 : Int), v_1 = (.int .i64 t14) ∧
∃ (t16 : ByteArray), cellH h2 (Addr.add a2 2) = some (.string t16) ∧
∃ (t18 : ByteArray), cellH h2 (Addr.add b3 2) = some (.string t18) ∧
∃ v_2, PureAt PP z239 [.string t16, .string t18] v_2 ∧
∃ (t19 : Int), v_2 = (.int .i64 t19) ∧
let h3 : Heap := Array.push h2 (.cells #[.int .i64 t9, .int .i64 t14, .int .i64 t19] y63 (0, 0))
SpecH PP z243 [(.slice (some ⟨Array.size h2, 0, none⟩) 3 3)] h3 (fun v_3 h4 => ∃ (t21 : Int), v_3 = (.int .i64 t21) ∧
Q (.int .i64 t21) h4)) : SpecH PP z233 [(.agg #[.string a0f0, .string a0f1, .string a0f2]), (.agg #[.string b1f0, .string b1f1, .string b1f2])] h Q :=
  y12 (ann := ann) Tryz.func126 rfl rfl (by kernel_rfl) H
end z232
namespace z219
def ann : Ann := (.seq 6 (rg 2 6) (.seq 8 (rg 13 8) (.exit 8)))
theorem door {k0f0 k0f1 k0f2 : ByteArray} {t1 : Addr} {Q : VP} {h : Heap} (H :
let k2 : Addr := ⟨Array.size h, 0, none⟩
let h1 : Heap := Array.push h (.cells #[.string k0f0, .string k0f1, .string k0f2] y23 (0, 0))
∃ (t5 : ByteArray), cellH h1 k2 = some (.string t5) ∧
∃ (t7 : ByteArray), cellH h1 t1 = some (.string t7) ∧
let t8 : Bool := decide (t5 = t7)
br t8 (
∃ (t11 : ByteArray), cellH h1 (Addr.add k2 1) = some (.string t11) ∧
∃ (t13 : ByteArray), cellH h1 (Addr.add t1 1) = some (.string t13) ∧
let t14 : Bool := decide (t11 = t13)
Q (.bool t14) h1) (
Q (.bool false) h1)) : SpecH PP z220 [(.agg #[.string k0f0, .string k0f1, .string k0f2]), (.pointer (some t1))] h Q :=
  y12 (ann := ann) Tryz.func131 rfl rfl (by kernel_rfl) H
end z219
namespace z240
end z240
namespace z272
end z272
namespace z274
def ann : Ann := (.seq 5 (rg 1 5) (.seq 5 (.seq 21 (rg 2 21) (.cond (.seq 1 (rg 3 1) (rg 1 5)) .leaf)) (.join (.seq 5 (.seq 261 (rg 2 261) (.cond (.seq 5 (rg 3 5) (rg 3 5)) .leaf)) (.join (.seq 5 (.seq 16389 (rg 2 16389) (.cond (.seq 5 (rg 3 5) (rg 3 5)) .leaf)) (.join (.seq 4 (rg 7 4) (.exit 4)))))))))
noncomputable abbrev cd := cdF Tryz.f142
abbrev an := anF ann
@[irreducible] def J1 (x0 xn2 : Int) (Q : VP) (h : Heap) : Prop := Jn PP true (cd 7) (mkFr 0 25 [(0, .int .u64 x0), (2, .int .i64 xn2)]) (bodyK PP Tryz.f142 Q) h
@[irreducible] def J2 (x0 xn2 : Int) (Q : VP) (h : Heap) : Prop := Jn PP true (cd 15) (mkFr 0 25 [(0, .int .u64 x0), (2, .int .i64 xn2)]) (bodyK PP Tryz.f142 Q) h
@[irreducible] def J3 (x0 xn2 : Int) (Q : VP) (h : Heap) : Prop := Jn PP true (cd 31) (mkFr 0 25 [(0, .int .u64 x0), (2, .int .i64 xn2)]) (bodyK PP Tryz.f142 Q) h
theorem J1_of {x0 xn2 : Int} {Q : VP} {h : Heap} (H :
let t8 : Bool := decide (x0 ≥ 65536)
br t8 (
let t10 : Int := sShr .u64 x0 16
let t12 : Int := IntKind.i64.wrap (xn2 + 16)
J2 t10 t12 Q h) (
J2 x0 xn2 Q h)) : J1 x0 xn2 Q h := by unfold J1; exact Jn.of_txt (an 7) (by kernel_rfl) H
theorem J2_of {x0 xn2 : Int} {Q : VP} {h : Heap} (H :
let t14 : Bool := decide (x0 ≥ 256)
br t14 (
let t16 : Int := sShr .u64 x0 8
let t18 : Int := IntKind.i64.wrap (xn2 + 8)
J3 t16 t18 Q h) (
J3 x0 xn2 Q h)) : J2 x0 xn2 Q h := by unfold J2; exact Jn.of_txt (an 15) (by kernel_rfl) H
theorem J3_of {x0 xn2 : Int} {Q : VP} {h : Heap} (H :
let t21 : Int := IntKind.u8.wrap x0
hwp PP (Instr.index y29 (.string (⟨#[0, 1, 2, 2, 3, 3, 3, 3, 4, 4, 4, 4, 4, 4, 4, 4, 5, 5, 5, 5, 5, 5, 5, 5, 5, 5, 5, 5, 5, 5, 5, 5, 6, 6, 6, 6, 6, 6, 6, 6, 6, 6, 6, 6, 6, 6, 6, 6, 6, 6, 6, 6, 6, 6, 6, 6, 6, 6, 6, 6, 6, 6, 6, 6, 7, 7, 7, 7, 7, 7, 7, 7, 7, 7, 7, 7, 7, 7, 7, 7, 7, 7, 7, 7, 7, 7, 7, 7, 7, 7, 7, 7, 7, 7, 7, 7, 7, 7, 7, 7, 7, 7, 7, 7, 7, 7, 7, 7, 7, 7, 7, 7, 7, 7, 7, 7, 7, 7, 7, 7, 7, 7, 7, 7, 7, 7, 7, 7, 8, 8, 8, 8, 8, 8, 8, 8, 8, 8, 8, 8, 8, 8, 8, 8, 8, 8, 8, 8, 8, 8, 8, 8, 8, 8, 8, 8, 8, 8, 8, 8, 8, 8, 8, 8, 8, 8, 8, 8, 8, 8, 8, 8, 8, 8, 8, 8, 8, 8, 8, 8, 8, 8, 8, 8, 8, 8, 8, 8, 8, 8, 8, 8, 8, 8, 8, 8, 8, 8, 8, 8, 8, 8, 8, 8, 8, 8, 8, 8, 8, 8, 8, 8, 8, 8, 8, 8, 8, 8, 8, 8, 8, 8, 8, 8, 8, 8, 8, 8, 8, 8, 8, 8, 8, 8, 8, 8, 8, 8, 8, 8, 8, 8, 8, 8, 8, 8, 8, 8, 8, 8, 8, 8, 8, 8, 8, 8]⟩ : ByteArray)) (.int .u8 t21)) (fun v h1 => ∃ (t22 : Int), v = (.int .u8 t22) ∧
let t23 : Int := IntKind.i64.wrap t22
let t24 : Int := IntKind.i64.wrap (xn2 + t23)
Q (.int .i64 t24) h1) h) : J3 x0 xn2 Q h := by unfold J3; exact Jn.of_txt (an 31) (by kernel_rfl) H
theorem door {x0 : Int} {Q : VP} {h : Heap} (H :
let t4 : Bool := decide (x0 ≥ 4294967296)
br t4 (
let t6 : Int := sShr .u64 x0 32
J1 t6 32 Q h) (
J1 x0 0 Q h)) : SpecH PP z275 [.int .u64 x0] h Q :=
  y12 (ann := ann) Tryz.func142 rfl rfl (by kernel_rfl) H
end z274
namespace z288
def ann : Ann := (.seq 7 (rg 2 7) (.seq 263 (rg 3 263) (.seq 1799 (rg 3 1799) (.seq 775 (.block (.loop 1799 (.seq 1799 (.seq 132871 (rg 3 132871) (.cond .leaf (.exit 775))) (.block (.seq 3847 (rg 7 3847) (.seq 2147487495 (rg 8 2147487495) (.cond (rg 3 1799) (rg 2 1799)))))))) (.seq 192 (rg 16 192) (.exit 192))))))
noncomputable abbrev cd := cdF Tryz.f152
abbrev an := anF ann
@[irreducible] def X0 (x0 : OA) (x0n x0c : Nat) (y129 : Int) (cmp2 : Value) (xn8 i9 : Int) : Fr := (mkFr 0 49 [(0, (.slice x0 x0n x0c)), (1, .int .i64 y129), (2, cmp2), (8, .int .i64 xn8), (9, .int .i64 i9)])
@[irreducible] def L1 (x0 : OA) (x0n x0c : Nat) (y129 : Int) (cmp2 : Value) (xn8 i9 j10 : Int) (K : EP) (h : Heap) : Prop := Lp PP true (cd 120) (mkFr 0 49 [(0, (.slice x0 x0n x0c)), (1, .int .i64 y129), (2, cmp2), (8, .int .i64 xn8), (9, .int .i64 i9), (10, .int .i64 j10)]) K h
@[irreducible] def K2 (Q : VP) : EP := seqK (fun fr h => ev PP true none (cd 31) (an 31) (fr.mask 775) (bodyK PP Tryz.f152 Q) h) (bodyK PP Tryz.f152 Q)
@[irreducible] def K1 (Q : VP) : EP := blockK 0 (K2 Q)
theorem L1_of {x0 : OA} {x0n x0c : Nat} {y129 : Int} {cmp2 : Value} {xn8 i9 j10 : Int} {K : EP} {h : Heap} (H :
let t17 : Bool := decide (i9 < j10)
br t17 (
let t20 : Int := IntKind.i64.wrap (i9 + j10)
let t21 : Int := IntKind.u64.wrap t20
let t22 : Int := sShr .u64 t21 1
let t23 : Int := IntKind.i64.wrap t22
hwp PP (Instr.indexAt y19 (.slice x0 x0n x0c) (.int .i64 t23)) (fun v h1 => ∃ (t27 : Addr), v = (.pointer (some t27)) ∧
∃ (t28f0 : Int) (t28f1 : Bool) (t28f2 : ByteArray), rdCells h1 t27 0 [.int .i64 t28f0, .bool t28f1, .string t28f2] ∧
callV PP cmp2 [(.agg #[.int .i64 t28f0, .bool t28f1, .string t28f2]), .int .i64 y129] (fun v_1 h2 => ∃ (t30 : Int), v_1 = (.int .i64 t30) ∧
let t31 : Bool := decide (t30 < 0)
br t31 (
let t33 : Int := IntKind.i64.wrap (t23 + 1)
L1 x0 x0n x0c y129 cmp2 xn8 t33 j10 K h2) (
L1 x0 x0n x0c y129 cmp2 xn8 i9 t23 K h2)) h1) h) (
K (.exit 0) (X0 x0 x0n x0c y129 cmp2 xn8 i9) h)) : L1 x0 x0n x0c y129 cmp2 xn8 i9 j10 K h := by unfold L1; exact Lp.of_txt (an 120) 1799 (by kernel_rfl) H
theorem L1_X0 {Q : VP} {x0 : OA} {x0n x0c : Nat} {y129 : Int} {cmp2 : Value} {xn8 i9 : Int} {h : Heap} (H :
let t38 : Bool := decide (i9 < xn8)
br t38 (
hwp PP (Instr.indexAt y19 (.slice x0 x0n x0c) (.int .i64 i9)) (fun v h1 => ∃ (t43 : Addr), v = (.pointer (some t43)) ∧
∃ (t44f0 : Int) (t44f1 : Bool) (t44f2 : ByteArray), rdCells h1 t43 0 [.int .i64 t44f0, .bool t44f1, .string t44f2] ∧
callV PP cmp2 [(.agg #[.int .i64 t44f0, .bool t44f1, .string t44f2]), .int .i64 y129] (fun v_1 h2 => ∃ (t46 : Int), v_1 = (.int .i64 t46) ∧
let t47 : Bool := (t46 == 0)
Q (.tuple #[.int .i64 i9, .bool t47]) h2) h1) h) (
Q (.tuple #[.int .i64 i9, .bool false]) h)) : (K1 Q) (.exit 0) (X0 x0 x0n x0c y129 cmp2 xn8 i9) h := y20 (by kernel_rfl) H
theorem door {x0 : OA} {x0n x0c : Nat} {y129 : Int} {cmp2 : Value} {Q : VP} {h : Heap} (H :
L1 x0 x0n x0c y129 cmp2 (x0n : Int) 0 (x0n : Int) (K1 Q) h) : SpecH PP z289 [(.slice x0 x0n x0c), .int .i64 y129, cmp2] h Q :=
  y12 (ann := ann) Tryz.func152 rfl rfl (by kernel_rfl) H
end z288
namespace z236
def ann : Ann := (.seq 6 (rg 2 6) (.seq 0 (.seq 256 (rg 4 256) (.cond (.seq 16 (rg 1 16) (.exit 16)) .leaf)) (.seq 16 (rg 1 16) (.exit 16))))
theorem door {v0f0 : Int} {v0f1 : Bool} {v0f2 : ByteArray} {at1 : Int} {Q : VP} {h : Heap} (H :
let v2 : Addr := ⟨Array.size h, 0, none⟩
let h1 : Heap := Array.push h (.cells #[.int .i64 v0f0, .bool v0f1, .string v0f2] y41 (0, 0))
∃ (t6 : Int), cellH h1 v2 = some (.int .i64 t6) ∧
let t8 : Bool := decide (t6 ≤ at1)
br t8 (
Q (.int .i64 (-1)) h1) (
Q (.int .i64 1) h1)) : SpecH PP z237 [(.agg #[.int .i64 v0f0, .bool v0f1, .string v0f2]), .int .i64 at1] h Q :=
  y12 (ann := ann) Tryz.func153 rfl rfl (by kernel_rfl) H
end z236

end Go.Proofs.YtglcanljknjcfaaGreatDoor
