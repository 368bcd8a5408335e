/-
  Printed by a program: for each Go function a proposition that says what it comes to, and the proof that the code comes to it. No condition beyond what each theorem states.
-/
import Derived.Test.YtogmnhdadggnbaaDoorProg
import Derived.Test.YtogmnhdadggnbaaDoorSh
set_option linter.unusedVariables false
set_option maxRecDepth 100000
namespace Go.Proofs.YtogmnhdadggnbaaDoor.F
open Go Go.RowKit Go.Proofs.YtogmnhdadggnbaaDoor Go.Proofs.YtogmnhdadggnbaaDoor.Sh

noncomputable abbrev Pg : Program := Tryd.prog
abbrev law17_ImageWrites.N : FuncId := 3
abbrev law17_ImageReads.N : FuncId := 4
abbrev law17_ImageOne.N : FuncId := 5
abbrev law17_alive.N : FuncId := 6
abbrev law17_Image_great.N : FuncId := 7
abbrev image_Body.N : FuncId := 8
abbrev law17_Image_theirs.N : FuncId := 9
abbrev ref17_Body.N : FuncId := 10
abbrev law17_Image_ref.N : FuncId := 11
abbrev ref01_Same.N : FuncId := 12
abbrev image_Right.N : FuncId := 13
abbrev ref17_Right.N : FuncId := 14
abbrev image_Size.N : FuncId := 15
abbrev ref17_Size.N : FuncId := 16
abbrev image_Read.N : FuncId := 17
abbrev ref17_Same.N : FuncId := 18
abbrev law17_own.N : FuncId := 19
abbrev ref01_Copy.N : FuncId := 20
abbrev ref17_Read.N : FuncId := 21
abbrev num_Var.N : FuncId := 22
abbrev set_New.N : FuncId := 23
abbrev class_Slots.N : FuncId := 24
abbrev set_Set_Add.N : FuncId := 25
abbrev set_Set_Bytes.N : FuncId := 26
abbrev reloc_Bytes.N : FuncId := 27
abbrev ref10_Copy.N : FuncId := 28
abbrev ref01_Var.N : FuncId := 29
abbrev ref03_New.N : FuncId := 30
abbrev ref06_Slots.N : FuncId := 31
abbrev ref03_Set_Put.N : FuncId := 32
abbrev ref03_Set_Bytes.N : FuncId := 33
abbrev ref16_Bytes.N : FuncId := 34
abbrev span_Of.N : FuncId := 35
abbrev reloc_Right.N : FuncId := 36
abbrev arena_Good.N : FuncId := 37
abbrev ref10_Of.N : FuncId := 38
abbrev ref16_Right.N : FuncId := 39
abbrev ref08_Good.N : FuncId := 40
abbrev span_Span_Live.N : FuncId := 41
abbrev span_Span_Size.N : FuncId := 42
abbrev ref10_Span_Size.N : FuncId := 43
abbrev num_Open.N : FuncId := 44
abbrev image_head.N : FuncId := 45
abbrev num_Reader_Upto.N : FuncId := 46
abbrev reloc_Read.N : FuncId := 47
abbrev num_Reader_Bytes.N : FuncId := 48
abbrev num_Reader_End.N : FuncId := 49
abbrev ref10_Same.N : FuncId := 50
abbrev ref01_Ints.N : FuncId := 51
abbrev ref01_Reader_Upto.N : FuncId := 52
abbrev ref10_New.N : FuncId := 53
abbrev ref01_Reader_Bytes.N : FuncId := 54
abbrev ref03_Read.N : FuncId := 55
abbrev ref03_Set_List.N : FuncId := 56
abbrev ref16_Read.N : FuncId := 57
abbrev ref01_Reader_End.N : FuncId := 58
abbrev class_Size.N : FuncId := 59
abbrev set_Set_Len.N : FuncId := 60
abbrev set_Set_Has.N : FuncId := 61
abbrev ref06_Size.N : FuncId := 62
abbrev span_New.N : FuncId := 63
abbrev span_taken_Live.N : FuncId := 64
abbrev num_Reader_Fail.N : FuncId := 65
abbrev num_Reader_Err.N : FuncId := 66
abbrev set_Read.N : FuncId := 67
abbrev set_Set_List.N : FuncId := 68
abbrev num_Reader_Var.N : FuncId := 69
abbrev ref01_Reader_Var.N : FuncId := 70
abbrev ref06_Of.N : FuncId := 71
abbrev ref10_Pages.N : FuncId := 72
abbrev ref01_Reader_Fail.N : FuncId := 73
abbrev class_Of.N : FuncId := 74
abbrev class_Pages.N : FuncId := 75
abbrev set_Set_Count.N : FuncId := 76
abbrev set_Set_First.N : FuncId := 77
abbrev ref06_Pages.N : FuncId := 78
abbrev math_bits_OnesCount64.N : FuncId := 79
abbrev set_Set_next.N : FuncId := 80
abbrev math_bits_TrailingZeros64.N : FuncId := 81
abbrev api_Errno_Error.N : FuncId := 97
abbrev ref03_Set_Next.N : FuncId := 98
abbrev span_Span_Class.N : FuncId := 99
abbrev num_Reader_Left.N : FuncId := 100
abbrev var_s_door_math_bits_deBruijn64tab_is_laid_by_its_own_initialiser_plain_data_look_11.N : FuncId := 103
abbrev Ty.int64 : TypeId := 2
abbrev Ty.int : TypeId := 3
abbrev Ty.bool : TypeId := 4
abbrev Ty.uint8 : TypeId := 5
abbrev Ty.abi_BoundsErrorCode : TypeId := 6
abbrev Ty.runtime_boundsError : TypeId := 8
abbrev Ty.string : TypeId := 9
abbrev Ty.runtime_errorString : TypeId := 10
abbrev Ty.runtime_plainError : TypeId := 11
abbrev Ty.uintptr : TypeId := 12
abbrev Ty.runtime_errorAddressString : TypeId := 14
abbrev Ty.p_runtime_TypeAssertionError : TypeId := 15
abbrev Ty.p_runtime_PanicNilError : TypeId := 16
abbrev Ty.p_abi_Type : TypeId := 17
abbrev Ty.maps_unhashableTypeError : TypeId := 19
abbrev Ty.int32 : TypeId := 21
abbrev Ty.sl_int : TypeId := 22
abbrev Ty.api_Span : TypeId := 24
abbrev Ty.sl_uint8 : TypeId := 25
abbrev Ty.law17_Image : TypeId := 27
abbrev Ty.api_Errno : TypeId := 29
abbrev Ty.image_Image : TypeId := 32
abbrev Ty.ref17_Image : TypeId := 36
abbrev Ty.uint64 : TypeId := 52
abbrev Ty.p_set_Set : TypeId := 53
abbrev Ty.sl_api_Span : TypeId := 59
abbrev Ty.p_ref03_Set : TypeId := 61
abbrev Ty.p_span_Span : TypeId := 65
abbrev Ty.p_ref10_Span : TypeId := 69
abbrev Ty.p_num_Reader : TypeId := 73
abbrev Ty.p_ref01_Reader : TypeId := 82
abbrev Ty.ref01_Reader : TypeId := 84
abbrev Ty.uint : TypeId := 90
abbrev Ty.sl_uint64 : TypeId := 91
abbrev Ty.set_Set : TypeId := 93
abbrev Ty.sl_bool : TypeId := 94
abbrev Ty.ref03_Set : TypeId := 96
abbrev Ty.span_taken : TypeId := 99
abbrev Ty.span_Span : TypeId := 101
abbrev Ty.ref10_Span : TypeId := 103
abbrev Ty.num_Reader : TypeId := 105
abbrev Ty.a7_int : TypeId := 112
abbrev Ty.a64_uint8 : TypeId := 115
abbrev Ty.runtime_TypeAssertionError : TypeId := 118
abbrev Ty.a0_p_runtime_PanicNilError : TypeId := 119
abbrev Ty.runtime_PanicNilError : TypeId := 121
abbrev Ty.uint32 : TypeId := 122
abbrev Ty.abi_TFlag : TypeId := 123
abbrev Ty.abi_Kind : TypeId := 124
abbrev Ty.p_uint8 : TypeId := 126
abbrev Ty.abi_NameOff : TypeId := 127
abbrev Ty.abi_TypeOff : TypeId := 128
abbrev Ty.abi_Type : TypeId := 130
abbrev Ty.unsafe_Pointer : TypeId := 132

/-! ### hayloft/hayloftlaw17.ImageWrites: function 3 -/
abbrev law17_ImageWrites.p9 (K : Value → World → Prop) (x2 : Bool) (w : World) : Prop :=
  K (.bool x2) w
abbrev law17_ImageWrites.p8 (K : Value → World → Prop) (x1 : Addr) (x7 : Addr) (x8 : Int) (w : World) : Prop :=
  ∃ (S114 : Array Obj → Prop), S114 w.heap ∧ condP (x8 == (0 : Int)) (∃ (n115 : Int), (∀ w' : World, S114 w'.heap → w'.cell? x7 = some (.int .i64 n115)) ∧ ∃ (n116 : Int), (∀ w' : World, S114 w'.heap → w'.cell? (x7.add 1) = some (.int .i64 n116)) ∧ ∃ (n117 : Int), (∀ w' : World, S114 w'.heap → w'.cell? (x7.add 2) = some (.int .i64 n117)) ∧ ∃ (A118 : Option Addr) (m119 : Nat) (c120 : Nat), (∀ w' : World, S114 w'.heap → w'.cell? (x7.add 3) = some (.slice A118 m119 c120)) ∧ ∃ (n121 : Int), (∀ w' : World, S114 w'.heap → w'.cell? (x7.add 4) = some (.int .i64 n121)) ∧ ∃ (A122 : Option Addr) (m123 : Nat) (c124 : Nat), (∀ w' : World, S114 w'.heap → w'.cell? (x7.add 5) = some (.slice A122 m123 c124)) ∧ ∃ (A125 : Option Addr) (m126 : Nat) (c127 : Nat), (∀ w' : World, S114 w'.heap → w'.cell? (x7.add 6) = some (.slice A125 m126 c127)) ∧ ∃ (n128 : Int), (∀ w' : World, S114 w'.heap → w'.cell? x1 = some (.int .i64 n128)) ∧ ∃ (n129 : Int), (∀ w' : World, S114 w'.heap → w'.cell? (x1.add 1) = some (.int .i64 n129)) ∧ ∃ (n130 : Int), (∀ w' : World, S114 w'.heap → w'.cell? (x1.add 2) = some (.int .i64 n130)) ∧ ∃ (A131 : Option Addr) (m132 : Nat) (c133 : Nat), (∀ w' : World, S114 w'.heap → w'.cell? (x1.add 3) = some (.slice A131 m132 c133)) ∧ ∃ (n134 : Int), (∀ w' : World, S114 w'.heap → w'.cell? (x1.add 4) = some (.int .i64 n134)) ∧ ∃ (A135 : Option Addr) (m136 : Nat) (c137 : Nat), (∀ w' : World, S114 w'.heap → w'.cell? (x1.add 5) = some (.slice A135 m136 c137)) ∧ ∃ (A138 : Option Addr) (m139 : Nat) (c140 : Nat), (∀ w' : World, S114 w'.heap → w'.cell? (x1.add 6) = some (.slice A138 m139 c140)) ∧ CallsE Tryd.prog 19 #[.agg #[.int .i64 n115, .int .i64 n116, .int .i64 n117, .slice A118 m119 c120, .int .i64 n121, .slice A122 m123 c124, .slice A125 m126 c127]] w (fun v141 w142 => ∃ (n143 : Int) (n144 : Int) (n145 : Int) (A146 : Option Addr) (m147 : Nat) (c148 : Nat) (n149 : Int) (A150 : Option Addr) (m151 : Nat) (c152 : Nat) (A153 : Option Addr) (m154 : Nat) (c155 : Nat), v141 = .agg #[.int .i64 n143, .int .i64 n144, .int .i64 n145, .slice A146 m147 c148, .int .i64 n149, .slice A150 m151 c152, .slice A153 m154 c155] ∧ S114 w142.heap ∧ CallsE Tryd.prog 11 #[.agg #[.int .i64 n128, .int .i64 n129, .int .i64 n130, .slice A131 m132 c133, .int .i64 n134, .slice A135 m136 c137, .slice A138 m139 c140]] w142 (fun v156 w157 => ∃ (n158 : Int) (n159 : Int) (n160 : Int) (A161 : Option Addr) (m162 : Nat) (c163 : Nat) (n164 : Int) (A165 : Option Addr) (m166 : Nat) (c167 : Nat) (A168 : Option Addr) (m169 : Nat) (c170 : Nat), v156 = .agg #[.int .i64 n158, .int .i64 n159, .int .i64 n160, .slice A161 m162 c163, .int .i64 n164, .slice A165 m166 c167, .slice A168 m169 c170] ∧ S114 w157.heap ∧ CallsE Tryd.prog 18 #[.agg #[.int .i64 n143, .int .i64 n144, .int .i64 n145, .slice A146 m147 c148, .int .i64 n149, .slice A150 m151 c152, .slice A153 m154 c155], .agg #[.int .i64 n158, .int .i64 n159, .int .i64 n160, .slice A161 m162 c163, .int .i64 n164, .slice A165 m166 c167, .slice A168 m169 c170]] w157 (fun v171 w172 => ∃ (b173 : Bool), v171 = .bool b173 ∧ S114 w172.heap ∧ law17_ImageWrites.p9 K b173 w172)))) (law17_ImageWrites.p9 K false w)
abbrev law17_ImageWrites.p7 (K : Value → World → Prop) (x1 : Addr) (x3A : Option Addr) (x3n : Nat) (x3c : Nat) (w : World) : Prop :=
  CallsE Tryd.prog 17 #[.slice x3A x3n x3c] w (fun v90 w91 => ∃ (n92 : Int) (n93 : Int) (n94 : Int) (A95 : Option Addr) (m96 : Nat) (c97 : Nat) (n98 : Int) (A99 : Option Addr) (m100 : Nat) (c101 : Nat) (A102 : Option Addr) (m103 : Nat) (c104 : Nat) (n105 : Int), v90 = .tuple #[.agg #[.int .i64 n92, .int .i64 n93, .int .i64 n94, .slice A95 m96 c97, .int .i64 n98, .slice A99 m100 c101, .slice A102 m103 c104], .int .i64 n105] ∧ wlet (w91.alloc (.cells #[.int .i64 0, .int .i64 0, .int .i64 0, .slice none 0 0, .int .i64 0, .slice none 0 0, .slice none 0 0] 32)) fun w106 => canStore w106 (⟨w91.heap.size, 0, none⟩) ∧ wlet (w106.setCell (⟨w91.heap.size, 0, none⟩) (.int .i64 n92)) fun w107 => canStore w107 (⟨w91.heap.size, 1, none⟩) ∧ wlet (w107.setCell (⟨w91.heap.size, 1, none⟩) (.int .i64 n93)) fun w108 => canStore w108 (⟨w91.heap.size, 2, none⟩) ∧ wlet (w108.setCell (⟨w91.heap.size, 2, none⟩) (.int .i64 n94)) fun w109 => canStore w109 (⟨w91.heap.size, 3, none⟩) ∧ wlet (w109.setCell (⟨w91.heap.size, 3, none⟩) (.slice A95 m96 c97)) fun w110 => canStore w110 (⟨w91.heap.size, 4, none⟩) ∧ wlet (w110.setCell (⟨w91.heap.size, 4, none⟩) (.int .i64 n98)) fun w111 => canStore w111 (⟨w91.heap.size, 5, none⟩) ∧ wlet (w111.setCell (⟨w91.heap.size, 5, none⟩) (.slice A99 m100 c101)) fun w112 => canStore w112 (⟨w91.heap.size, 6, none⟩) ∧ wlet (w112.setCell (⟨w91.heap.size, 6, none⟩) (.slice A102 m103 c104)) fun w113 => law17_ImageWrites.p8 K x1 (⟨w91.heap.size, 0, none⟩) n105 w113)
abbrev law17_ImageWrites.p6 (K : Value → World → Prop) (x1 : Addr) (x3A : Option Addr) (x3n : Nat) (x3c : Nat) (x6 : Int) (w : World) : Prop :=
  condP (x6 != (0 : Int)) (K (.bool true) w) (law17_ImageWrites.p7 K x1 x3A x3n x3c w)
abbrev law17_ImageWrites.p5 (K : Value → World → Prop) (x1 : Addr) (x3A : Option Addr) (x3n : Nat) (x3c : Nat) (x6 : Int) (x51 : Bool) (w : World) : Prop :=
  condP x51 (K (.bool false) w) (law17_ImageWrites.p6 K x1 x3A x3n x3c x6 w)
abbrev law17_ImageWrites.p4 (K : Value → World → Prop) (x1 : Addr) (x3A : Option Addr) (x3n : Nat) (x3c : Nat) (x4 : Int) (x5A : Option Addr) (x5n : Nat) (x5c : Nat) (x6 : Int) (w : World) : Prop :=
  ∃ (S89 : Array Obj → Prop), S89 w.heap ∧ condP (x4 != x6) (law17_ImageWrites.p5 K x1 x3A x3n x3c x6 true w) (CallsE Tryd.prog 12 #[.slice x3A x3n x3c, .slice x5A x5n x5c] w (fun v174 w175 => ∃ (b176 : Bool), v174 = .bool b176 ∧ S89 w175.heap ∧ condP (!b176) (law17_ImageWrites.p5 K x1 x3A x3n x3c x6 true w175) (∃ (n177 : Int), (∀ w' : World, S89 w'.heap → w'.cell? x1 = some (.int .i64 n177)) ∧ ∃ (n178 : Int), (∀ w' : World, S89 w'.heap → w'.cell? (x1.add 1) = some (.int .i64 n178)) ∧ ∃ (n179 : Int), (∀ w' : World, S89 w'.heap → w'.cell? (x1.add 2) = some (.int .i64 n179)) ∧ ∃ (A180 : Option Addr) (m181 : Nat) (c182 : Nat), (∀ w' : World, S89 w'.heap → w'.cell? (x1.add 3) = some (.slice A180 m181 c182)) ∧ ∃ (n183 : Int), (∀ w' : World, S89 w'.heap → w'.cell? (x1.add 4) = some (.int .i64 n183)) ∧ ∃ (A184 : Option Addr) (m185 : Nat) (c186 : Nat), (∀ w' : World, S89 w'.heap → w'.cell? (x1.add 5) = some (.slice A184 m185 c186)) ∧ ∃ (A187 : Option Addr) (m188 : Nat) (c189 : Nat), (∀ w' : World, S89 w'.heap → w'.cell? (x1.add 6) = some (.slice A187 m188 c189)) ∧ ∃ (n190 : Int), (∀ w' : World, S89 w'.heap → w'.cell? x1 = some (.int .i64 n190)) ∧ ∃ (n191 : Int), (∀ w' : World, S89 w'.heap → w'.cell? (x1.add 1) = some (.int .i64 n191)) ∧ ∃ (n192 : Int), (∀ w' : World, S89 w'.heap → w'.cell? (x1.add 2) = some (.int .i64 n192)) ∧ ∃ (A193 : Option Addr) (m194 : Nat) (c195 : Nat), (∀ w' : World, S89 w'.heap → w'.cell? (x1.add 3) = some (.slice A193 m194 c195)) ∧ ∃ (n196 : Int), (∀ w' : World, S89 w'.heap → w'.cell? (x1.add 4) = some (.int .i64 n196)) ∧ ∃ (A197 : Option Addr) (m198 : Nat) (c199 : Nat), (∀ w' : World, S89 w'.heap → w'.cell? (x1.add 5) = some (.slice A197 m198 c199)) ∧ ∃ (A200 : Option Addr) (m201 : Nat) (c202 : Nat), (∀ w' : World, S89 w'.heap → w'.cell? (x1.add 6) = some (.slice A200 m201 c202)) ∧ CallsE Tryd.prog 9 #[.agg #[.int .i64 n177, .int .i64 n178, .int .i64 n179, .slice A180 m181 c182, .int .i64 n183, .slice A184 m185 c186, .slice A187 m188 c189]] w175 (fun v203 w204 => ∃ (n205 : Int) (n206 : Int) (n207 : Int) (A208 : Option Addr) (m209 : Nat) (c210 : Nat) (n211 : Int) (A212 : Option Addr) (m213 : Nat) (c214 : Nat) (A215 : Option Addr) (m216 : Nat) (c217 : Nat), v203 = .agg #[.int .i64 n205, .int .i64 n206, .int .i64 n207, .slice A208 m209 c210, .int .i64 n211, .slice A212 m213 c214, .slice A215 m216 c217] ∧ S89 w204.heap ∧ CallsE Tryd.prog 13 #[.agg #[.int .i64 n205, .int .i64 n206, .int .i64 n207, .slice A208 m209 c210, .int .i64 n211, .slice A212 m213 c214, .slice A215 m216 c217]] w204 (fun v218 w219 => ∃ (b220 : Bool), v218 = .bool b220 ∧ S89 w219.heap ∧ CallsE Tryd.prog 11 #[.agg #[.int .i64 n190, .int .i64 n191, .int .i64 n192, .slice A193 m194 c195, .int .i64 n196, .slice A197 m198 c199, .slice A200 m201 c202]] w219 (fun v221 w222 => ∃ (n223 : Int) (n224 : Int) (n225 : Int) (A226 : Option Addr) (m227 : Nat) (c228 : Nat) (n229 : Int) (A230 : Option Addr) (m231 : Nat) (c232 : Nat) (A233 : Option Addr) (m234 : Nat) (c235 : Nat), v221 = .agg #[.int .i64 n223, .int .i64 n224, .int .i64 n225, .slice A226 m227 c228, .int .i64 n229, .slice A230 m231 c232, .slice A233 m234 c235] ∧ S89 w222.heap ∧ CallsE Tryd.prog 14 #[.agg #[.int .i64 n223, .int .i64 n224, .int .i64 n225, .slice A226 m227 c228, .int .i64 n229, .slice A230 m231 c232, .slice A233 m234 c235]] w222 (fun v236 w237 => ∃ (b238 : Bool), v236 = .bool b238 ∧ S89 w237.heap ∧ condP (!(b220 == b238)) (law17_ImageWrites.p5 K x1 x3A x3n x3c x6 true w237) (∃ (n239 : Int), (∀ w' : World, S89 w'.heap → w'.cell? x1 = some (.int .i64 n239)) ∧ ∃ (n240 : Int), (∀ w' : World, S89 w'.heap → w'.cell? (x1.add 1) = some (.int .i64 n240)) ∧ ∃ (n241 : Int), (∀ w' : World, S89 w'.heap → w'.cell? (x1.add 2) = some (.int .i64 n241)) ∧ ∃ (A242 : Option Addr) (m243 : Nat) (c244 : Nat), (∀ w' : World, S89 w'.heap → w'.cell? (x1.add 3) = some (.slice A242 m243 c244)) ∧ ∃ (n245 : Int), (∀ w' : World, S89 w'.heap → w'.cell? x1 = some (.int .i64 n245)) ∧ ∃ (n246 : Int), (∀ w' : World, S89 w'.heap → w'.cell? (x1.add 1) = some (.int .i64 n246)) ∧ ∃ (n247 : Int), (∀ w' : World, S89 w'.heap → w'.cell? (x1.add 2) = some (.int .i64 n247)) ∧ ∃ (A248 : Option Addr) (m249 : Nat) (c250 : Nat), (∀ w' : World, S89 w'.heap → w'.cell? (x1.add 3) = some (.slice A248 m249 c250)) ∧ CallsE Tryd.prog 15 #[.agg #[.int .i64 n239, .int .i64 n240, .int .i64 n241, .slice A242 m243 c244]] w237 (fun v251 w252 => ∃ (n253 : Int), v251 = .int .i64 n253 ∧ S89 w252.heap ∧ CallsE Tryd.prog 16 #[.agg #[.int .i64 n245, .int .i64 n246, .int .i64 n247, .slice A248 m249 c250]] w252 (fun v254 w255 => ∃ (n256 : Int), v254 = .int .i64 n256 ∧ S89 w255.heap ∧ law17_ImageWrites.p5 K x1 x3A x3n x3c x6 (n253 != n256) w255))))))))))
abbrev law17_ImageWrites.p3 (K : Value → World → Prop) (x1 : Addr) (x3A : Option Addr) (x3n : Nat) (x3c : Nat) (x4 : Int) (w : World) : Prop :=
  ∃ (n55 : Int), w.cell? x1 = some (.int .i64 n55) ∧ ∃ (n56 : Int), w.cell? (x1.add 1) = some (.int .i64 n56) ∧ ∃ (n57 : Int), w.cell? (x1.add 2) = some (.int .i64 n57) ∧ ∃ (A58 : Option Addr) (m59 : Nat) (c60 : Nat), w.cell? (x1.add 3) = some (.slice A58 m59 c60) ∧ ∃ (n61 : Int), w.cell? (x1.add 4) = some (.int .i64 n61) ∧ ∃ (A62 : Option Addr) (m63 : Nat) (c64 : Nat), w.cell? (x1.add 5) = some (.slice A62 m63 c64) ∧ ∃ (A65 : Option Addr) (m66 : Nat) (c67 : Nat), w.cell? (x1.add 6) = some (.slice A65 m66 c67) ∧ CallsE Tryd.prog 11 #[.agg #[.int .i64 n55, .int .i64 n56, .int .i64 n57, .slice A58 m59 c60, .int .i64 n61, .slice A62 m63 c64, .slice A65 m66 c67]] w (fun v68 w69 => ∃ (n70 : Int) (n71 : Int) (n72 : Int) (A73 : Option Addr) (m74 : Nat) (c75 : Nat) (n76 : Int) (A77 : Option Addr) (m78 : Nat) (c79 : Nat) (A80 : Option Addr) (m81 : Nat) (c82 : Nat), v68 = .agg #[.int .i64 n70, .int .i64 n71, .int .i64 n72, .slice A73 m74 c75, .int .i64 n76, .slice A77 m78 c79, .slice A80 m81 c82] ∧ CallsE Tryd.prog 10 #[.agg #[.int .i64 n70, .int .i64 n71, .int .i64 n72, .slice A73 m74 c75, .int .i64 n76, .slice A77 m78 c79, .slice A80 m81 c82]] w69 (fun v83 w84 => ∃ (A85 : Option Addr) (m86 : Nat) (c87 : Nat) (n88 : Int), v83 = .tuple #[.slice A85 m86 c87, .int .i64 n88] ∧ law17_ImageWrites.p4 K x1 x3A x3n x3c x4 A85 m86 c87 n88 w84))
abbrev law17_ImageWrites.p2 (K : Value → World → Prop) (x1 : Addr) (w : World) : Prop :=
  ∃ (n21 : Int), w.cell? x1 = some (.int .i64 n21) ∧ ∃ (n22 : Int), w.cell? (x1.add 1) = some (.int .i64 n22) ∧ ∃ (n23 : Int), w.cell? (x1.add 2) = some (.int .i64 n23) ∧ ∃ (A24 : Option Addr) (m25 : Nat) (c26 : Nat), w.cell? (x1.add 3) = some (.slice A24 m25 c26) ∧ ∃ (n27 : Int), w.cell? (x1.add 4) = some (.int .i64 n27) ∧ ∃ (A28 : Option Addr) (m29 : Nat) (c30 : Nat), w.cell? (x1.add 5) = some (.slice A28 m29 c30) ∧ ∃ (A31 : Option Addr) (m32 : Nat) (c33 : Nat), w.cell? (x1.add 6) = some (.slice A31 m32 c33) ∧ CallsE Tryd.prog 9 #[.agg #[.int .i64 n21, .int .i64 n22, .int .i64 n23, .slice A24 m25 c26, .int .i64 n27, .slice A28 m29 c30, .slice A31 m32 c33]] w (fun v34 w35 => ∃ (n36 : Int) (n37 : Int) (n38 : Int) (A39 : Option Addr) (m40 : Nat) (c41 : Nat) (n42 : Int) (A43 : Option Addr) (m44 : Nat) (c45 : Nat) (A46 : Option Addr) (m47 : Nat) (c48 : Nat), v34 = .agg #[.int .i64 n36, .int .i64 n37, .int .i64 n38, .slice A39 m40 c41, .int .i64 n42, .slice A43 m44 c45, .slice A46 m47 c48] ∧ CallsE Tryd.prog 8 #[.agg #[.int .i64 n36, .int .i64 n37, .int .i64 n38, .slice A39 m40 c41, .int .i64 n42, .slice A43 m44 c45, .slice A46 m47 c48]] w35 (fun v49 w50 => ∃ (A51 : Option Addr) (m52 : Nat) (c53 : Nat) (n54 : Int), v49 = .tuple #[.slice A51 m52 c53, .int .i64 n54] ∧ law17_ImageWrites.p3 K x1 A51 m52 c53 n54 w50))
abbrev law17_ImageWrites.p1 (K : Value → World → Prop) (x1 : Addr) (w : World) : Prop :=
  ∃ (n5 : Int), w.cell? x1 = some (.int .i64 n5) ∧ ∃ (n6 : Int), w.cell? (x1.add 1) = some (.int .i64 n6) ∧ ∃ (n7 : Int), w.cell? (x1.add 2) = some (.int .i64 n7) ∧ ∃ (A8 : Option Addr) (m9 : Nat) (c10 : Nat), w.cell? (x1.add 3) = some (.slice A8 m9 c10) ∧ ∃ (n11 : Int), w.cell? (x1.add 4) = some (.int .i64 n11) ∧ ∃ (A12 : Option Addr) (m13 : Nat) (c14 : Nat), w.cell? (x1.add 5) = some (.slice A12 m13 c14) ∧ ∃ (A15 : Option Addr) (m16 : Nat) (c17 : Nat), w.cell? (x1.add 6) = some (.slice A15 m16 c17) ∧ CallsE Tryd.prog 7 #[.agg #[.int .i64 n5, .int .i64 n6, .int .i64 n7, .slice A8 m9 c10, .int .i64 n11, .slice A12 m13 c14, .slice A15 m16 c17]] w (fun v18 w19 => ∃ (b20 : Bool), v18 = .bool b20 ∧ condP b20 (K (.bool true) w19) (law17_ImageWrites.p2 K x1 w19))
abbrev law17_ImageWrites.p0 (K : Value → World → Prop) (x1 : Addr) (w : World) : Prop :=
  CallsE Tryd.prog 6 #[] w (fun v2 w3 => ∃ (b4 : Bool), v2 = .bool b4 ∧ condP (!b4) (K (.bool false) w3) (law17_ImageWrites.p1 K x1 w3))
abbrev law17_ImageWrites.F (q0_0 : Int) (q0_1 : Int) (q0_2 : Int) (q0_3A : Option Addr) (q0_3n : Nat) (q0_3c : Nat) (q0_4 : Int) (q0_5A : Option Addr) (q0_5n : Nat) (q0_5c : Nat) (q0_6A : Option Addr) (q0_6n : Nat) (q0_6c : Nat) (K : Value → World → Prop) (w : World) : Prop :=
  wlet (w.alloc (.cells #[.int .i64 q0_0, .int .i64 q0_1, .int .i64 q0_2, .slice q0_3A q0_3n q0_3c, .int .i64 q0_4, .slice q0_5A q0_5n q0_5c, .slice q0_6A q0_6n q0_6c] 27)) fun w1 => law17_ImageWrites.p0 K (⟨w.heap.size, 0, none⟩) w1
theorem law17_ImageWrites.ok {q0_0 : Int} {q0_1 : Int} {q0_2 : Int} {q0_3A : Option Addr} {q0_3n : Nat} {q0_3c : Nat} {q0_4 : Int} {q0_5A : Option Addr} {q0_5n : Nat} {q0_5c : Nat} {q0_6A : Option Addr} {q0_6n : Nat} {q0_6c : Nat} {K : Value → World → Prop} {w : World} (h : law17_ImageWrites.F q0_0 q0_1 q0_2 q0_3A q0_3n q0_3c q0_4 q0_5A q0_5n q0_5c q0_6A q0_6n q0_6c K w) :
    CallsE Tryd.prog 3 #[.agg #[.int .i64 q0_0, .int .i64 q0_1, .int .i64 q0_2, .slice q0_3A q0_3n q0_3c, .int .i64 q0_4, .slice q0_5A q0_5n q0_5c, .slice q0_6A q0_6n q0_6c]] w K := by
  refine calls_of_J (n := 68) (rs := [.tmp 2]) Tryd.func3 rfl rfl rfl rfl ?_
  refine J_seq (fun σ w => vPa (σ 1) fun x1 => law17_ImageWrites.p0 K x1 w) ?_ ?_
  ·
    exact sh_sound _ _ _ _ (Eq.mp (by kernel_rfl) h)
  · intro σ w h
    obtain ⟨x1, e1, h⟩ := vPa_elim h
    refine J.sub ?_ ((Sub.base _).upd e1)
    clear e1
    refine J_seq (fun σ w => vPa (σ 1) fun x1 => law17_ImageWrites.p1 K x1 w) ?_ ?_
    ·
      exact sh_sound _ _ _ _ (Eq.mp (by kernel_rfl) h)
    · intro σ w h
      obtain ⟨x1, e1, h⟩ := vPa_elim h
      refine J.sub ?_ ((Sub.base _).upd e1)
      clear e1
      refine J_seq (fun σ w => vPa (σ 1) fun x1 => law17_ImageWrites.p2 K x1 w) ?_ ?_
      ·
        exact sh_sound _ _ _ _ (Eq.mp (by kernel_rfl) h)
      · intro σ w h
        obtain ⟨x1, e1, h⟩ := vPa_elim h
        refine J.sub ?_ ((Sub.base _).upd e1)
        clear e1
        refine J_seq (fun σ w => vPa (σ 1) fun x1 => vS (σ 3) fun x3A x3n x3c => vI .i64 (σ 4) fun x4 => law17_ImageWrites.p3 K x1 x3A x3n x3c x4 w) ?_ ?_
        ·
          exact sh_sound _ _ _ _ (Eq.mp (by kernel_rfl) h)
        · intro σ w h
          obtain ⟨x1, e1, h⟩ := vPa_elim h
          obtain ⟨x3A, x3n, x3c, e3, h⟩ := vS_elim h
          obtain ⟨x4, e4, h⟩ := vI_elim h
          refine J.sub ?_ ((((Sub.base _).upd e1).upd e3).upd e4)
          clear e1 e3 e4
          refine J_seq (fun σ w => vPa (σ 1) fun x1 => vS (σ 3) fun x3A x3n x3c => vI .i64 (σ 4) fun x4 => vS (σ 5) fun x5A x5n x5c => vI .i64 (σ 6) fun x6 => law17_ImageWrites.p4 K x1 x3A x3n x3c x4 x5A x5n x5c x6 w) ?_ ?_
          ·
            exact sh_sound _ _ _ _ (Eq.mp (by kernel_rfl) h)
          · intro σ w h
            obtain ⟨x1, e1, h⟩ := vPa_elim h
            obtain ⟨x3A, x3n, x3c, e3, h⟩ := vS_elim h
            obtain ⟨x4, e4, h⟩ := vI_elim h
            obtain ⟨x5A, x5n, x5c, e5, h⟩ := vS_elim h
            obtain ⟨x6, e6, h⟩ := vI_elim h
            refine J.sub ?_ ((((((Sub.base _).upd e1).upd e3).upd e4).upd e5).upd e6)
            clear e1 e3 e4 e5 e6
            refine J_seq (fun σ w => vPa (σ 1) fun x1 => vS (σ 3) fun x3A x3n x3c => vI .i64 (σ 6) fun x6 => law17_ImageWrites.p6 K x1 x3A x3n x3c x6 w) ?_ ?_
            ·
              refine J_seq (fun σ w => vPa (σ 1) fun x1 => vS (σ 3) fun x3A x3n x3c => vI .i64 (σ 6) fun x6 => vB (σ 51) fun x51 => law17_ImageWrites.p5 K x1 x3A x3n x3c x6 x51 w) ?_ ?_
              ·
                exact J_held [] [(0, 0), (1, 0), (2, 0), (3, 0), (4, 0), (5, 0), (6, 2), (7, 0), (8, 0), (9, 0), (10, 1), (13, 1), (11, 2), (12, 2), (14, 2), (15, 2), (16, 0), (17, 0), (18, 0), (19, 0), (22, 0), (20, 1), (23, 1), (21, 2), (24, 2), (25, 0), (26, 0)] (by kernel_rfl) (Eq.mp (by kernel_rfl) h)
              · intro σ w h
                obtain ⟨x1, e1, h⟩ := vPa_elim h
                obtain ⟨x3A, x3n, x3c, e3, h⟩ := vS_elim h
                obtain ⟨x6, e6, h⟩ := vI_elim h
                obtain ⟨x51, e51, h⟩ := vB_elim h
                refine J.sub ?_ (((((Sub.base _).upd e1).upd e3).upd e6).upd e51)
                clear e1 e3 e6 e51
                exact sh_sound _ _ _ _ (Eq.mp (by kernel_rfl) h)
            · intro σ w h
              obtain ⟨x1, e1, h⟩ := vPa_elim h
              obtain ⟨x3A, x3n, x3c, e3, h⟩ := vS_elim h
              obtain ⟨x6, e6, h⟩ := vI_elim h
              refine J.sub ?_ ((((Sub.base _).upd e1).upd e3).upd e6)
              clear e1 e3 e6
              refine J_seq (fun σ w => vPa (σ 1) fun x1 => vS (σ 3) fun x3A x3n x3c => law17_ImageWrites.p7 K x1 x3A x3n x3c w) ?_ ?_
              ·
                exact sh_sound _ _ _ _ (Eq.mp (by kernel_rfl) h)
              · intro σ w h
                obtain ⟨x1, e1, h⟩ := vPa_elim h
                obtain ⟨x3A, x3n, x3c, e3, h⟩ := vS_elim h
                refine J.sub ?_ (((Sub.base _).upd e1).upd e3)
                clear e1 e3
                refine J_seq (fun σ w => vPa (σ 1) fun x1 => vPa (σ 7) fun x7 => vI .i64 (σ 8) fun x8 => law17_ImageWrites.p8 K x1 x7 x8 w) ?_ ?_
                ·
                  exact sh_sound _ _ _ _ (Eq.mp (by kernel_rfl) h)
                · intro σ w h
                  obtain ⟨x1, e1, h⟩ := vPa_elim h
                  obtain ⟨x7, e7, h⟩ := vPa_elim h
                  obtain ⟨x8, e8, h⟩ := vI_elim h
                  refine J.sub ?_ ((((Sub.base _).upd e1).upd e7).upd e8)
                  clear e1 e7 e8
                  refine J_seq (fun σ w => vB (σ 2) fun x2 => law17_ImageWrites.p9 K x2 w) ?_ ?_
                  ·
                    exact J_held [] [(0, 0), (1, 0), (2, 0), (3, 1), (5, 1), (4, 2), (6, 2), (7, 2), (8, 0), (9, 0)] (by kernel_rfl) (Eq.mp (by kernel_rfl) h)
                  · intro σ w h
                    obtain ⟨x2, e2, h⟩ := vB_elim h
                    refine J.sub ?_ ((Sub.base _).upd e2)
                    clear e2
                    exact sh_sound _ _ _ _ (Eq.mp (by kernel_rfl) h)

/-! ### hayloft/hayloftlaw17.ImageReads: function 4 -/
abbrev law17_ImageReads.p11 (L0 : Option Addr → Nat → Nat → Option Addr → Nat → Nat → Addr → Int → Int → World → Prop) (K : Value → World → Prop) (x0A : Option Addr) (x0n : Nat) (x0c : Nat) (x3A : Option Addr) (x3n : Nat) (x3c : Nat) (x4 : Addr) (x35 : Int) (x36 : Int) (w : World) : Prop :=
  L0 x0A x0n x0c x3A x3n x3c x4 x35 (IntKind.wrap .i64 (x36 + (1 : Int))) w
abbrev law17_ImageReads.p10 (L0 : Option Addr → Nat → Nat → Option Addr → Nat → Nat → Addr → Int → Int → World → Prop) (K : Value → World → Prop) (x0A : Option Addr) (x0n : Nat) (x0c : Nat) (x3A : Option Addr) (x3n : Nat) (x3c : Nat) (x4 : Addr) (x8 : Int) (x35 : Int) (x36 : Int) (w : World) : Prop :=
  ∃ (S61 : Array Obj → Prop), S61 w.heap ∧ ∃ (A62 : Option Addr) (m63 : Nat) (c64 : Nat), (∀ w' : World, S61 w'.heap → w'.cell? (x4.add 6) = some (.slice A62 m63 c64)) ∧ ∃ (A65 : Option Addr) (m66 : Nat) (c67 : Nat), (∀ w' : World, S61 w'.heap → w'.cell? (x4.add 6) = some (.slice A65 m66 c67)) ∧ (0 ≤ x8 ∧ x8 < ((m66 : Nat) : Int)) ∧ ∃ (a68 : Addr), A65 = some a68 ∧ ∃ (n69 : Int), (∀ w' : World, S61 w'.heap → w'.cell? (a68.add x8.toNat) = some (.int .u8 n69)) ∧ (0 ≤ x8 ∧ x8 < ((m63 : Nat) : Int)) ∧ ∃ (a70 : Addr), A62 = some a70 ∧ canStore w (a70.add x8.toNat) ∧ wlet (w.setCell (a70.add x8.toNat) (.int .u8 (IntKind.wrap .u8 (n69 + (1 : Int))))) fun w71 => law17_ImageReads.p11 L0 K x0A x0n x0c x3A x3n x3c x4 x35 x36 w71
abbrev law17_ImageReads.p9 (L0 : Option Addr → Nat → Nat → Option Addr → Nat → Nat → Addr → Int → Int → World → Prop) (K : Value → World → Prop) (x0A : Option Addr) (x0n : Nat) (x0c : Nat) (x3A : Option Addr) (x3n : Nat) (x3c : Nat) (x4 : Addr) (x35 : Int) (x36 : Int) (w : World) : Prop :=
  law17_ImageReads.p10 L0 K x0A x0n x0c x3A x3n x3c x4 x36 x35 x36 w
abbrev law17_ImageReads.p12 (K : Value → World → Prop) (x0A : Option Addr) (x0n : Nat) (x0c : Nat) (x3A : Option Addr) (x3n : Nat) (x3c : Nat) (w : World) : Prop :=
  CallsE Tryd.prog 12 #[.slice x3A x3n x3c, .slice x0A x0n x0c] w (fun v72 w73 => ∃ (b74 : Bool), v72 = .bool b74 ∧ K (.bool b74) w73)
abbrev law17_ImageReads.p8 (L0 : Option Addr → Nat → Nat → Option Addr → Nat → Nat → Addr → Int → Int → World → Prop) (K : Value → World → Prop) (x0A : Option Addr) (x0n : Nat) (x0c : Nat) (x3A : Option Addr) (x3n : Nat) (x3c : Nat) (x4 : Addr) (x35 : Int) (x36 : Int) (x37 : Bool) (w : World) : Prop :=
  condP x37 (law17_ImageReads.p9 L0 K x0A x0n x0c x3A x3n x3c x4 x35 x36 w) (law17_ImageReads.p12 K x0A x0n x0c x3A x3n x3c w)
abbrev law17_ImageReads.b0 (L0 : Option Addr → Nat → Nat → Option Addr → Nat → Nat → Addr → Int → Int → World → Prop) (K : Value → World → Prop) (x0A : Option Addr) (x0n : Nat) (x0c : Nat) (x3A : Option Addr) (x3n : Nat) (x3c : Nat) (x4 : Addr) (x35 : Int) (x36 : Int) (w : World) : Prop :=
  law17_ImageReads.p8 L0 K x0A x0n x0c x3A x3n x3c x4 x35 x36 (decide (x36 < x35)) w
def law17_ImageReads.l0 (K : Value → World → Prop) (k : Nat) : Option Addr → Nat → Nat → Option Addr → Nat → Nat → Addr → Int → Int → World → Prop :=
  Nat.rec (motive := fun _ => Option Addr → Nat → Nat → Option Addr → Nat → Nat → Addr → Int → Int → World → Prop) (fun _ _ _ _ _ _ _ _ _ _ => False) (fun _ ih => law17_ImageReads.b0 ih K) k
theorem law17_ImageReads.l0_succ (K : Value → World → Prop) (k : Nat) (x0A : Option Addr) (x0n : Nat) (x0c : Nat) (x3A : Option Addr) (x3n : Nat) (x3c : Nat) (x4 : Addr) (x35 : Int) (x36 : Int) (w : World) : law17_ImageReads.l0 K (k + 1) x0A x0n x0c x3A x3n x3c x4 x35 x36 w = law17_ImageReads.b0 (law17_ImageReads.l0 K k) K x0A x0n x0c x3A x3n x3c x4 x35 x36 w := rfl
abbrev law17_ImageReads.p7 (K : Value → World → Prop) (x0A : Option Addr) (x0n : Nat) (x0c : Nat) (x3A : Option Addr) (x3n : Nat) (x3c : Nat) (x4 : Addr) (x35 : Int) (x36 : Int) (w : World) : Prop :=
  ∃ k, law17_ImageReads.l0 K k x0A x0n x0c x3A x3n x3c x4 x35 x36 w
abbrev law17_ImageReads.p6 (K : Value → World → Prop) (x0A : Option Addr) (x0n : Nat) (x0c : Nat) (x3A : Option Addr) (x3n : Nat) (x3c : Nat) (x4 : Addr) (w : World) : Prop :=
  ∃ (A58 : Option Addr) (m59 : Nat) (c60 : Nat), w.cell? (x4.add 6) = some (.slice A58 m59 c60) ∧ law17_ImageReads.p7 K x0A x0n x0c x3A x3n x3c x4 ((m59 : Nat) : Int) 0 w
abbrev law17_ImageReads.p5 (K : Value → World → Prop) (x0A : Option Addr) (x0n : Nat) (x0c : Nat) (x3A : Option Addr) (x3n : Nat) (x3c : Nat) (x4 : Addr) (x32 : Bool) (w : World) : Prop :=
  condP x32 (K (.bool false) w) (law17_ImageReads.p6 K x0A x0n x0c x3A x3n x3c x4 w)
abbrev law17_ImageReads.p4 (K : Value → World → Prop) (x0A : Option Addr) (x0n : Nat) (x0c : Nat) (x3A : Option Addr) (x3n : Nat) (x3c : Nat) (x4 : Addr) (x5 : Int) (x6 : Addr) (x7 : Int) (w : World) : Prop :=
  ∃ (S57 : Array Obj → Prop), S57 w.heap ∧ condP (x5 != x7) (law17_ImageReads.p5 K x0A x0n x0c x3A x3n x3c x4 true w) (∃ (n75 : Int), (∀ w' : World, S57 w'.heap → w'.cell? x4 = some (.int .i64 n75)) ∧ ∃ (n76 : Int), (∀ w' : World, S57 w'.heap → w'.cell? (x4.add 1) = some (.int .i64 n76)) ∧ ∃ (n77 : Int), (∀ w' : World, S57 w'.heap → w'.cell? (x4.add 2) = some (.int .i64 n77)) ∧ ∃ (A78 : Option Addr) (m79 : Nat) (c80 : Nat), (∀ w' : World, S57 w'.heap → w'.cell? (x4.add 3) = some (.slice A78 m79 c80)) ∧ ∃ (n81 : Int), (∀ w' : World, S57 w'.heap → w'.cell? (x4.add 4) = some (.int .i64 n81)) ∧ ∃ (A82 : Option Addr) (m83 : Nat) (c84 : Nat), (∀ w' : World, S57 w'.heap → w'.cell? (x4.add 5) = some (.slice A82 m83 c84)) ∧ ∃ (A85 : Option Addr) (m86 : Nat) (c87 : Nat), (∀ w' : World, S57 w'.heap → w'.cell? (x4.add 6) = some (.slice A85 m86 c87)) ∧ ∃ (n88 : Int), (∀ w' : World, S57 w'.heap → w'.cell? x6 = some (.int .i64 n88)) ∧ ∃ (n89 : Int), (∀ w' : World, S57 w'.heap → w'.cell? (x6.add 1) = some (.int .i64 n89)) ∧ ∃ (n90 : Int), (∀ w' : World, S57 w'.heap → w'.cell? (x6.add 2) = some (.int .i64 n90)) ∧ ∃ (A91 : Option Addr) (m92 : Nat) (c93 : Nat), (∀ w' : World, S57 w'.heap → w'.cell? (x6.add 3) = some (.slice A91 m92 c93)) ∧ ∃ (n94 : Int), (∀ w' : World, S57 w'.heap → w'.cell? (x6.add 4) = some (.int .i64 n94)) ∧ ∃ (A95 : Option Addr) (m96 : Nat) (c97 : Nat), (∀ w' : World, S57 w'.heap → w'.cell? (x6.add 5) = some (.slice A95 m96 c97)) ∧ ∃ (A98 : Option Addr) (m99 : Nat) (c100 : Nat), (∀ w' : World, S57 w'.heap → w'.cell? (x6.add 6) = some (.slice A98 m99 c100)) ∧ CallsE Tryd.prog 19 #[.agg #[.int .i64 n75, .int .i64 n76, .int .i64 n77, .slice A78 m79 c80, .int .i64 n81, .slice A82 m83 c84, .slice A85 m86 c87]] w (fun v101 w102 => ∃ (n103 : Int) (n104 : Int) (n105 : Int) (A106 : Option Addr) (m107 : Nat) (c108 : Nat) (n109 : Int) (A110 : Option Addr) (m111 : Nat) (c112 : Nat) (A113 : Option Addr) (m114 : Nat) (c115 : Nat), v101 = .agg #[.int .i64 n103, .int .i64 n104, .int .i64 n105, .slice A106 m107 c108, .int .i64 n109, .slice A110 m111 c112, .slice A113 m114 c115] ∧ S57 w102.heap ∧ CallsE Tryd.prog 18 #[.agg #[.int .i64 n103, .int .i64 n104, .int .i64 n105, .slice A106 m107 c108, .int .i64 n109, .slice A110 m111 c112, .slice A113 m114 c115], .agg #[.int .i64 n88, .int .i64 n89, .int .i64 n90, .slice A91 m92 c93, .int .i64 n94, .slice A95 m96 c97, .slice A98 m99 c100]] w102 (fun v116 w117 => ∃ (b118 : Bool), v116 = .bool b118 ∧ S57 w117.heap ∧ law17_ImageReads.p5 K x0A x0n x0c x3A x3n x3c x4 (!b118) w117)))
abbrev law17_ImageReads.p3 (K : Value → World → Prop) (x0A : Option Addr) (x0n : Nat) (x0c : Nat) (x3A : Option Addr) (x3n : Nat) (x3c : Nat) (x4 : Addr) (x5 : Int) (w : World) : Prop :=
  CallsE Tryd.prog 21 #[.slice x0A x0n x0c] w (fun v33 w34 => ∃ (n35 : Int) (n36 : Int) (n37 : Int) (A38 : Option Addr) (m39 : Nat) (c40 : Nat) (n41 : Int) (A42 : Option Addr) (m43 : Nat) (c44 : Nat) (A45 : Option Addr) (m46 : Nat) (c47 : Nat) (n48 : Int), v33 = .tuple #[.agg #[.int .i64 n35, .int .i64 n36, .int .i64 n37, .slice A38 m39 c40, .int .i64 n41, .slice A42 m43 c44, .slice A45 m46 c47], .int .i64 n48] ∧ wlet (w34.alloc (.cells #[.int .i64 0, .int .i64 0, .int .i64 0, .slice none 0 0, .int .i64 0, .slice none 0 0, .slice none 0 0] 36)) fun w49 => canStore w49 (⟨w34.heap.size, 0, none⟩) ∧ wlet (w49.setCell (⟨w34.heap.size, 0, none⟩) (.int .i64 n35)) fun w50 => canStore w50 (⟨w34.heap.size, 1, none⟩) ∧ wlet (w50.setCell (⟨w34.heap.size, 1, none⟩) (.int .i64 n36)) fun w51 => canStore w51 (⟨w34.heap.size, 2, none⟩) ∧ wlet (w51.setCell (⟨w34.heap.size, 2, none⟩) (.int .i64 n37)) fun w52 => canStore w52 (⟨w34.heap.size, 3, none⟩) ∧ wlet (w52.setCell (⟨w34.heap.size, 3, none⟩) (.slice A38 m39 c40)) fun w53 => canStore w53 (⟨w34.heap.size, 4, none⟩) ∧ wlet (w53.setCell (⟨w34.heap.size, 4, none⟩) (.int .i64 n41)) fun w54 => canStore w54 (⟨w34.heap.size, 5, none⟩) ∧ wlet (w54.setCell (⟨w34.heap.size, 5, none⟩) (.slice A42 m43 c44)) fun w55 => canStore w55 (⟨w34.heap.size, 6, none⟩) ∧ wlet (w55.setCell (⟨w34.heap.size, 6, none⟩) (.slice A45 m46 c47)) fun w56 => law17_ImageReads.p4 K x0A x0n x0c x3A x3n x3c x4 x5 (⟨w34.heap.size, 0, none⟩) n48 w56)
abbrev law17_ImageReads.p2 (K : Value → World → Prop) (x0A : Option Addr) (x0n : Nat) (x0c : Nat) (x3A : Option Addr) (x3n : Nat) (x3c : Nat) (w : World) : Prop :=
  CallsE Tryd.prog 17 #[.slice x3A x3n x3c] w (fun v9 w10 => ∃ (n11 : Int) (n12 : Int) (n13 : Int) (A14 : Option Addr) (m15 : Nat) (c16 : Nat) (n17 : Int) (A18 : Option Addr) (m19 : Nat) (c20 : Nat) (A21 : Option Addr) (m22 : Nat) (c23 : Nat) (n24 : Int), v9 = .tuple #[.agg #[.int .i64 n11, .int .i64 n12, .int .i64 n13, .slice A14 m15 c16, .int .i64 n17, .slice A18 m19 c20, .slice A21 m22 c23], .int .i64 n24] ∧ wlet (w10.alloc (.cells #[.int .i64 0, .int .i64 0, .int .i64 0, .slice none 0 0, .int .i64 0, .slice none 0 0, .slice none 0 0] 32)) fun w25 => canStore w25 (⟨w10.heap.size, 0, none⟩) ∧ wlet (w25.setCell (⟨w10.heap.size, 0, none⟩) (.int .i64 n11)) fun w26 => canStore w26 (⟨w10.heap.size, 1, none⟩) ∧ wlet (w26.setCell (⟨w10.heap.size, 1, none⟩) (.int .i64 n12)) fun w27 => canStore w27 (⟨w10.heap.size, 2, none⟩) ∧ wlet (w27.setCell (⟨w10.heap.size, 2, none⟩) (.int .i64 n13)) fun w28 => canStore w28 (⟨w10.heap.size, 3, none⟩) ∧ wlet (w28.setCell (⟨w10.heap.size, 3, none⟩) (.slice A14 m15 c16)) fun w29 => canStore w29 (⟨w10.heap.size, 4, none⟩) ∧ wlet (w29.setCell (⟨w10.heap.size, 4, none⟩) (.int .i64 n17)) fun w30 => canStore w30 (⟨w10.heap.size, 5, none⟩) ∧ wlet (w30.setCell (⟨w10.heap.size, 5, none⟩) (.slice A18 m19 c20)) fun w31 => canStore w31 (⟨w10.heap.size, 6, none⟩) ∧ wlet (w31.setCell (⟨w10.heap.size, 6, none⟩) (.slice A21 m22 c23)) fun w32 => law17_ImageReads.p3 K x0A x0n x0c x3A x3n x3c (⟨w10.heap.size, 0, none⟩) n24 w32)
abbrev law17_ImageReads.p1 (K : Value → World → Prop) (x0A : Option Addr) (x0n : Nat) (x0c : Nat) (w : World) : Prop :=
  CallsE Tryd.prog 20 #[.slice x0A x0n x0c] w (fun v4 w5 => ∃ (A6 : Option Addr) (m7 : Nat) (c8 : Nat), v4 = .slice A6 m7 c8 ∧ law17_ImageReads.p2 K x0A x0n x0c A6 m7 c8 w5)
abbrev law17_ImageReads.p0 (K : Value → World → Prop) (x0A : Option Addr) (x0n : Nat) (x0c : Nat) (w : World) : Prop :=
  CallsE Tryd.prog 6 #[] w (fun v1 w2 => ∃ (b3 : Bool), v1 = .bool b3 ∧ condP (!b3) (K (.bool false) w2) (law17_ImageReads.p1 K x0A x0n x0c w2))
abbrev law17_ImageReads.F (q0A : Option Addr) (q0n : Nat) (q0c : Nat) (K : Value → World → Prop) (w : World) : Prop :=
  law17_ImageReads.p0 K q0A q0n q0c w
theorem law17_ImageReads.ok {q0A : Option Addr} {q0n : Nat} {q0c : Nat} {K : Value → World → Prop} {w : World} (h : law17_ImageReads.F q0A q0n q0c K w) :
    CallsE Tryd.prog 4 #[.slice q0A q0n q0c] w K := by
  refine calls_of_J (n := 53) (rs := [.tmp 2]) Tryd.func4 rfl rfl rfl rfl ?_
  refine J_seq (fun σ w => vS (σ 0) fun x0A x0n x0c => law17_ImageReads.p0 K x0A x0n x0c w) ?_ ?_
  ·
    exact sh_sound _ _ _ _ (Eq.mp (by kernel_rfl) h)
  · intro σ w h
    obtain ⟨x0A, x0n, x0c, e0, h⟩ := vS_elim h
    refine J.sub ?_ ((Sub.base _).upd e0)
    clear e0
    refine J_seq (fun σ w => vS (σ 0) fun x0A x0n x0c => law17_ImageReads.p1 K x0A x0n x0c w) ?_ ?_
    ·
      exact sh_sound _ _ _ _ (Eq.mp (by kernel_rfl) h)
    · intro σ w h
      obtain ⟨x0A, x0n, x0c, e0, h⟩ := vS_elim h
      refine J.sub ?_ ((Sub.base _).upd e0)
      clear e0
      refine J_seq (fun σ w => vS (σ 0) fun x0A x0n x0c => vS (σ 3) fun x3A x3n x3c => law17_ImageReads.p2 K x0A x0n x0c x3A x3n x3c w) ?_ ?_
      ·
        exact sh_sound _ _ _ _ (Eq.mp (by kernel_rfl) h)
      · intro σ w h
        obtain ⟨x0A, x0n, x0c, e0, h⟩ := vS_elim h
        obtain ⟨x3A, x3n, x3c, e3, h⟩ := vS_elim h
        refine J.sub ?_ (((Sub.base _).upd e0).upd e3)
        clear e0 e3
        refine J_seq (fun σ w => vS (σ 0) fun x0A x0n x0c => vS (σ 3) fun x3A x3n x3c => vPa (σ 4) fun x4 => vI .i64 (σ 5) fun x5 => law17_ImageReads.p3 K x0A x0n x0c x3A x3n x3c x4 x5 w) ?_ ?_
        ·
          exact sh_sound _ _ _ _ (Eq.mp (by kernel_rfl) h)
        · intro σ w h
          obtain ⟨x0A, x0n, x0c, e0, h⟩ := vS_elim h
          obtain ⟨x3A, x3n, x3c, e3, h⟩ := vS_elim h
          obtain ⟨x4, e4, h⟩ := vPa_elim h
          obtain ⟨x5, e5, h⟩ := vI_elim h
          refine J.sub ?_ (((((Sub.base _).upd e0).upd e3).upd e4).upd e5)
          clear e0 e3 e4 e5
          refine J_seq (fun σ w => vS (σ 0) fun x0A x0n x0c => vS (σ 3) fun x3A x3n x3c => vPa (σ 4) fun x4 => vI .i64 (σ 5) fun x5 => vPa (σ 6) fun x6 => vI .i64 (σ 7) fun x7 => law17_ImageReads.p4 K x0A x0n x0c x3A x3n x3c x4 x5 x6 x7 w) ?_ ?_
          ·
            exact sh_sound _ _ _ _ (Eq.mp (by kernel_rfl) h)
          · intro σ w h
            obtain ⟨x0A, x0n, x0c, e0, h⟩ := vS_elim h
            obtain ⟨x3A, x3n, x3c, e3, h⟩ := vS_elim h
            obtain ⟨x4, e4, h⟩ := vPa_elim h
            obtain ⟨x5, e5, h⟩ := vI_elim h
            obtain ⟨x6, e6, h⟩ := vPa_elim h
            obtain ⟨x7, e7, h⟩ := vI_elim h
            refine J.sub ?_ (((((((Sub.base _).upd e0).upd e3).upd e4).upd e5).upd e6).upd e7)
            clear e0 e3 e4 e5 e6 e7
            refine J_seq (fun σ w => vS (σ 0) fun x0A x0n x0c => vS (σ 3) fun x3A x3n x3c => vPa (σ 4) fun x4 => law17_ImageReads.p6 K x0A x0n x0c x3A x3n x3c x4 w) ?_ ?_
            ·
              refine J_seq (fun σ w => vS (σ 0) fun x0A x0n x0c => vS (σ 3) fun x3A x3n x3c => vPa (σ 4) fun x4 => vB (σ 32) fun x32 => law17_ImageReads.p5 K x0A x0n x0c x3A x3n x3c x4 x32 w) ?_ ?_
              ·
                exact J_held [] [(0, 0), (1, 0), (2, 0), (3, 0), (4, 1), (6, 1), (5, 2), (7, 2), (8, 0), (9, 0)] (by kernel_rfl) (Eq.mp (by kernel_rfl) h)
              · intro σ w h
                obtain ⟨x0A, x0n, x0c, e0, h⟩ := vS_elim h
                obtain ⟨x3A, x3n, x3c, e3, h⟩ := vS_elim h
                obtain ⟨x4, e4, h⟩ := vPa_elim h
                obtain ⟨x32, e32, h⟩ := vB_elim h
                refine J.sub ?_ (((((Sub.base _).upd e0).upd e3).upd e4).upd e32)
                clear e0 e3 e4 e32
                exact sh_sound _ _ _ _ (Eq.mp (by kernel_rfl) h)
            · intro σ w h
              obtain ⟨x0A, x0n, x0c, e0, h⟩ := vS_elim h
              obtain ⟨x3A, x3n, x3c, e3, h⟩ := vS_elim h
              obtain ⟨x4, e4, h⟩ := vPa_elim h
              refine J.sub ?_ ((((Sub.base _).upd e0).upd e3).upd e4)
              clear e0 e3 e4
              refine J_seq (fun σ w => vS (σ 0) fun x0A x0n x0c => vS (σ 3) fun x3A x3n x3c => law17_ImageReads.p12 K x0A x0n x0c x3A x3n x3c w) ?_ ?_
              ·
                refine J_seq (fun σ w => vS (σ 0) fun x0A x0n x0c => vS (σ 3) fun x3A x3n x3c => vPa (σ 4) fun x4 => vI .i64 (σ 35) fun x35 => vI .i64 (σ 36) fun x36 => law17_ImageReads.p7 K x0A x0n x0c x3A x3n x3c x4 x35 x36 w) ?_ ?_
                ·
                  exact sh_sound _ _ _ _ (Eq.mp (by kernel_rfl) h)
                · intro σ w h
                  obtain ⟨x0A, x0n, x0c, e0, h⟩ := vS_elim h
                  obtain ⟨x3A, x3n, x3c, e3, h⟩ := vS_elim h
                  obtain ⟨x4, e4, h⟩ := vPa_elim h
                  obtain ⟨x35, e35, h⟩ := vI_elim h
                  obtain ⟨x36, e36, h⟩ := vI_elim h
                  refine J.sub ?_ ((((((Sub.base _).upd e0).upd e3).upd e4).upd e35).upd e36)
                  clear e0 e3 e4 e35 e36
                  refine J_block ?_
                  refine J_loop (fun k σ w => vS (σ 0) fun x0A x0n x0c => vS (σ 3) fun x3A x3n x3c => vPa (σ 4) fun x4 => vI .i64 (σ 35) fun x35 => vI .i64 (σ 36) fun x36 => law17_ImageReads.l0 K k x0A x0n x0c x3A x3n x3c x4 x35 x36 w) (Eq.mp (by kernel_rfl) h) ?_ ?_
                  · intro σ w h
                    obtain ⟨x0A, x0n, x0c, e0, h⟩ := vS_elim h
                    obtain ⟨x3A, x3n, x3c, e3, h⟩ := vS_elim h
                    obtain ⟨x4, e4, h⟩ := vPa_elim h
                    obtain ⟨x35, e35, h⟩ := vI_elim h
                    obtain ⟨x36, e36, h⟩ := vI_elim h
                    exact h
                  · intro k0 σ w h
                    obtain ⟨x0A, x0n, x0c, e0, h⟩ := vS_elim h
                    obtain ⟨x3A, x3n, x3c, e3, h⟩ := vS_elim h
                    obtain ⟨x4, e4, h⟩ := vPa_elim h
                    obtain ⟨x35, e35, h⟩ := vI_elim h
                    obtain ⟨x36, e36, h⟩ := vI_elim h
                    refine J.sub ?_ ((((((Sub.base _).upd e0).upd e3).upd e4).upd e35).upd e36)
                    clear e0 e3 e4 e35 e36
                    refine J_seq (fun σ w => vS (σ 0) fun x0A x0n x0c => vS (σ 3) fun x3A x3n x3c => vPa (σ 4) fun x4 => vI .i64 (σ 35) fun x35 => vI .i64 (σ 36) fun x36 => vB (σ 37) fun x37 => law17_ImageReads.p8 (law17_ImageReads.l0 K k0) K x0A x0n x0c x3A x3n x3c x4 x35 x36 x37 w) ?_ ?_
                    ·
                      exact sh_sound _ _ _ _ (Eq.mp (by kernel_rfl) h)
                    · intro σ w h
                      obtain ⟨x0A, x0n, x0c, e0, h⟩ := vS_elim h
                      obtain ⟨x3A, x3n, x3c, e3, h⟩ := vS_elim h
                      obtain ⟨x4, e4, h⟩ := vPa_elim h
                      obtain ⟨x35, e35, h⟩ := vI_elim h
                      obtain ⟨x36, e36, h⟩ := vI_elim h
                      obtain ⟨x37, e37, h⟩ := vB_elim h
                      refine J.sub ?_ (((((((Sub.base _).upd e0).upd e3).upd e4).upd e35).upd e36).upd e37)
                      clear e0 e3 e4 e35 e36 e37
                      refine J_seq (fun σ w => vS (σ 0) fun x0A x0n x0c => vS (σ 3) fun x3A x3n x3c => vPa (σ 4) fun x4 => vI .i64 (σ 35) fun x35 => vI .i64 (σ 36) fun x36 => law17_ImageReads.p9 (law17_ImageReads.l0 K k0) K x0A x0n x0c x3A x3n x3c x4 x35 x36 w) ?_ ?_
                      ·
                        exact sh_sound _ _ _ _ (Eq.mp (by kernel_rfl) h)
                      · intro σ w h
                        obtain ⟨x0A, x0n, x0c, e0, h⟩ := vS_elim h
                        obtain ⟨x3A, x3n, x3c, e3, h⟩ := vS_elim h
                        obtain ⟨x4, e4, h⟩ := vPa_elim h
                        obtain ⟨x35, e35, h⟩ := vI_elim h
                        obtain ⟨x36, e36, h⟩ := vI_elim h
                        refine J.sub ?_ ((((((Sub.base _).upd e0).upd e3).upd e4).upd e35).upd e36)
                        clear e0 e3 e4 e35 e36
                        refine J_seq (fun σ w => vS (σ 0) fun x0A x0n x0c => vS (σ 3) fun x3A x3n x3c => vPa (σ 4) fun x4 => vI .i64 (σ 35) fun x35 => vI .i64 (σ 36) fun x36 => law17_ImageReads.p11 (law17_ImageReads.l0 K k0) K x0A x0n x0c x3A x3n x3c x4 x35 x36 w) ?_ ?_
                        ·
                          refine J_block ?_
                          refine J_seq (fun σ w => vS (σ 0) fun x0A x0n x0c => vS (σ 3) fun x3A x3n x3c => vPa (σ 4) fun x4 => vI .i64 (σ 8) fun x8 => vI .i64 (σ 35) fun x35 => vI .i64 (σ 36) fun x36 => law17_ImageReads.p10 (law17_ImageReads.l0 K k0) K x0A x0n x0c x3A x3n x3c x4 x8 x35 x36 w) ?_ ?_
                          ·
                            exact sh_sound _ _ _ _ (Eq.mp (by kernel_rfl) h)
                          · intro σ w h
                            obtain ⟨x0A, x0n, x0c, e0, h⟩ := vS_elim h
                            obtain ⟨x3A, x3n, x3c, e3, h⟩ := vS_elim h
                            obtain ⟨x4, e4, h⟩ := vPa_elim h
                            obtain ⟨x8, e8, h⟩ := vI_elim h
                            obtain ⟨x35, e35, h⟩ := vI_elim h
                            obtain ⟨x36, e36, h⟩ := vI_elim h
                            refine J.sub ?_ (((((((Sub.base _).upd e0).upd e3).upd e4).upd e8).upd e35).upd e36)
                            clear e0 e3 e4 e8 e35 e36
                            exact J_held [10] [(0, 0), (2, 0), (3, 0), (5, 0), (1, 1), (4, 1), (6, 0), (7, 1), (8, 0), (9, 0), (10, 3)] (by kernel_rfl) (Eq.mp (by kernel_rfl) h)
                        · intro σ w h
                          obtain ⟨x0A, x0n, x0c, e0, h⟩ := vS_elim h
                          obtain ⟨x3A, x3n, x3c, e3, h⟩ := vS_elim h
                          obtain ⟨x4, e4, h⟩ := vPa_elim h
                          obtain ⟨x35, e35, h⟩ := vI_elim h
                          obtain ⟨x36, e36, h⟩ := vI_elim h
                          refine J.sub ?_ ((((((Sub.base _).upd e0).upd e3).upd e4).upd e35).upd e36)
                          clear e0 e3 e4 e35 e36
                          exact sh_sound _ _ _ _ (Eq.mp (by kernel_rfl) h)
              · intro σ w h
                obtain ⟨x0A, x0n, x0c, e0, h⟩ := vS_elim h
                obtain ⟨x3A, x3n, x3c, e3, h⟩ := vS_elim h
                refine J.sub ?_ (((Sub.base _).upd e0).upd e3)
                clear e0 e3
                exact sh_sound _ _ _ _ (Eq.mp (by kernel_rfl) h)

/-! ### hayloft/hayloftlaw17.ImageOne: function 5 -/
abbrev law17_ImageOne.p5 (K : Value → World → Prop) (x2 : Bool) (w : World) : Prop :=
  K (.bool x2) w
abbrev law17_ImageOne.p8 (K : Value → World → Prop) (x2 : Bool) (w : World) : Prop :=
  K (.bool x2) w
abbrev law17_ImageOne.p7 (K : Value → World → Prop) (x0A : Option Addr) (x0n : Nat) (x0c : Nat) (x3 : Addr) (x5A : Option Addr) (x5n : Nat) (x5c : Nat) (x6 : Int) (w : World) : Prop :=
  ∃ (S54 : Array Obj → Prop), S54 w.heap ∧ condP (x6 == (0 : Int)) (∃ (n55 : Int), (∀ w' : World, S54 w'.heap → w'.cell? x3 = some (.int .i64 n55)) ∧ ∃ (n56 : Int), (∀ w' : World, S54 w'.heap → w'.cell? (x3.add 1) = some (.int .i64 n56)) ∧ ∃ (n57 : Int), (∀ w' : World, S54 w'.heap → w'.cell? (x3.add 2) = some (.int .i64 n57)) ∧ ∃ (A58 : Option Addr) (m59 : Nat) (c60 : Nat), (∀ w' : World, S54 w'.heap → w'.cell? (x3.add 3) = some (.slice A58 m59 c60)) ∧ ∃ (n61 : Int), (∀ w' : World, S54 w'.heap → w'.cell? (x3.add 4) = some (.int .i64 n61)) ∧ ∃ (A62 : Option Addr) (m63 : Nat) (c64 : Nat), (∀ w' : World, S54 w'.heap → w'.cell? (x3.add 5) = some (.slice A62 m63 c64)) ∧ ∃ (A65 : Option Addr) (m66 : Nat) (c67 : Nat), (∀ w' : World, S54 w'.heap → w'.cell? (x3.add 6) = some (.slice A65 m66 c67)) ∧ CallsE Tryd.prog 13 #[.agg #[.int .i64 n55, .int .i64 n56, .int .i64 n57, .slice A58 m59 c60, .int .i64 n61, .slice A62 m63 c64, .slice A65 m66 c67]] w (fun v68 w69 => ∃ (b70 : Bool), v68 = .bool b70 ∧ S54 w69.heap ∧ condP b70 (∃ (A71 : Option Addr) (m72 : Nat) (c73 : Nat), (∀ w' : World, S54 w'.heap → w'.cell? (x3.add 6) = some (.slice A71 m72 c73)) ∧ ∃ (n74 : Int), (∀ w' : World, S54 w'.heap → w'.cell? x3 = some (.int .i64 n74)) ∧ ∃ (n75 : Int), (∀ w' : World, S54 w'.heap → w'.cell? (x3.add 1) = some (.int .i64 n75)) ∧ ∃ (n76 : Int), (∀ w' : World, S54 w'.heap → w'.cell? (x3.add 2) = some (.int .i64 n76)) ∧ ∃ (A77 : Option Addr) (m78 : Nat) (c79 : Nat), (∀ w' : World, S54 w'.heap → w'.cell? (x3.add 3) = some (.slice A77 m78 c79)) ∧ CallsE Tryd.prog 15 #[.agg #[.int .i64 n74, .int .i64 n75, .int .i64 n76, .slice A77 m78 c79]] w69 (fun v80 w81 => ∃ (n82 : Int), v80 = .int .i64 n82 ∧ S54 w81.heap ∧ condP (((m72 : Nat) : Int) == n82) (CallsE Tryd.prog 12 #[.slice x5A x5n x5c, .slice x0A x0n x0c] w81 (fun v83 w84 => ∃ (b85 : Bool), v83 = .bool b85 ∧ S54 w84.heap ∧ law17_ImageOne.p8 K b85 w84)) (law17_ImageOne.p8 K false w81))) (law17_ImageOne.p8 K false w69))) (law17_ImageOne.p8 K false w)
abbrev law17_ImageOne.p6 (K : Value → World → Prop) (x0A : Option Addr) (x0n : Nat) (x0c : Nat) (x3 : Addr) (w : World) : Prop :=
  ∃ (n35 : Int), w.cell? x3 = some (.int .i64 n35) ∧ ∃ (n36 : Int), w.cell? (x3.add 1) = some (.int .i64 n36) ∧ ∃ (n37 : Int), w.cell? (x3.add 2) = some (.int .i64 n37) ∧ ∃ (A38 : Option Addr) (m39 : Nat) (c40 : Nat), w.cell? (x3.add 3) = some (.slice A38 m39 c40) ∧ ∃ (n41 : Int), w.cell? (x3.add 4) = some (.int .i64 n41) ∧ ∃ (A42 : Option Addr) (m43 : Nat) (c44 : Nat), w.cell? (x3.add 5) = some (.slice A42 m43 c44) ∧ ∃ (A45 : Option Addr) (m46 : Nat) (c47 : Nat), w.cell? (x3.add 6) = some (.slice A45 m46 c47) ∧ CallsE Tryd.prog 8 #[.agg #[.int .i64 n35, .int .i64 n36, .int .i64 n37, .slice A38 m39 c40, .int .i64 n41, .slice A42 m43 c44, .slice A45 m46 c47]] w (fun v48 w49 => ∃ (A50 : Option Addr) (m51 : Nat) (c52 : Nat) (n53 : Int), v48 = .tuple #[.slice A50 m51 c52, .int .i64 n53] ∧ law17_ImageOne.p7 K x0A x0n x0c x3 A50 m51 c52 n53 w49)
abbrev law17_ImageOne.p4 (K : Value → World → Prop) (x0A : Option Addr) (x0n : Nat) (x0c : Nat) (x3 : Addr) (x18 : Bool) (w : World) : Prop :=
  condP x18 (∃ (n28 : Int), w.cell? (x3.add 4) = some (.int .i64 n28) ∧ condP (n28 == (0 : Int)) (∃ (A29 : Option Addr) (m30 : Nat) (c31 : Nat), w.cell? (x3.add 5) = some (.slice A29 m30 c31) ∧ condP (((m30 : Nat) : Int) == (0 : Int)) (∃ (A32 : Option Addr) (m33 : Nat) (c34 : Nat), w.cell? (x3.add 6) = some (.slice A32 m33 c34) ∧ law17_ImageOne.p5 K (((m33 : Nat) : Int) == (0 : Int)) w) (law17_ImageOne.p5 K false w)) (law17_ImageOne.p5 K false w)) (law17_ImageOne.p6 K x0A x0n x0c x3 w)
abbrev law17_ImageOne.p3 (K : Value → World → Prop) (x0A : Option Addr) (x0n : Nat) (x0c : Nat) (x3 : Addr) (x4 : Int) (w : World) : Prop :=
  law17_ImageOne.p4 K x0A x0n x0c x3 (x4 != (0 : Int)) w
abbrev law17_ImageOne.p2 (K : Value → World → Prop) (x0A : Option Addr) (x0n : Nat) (x0c : Nat) (w : World) : Prop :=
  CallsE Tryd.prog 17 #[.slice x0A x0n x0c] w (fun v4 w5 => ∃ (n6 : Int) (n7 : Int) (n8 : Int) (A9 : Option Addr) (m10 : Nat) (c11 : Nat) (n12 : Int) (A13 : Option Addr) (m14 : Nat) (c15 : Nat) (A16 : Option Addr) (m17 : Nat) (c18 : Nat) (n19 : Int), v4 = .tuple #[.agg #[.int .i64 n6, .int .i64 n7, .int .i64 n8, .slice A9 m10 c11, .int .i64 n12, .slice A13 m14 c15, .slice A16 m17 c18], .int .i64 n19] ∧ wlet (w5.alloc (.cells #[.int .i64 0, .int .i64 0, .int .i64 0, .slice none 0 0, .int .i64 0, .slice none 0 0, .slice none 0 0] 32)) fun w20 => canStore w20 (⟨w5.heap.size, 0, none⟩) ∧ wlet (w20.setCell (⟨w5.heap.size, 0, none⟩) (.int .i64 n6)) fun w21 => canStore w21 (⟨w5.heap.size, 1, none⟩) ∧ wlet (w21.setCell (⟨w5.heap.size, 1, none⟩) (.int .i64 n7)) fun w22 => canStore w22 (⟨w5.heap.size, 2, none⟩) ∧ wlet (w22.setCell (⟨w5.heap.size, 2, none⟩) (.int .i64 n8)) fun w23 => canStore w23 (⟨w5.heap.size, 3, none⟩) ∧ wlet (w23.setCell (⟨w5.heap.size, 3, none⟩) (.slice A9 m10 c11)) fun w24 => canStore w24 (⟨w5.heap.size, 4, none⟩) ∧ wlet (w24.setCell (⟨w5.heap.size, 4, none⟩) (.int .i64 n12)) fun w25 => canStore w25 (⟨w5.heap.size, 5, none⟩) ∧ wlet (w25.setCell (⟨w5.heap.size, 5, none⟩) (.slice A13 m14 c15)) fun w26 => canStore w26 (⟨w5.heap.size, 6, none⟩) ∧ wlet (w26.setCell (⟨w5.heap.size, 6, none⟩) (.slice A16 m17 c18)) fun w27 => law17_ImageOne.p3 K x0A x0n x0c (⟨w5.heap.size, 0, none⟩) n19 w27)
abbrev law17_ImageOne.p1 (K : Value → World → Prop) (x0A : Option Addr) (x0n : Nat) (x0c : Nat) (w : World) : Prop :=
  condP (decide ((20000 : Int) < ((x0n : Nat) : Int))) (K (.bool true) w) (law17_ImageOne.p2 K x0A x0n x0c w)
abbrev law17_ImageOne.p0 (K : Value → World → Prop) (x0A : Option Addr) (x0n : Nat) (x0c : Nat) (w : World) : Prop :=
  CallsE Tryd.prog 6 #[] w (fun v1 w2 => ∃ (b3 : Bool), v1 = .bool b3 ∧ condP (!b3) (K (.bool false) w2) (law17_ImageOne.p1 K x0A x0n x0c w2))
abbrev law17_ImageOne.F (q0A : Option Addr) (q0n : Nat) (q0c : Nat) (K : Value → World → Prop) (w : World) : Prop :=
  law17_ImageOne.p0 K q0A q0n q0c w
theorem law17_ImageOne.ok {q0A : Option Addr} {q0n : Nat} {q0c : Nat} {K : Value → World → Prop} {w : World} (h : law17_ImageOne.F q0A q0n q0c K w) :
    CallsE Tryd.prog 5 #[.slice q0A q0n q0c] w K := by
  refine calls_of_J (n := 59) (rs := [.tmp 2]) Tryd.func5 rfl rfl rfl rfl ?_
  refine J_seq (fun σ w => vS (σ 0) fun x0A x0n x0c => law17_ImageOne.p0 K x0A x0n x0c w) ?_ ?_
  ·
    exact sh_sound _ _ _ _ (Eq.mp (by kernel_rfl) h)
  · intro σ w h
    obtain ⟨x0A, x0n, x0c, e0, h⟩ := vS_elim h
    refine J.sub ?_ ((Sub.base _).upd e0)
    clear e0
    refine J_seq (fun σ w => vS (σ 0) fun x0A x0n x0c => law17_ImageOne.p1 K x0A x0n x0c w) ?_ ?_
    ·
      exact sh_sound _ _ _ _ (Eq.mp (by kernel_rfl) h)
    · intro σ w h
      obtain ⟨x0A, x0n, x0c, e0, h⟩ := vS_elim h
      refine J.sub ?_ ((Sub.base _).upd e0)
      clear e0
      refine J_seq (fun σ w => vS (σ 0) fun x0A x0n x0c => law17_ImageOne.p2 K x0A x0n x0c w) ?_ ?_
      ·
        exact sh_sound _ _ _ _ (Eq.mp (by kernel_rfl) h)
      · intro σ w h
        obtain ⟨x0A, x0n, x0c, e0, h⟩ := vS_elim h
        refine J.sub ?_ ((Sub.base _).upd e0)
        clear e0
        refine J_seq (fun σ w => vS (σ 0) fun x0A x0n x0c => vPa (σ 3) fun x3 => vI .i64 (σ 4) fun x4 => law17_ImageOne.p3 K x0A x0n x0c x3 x4 w) ?_ ?_
        ·
          exact sh_sound _ _ _ _ (Eq.mp (by kernel_rfl) h)
        · intro σ w h
          obtain ⟨x0A, x0n, x0c, e0, h⟩ := vS_elim h
          obtain ⟨x3, e3, h⟩ := vPa_elim h
          obtain ⟨x4, e4, h⟩ := vI_elim h
          refine J.sub ?_ ((((Sub.base _).upd e0).upd e3).upd e4)
          clear e0 e3 e4
          refine J_seq (fun σ w => vS (σ 0) fun x0A x0n x0c => vPa (σ 3) fun x3 => law17_ImageOne.p6 K x0A x0n x0c x3 w) ?_ ?_
          ·
            refine J_seq (fun σ w => vS (σ 0) fun x0A x0n x0c => vPa (σ 3) fun x3 => vB (σ 18) fun x18 => law17_ImageOne.p4 K x0A x0n x0c x3 x18 w) ?_ ?_
            ·
              exact sh_sound _ _ _ _ (Eq.mp (by kernel_rfl) h)
            · intro σ w h
              obtain ⟨x0A, x0n, x0c, e0, h⟩ := vS_elim h
              obtain ⟨x3, e3, h⟩ := vPa_elim h
              obtain ⟨x18, e18, h⟩ := vB_elim h
              refine J.sub ?_ ((((Sub.base _).upd e0).upd e3).upd e18)
              clear e0 e3 e18
              refine J_cond' h (by kernel_rfl) (fun h => ?_) (fun h => ?_)
              ·
                refine J_seq (fun σ w => vB (σ 2) fun x2 => law17_ImageOne.p5 K x2 w) ?_ ?_
                ·
                  exact sh_sound _ _ _ _ (Eq.mp (by kernel_rfl) h)
                · intro σ w h
                  obtain ⟨x2, e2, h⟩ := vB_elim h
                  refine J.sub ?_ ((Sub.base _).upd e2)
                  clear e2
                  exact sh_sound _ _ _ _ (Eq.mp (by kernel_rfl) h)
              ·
                exact sh_sound _ _ _ _ (Eq.mp (by kernel_rfl) h)
          · intro σ w h
            obtain ⟨x0A, x0n, x0c, e0, h⟩ := vS_elim h
            obtain ⟨x3, e3, h⟩ := vPa_elim h
            refine J.sub ?_ (((Sub.base _).upd e0).upd e3)
            clear e0 e3
            refine J_seq (fun σ w => vS (σ 0) fun x0A x0n x0c => vPa (σ 3) fun x3 => vS (σ 5) fun x5A x5n x5c => vI .i64 (σ 6) fun x6 => law17_ImageOne.p7 K x0A x0n x0c x3 x5A x5n x5c x6 w) ?_ ?_
            ·
              exact sh_sound _ _ _ _ (Eq.mp (by kernel_rfl) h)
            · intro σ w h
              obtain ⟨x0A, x0n, x0c, e0, h⟩ := vS_elim h
              obtain ⟨x3, e3, h⟩ := vPa_elim h
              obtain ⟨x5A, x5n, x5c, e5, h⟩ := vS_elim h
              obtain ⟨x6, e6, h⟩ := vI_elim h
              refine J.sub ?_ (((((Sub.base _).upd e0).upd e3).upd e5).upd e6)
              clear e0 e3 e5 e6
              refine J_seq (fun σ w => vB (σ 2) fun x2 => law17_ImageOne.p8 K x2 w) ?_ ?_
              ·
                exact J_held [] [(0, 0), (1, 0), (2, 0), (3, 1), (4, 2), (5, 0), (6, 0), (7, 0), (10, 0), (8, 1), (9, 0), (11, 1), (12, 2), (13, 0), (14, 0), (15, 0), (16, 0), (17, 0), (18, 2), (19, 0), (20, 0)] (by kernel_rfl) (Eq.mp (by kernel_rfl) h)
              · intro σ w h
                obtain ⟨x2, e2, h⟩ := vB_elim h
                refine J.sub ?_ ((Sub.base _).upd e2)
                clear e2
                exact sh_sound _ _ _ _ (Eq.mp (by kernel_rfl) h)

/-! ### hayloft/hayloftlaw17.alive: function 6 -/
abbrev law17_alive.p4 (K : Value → World → Prop) (x0 : Bool) (w : World) : Prop :=
  K (.bool x0) w
abbrev law17_alive.p3 (K : Value → World → Prop) (x1 : Addr) (x2A : Option Addr) (x2n : Nat) (x2c : Nat) (x3 : Int) (x4 : Addr) (x5 : Int) (w : World) : Prop :=
  condP (x3 == (0 : Int)) (condP (((x2n : Nat) : Int) == (24 : Int)) ((0 ≤ (0 : Int) ∧ (0 : Int) < ((x2n : Nat) : Int)) ∧ ∃ (a55 : Addr), x2A = some a55 ∧ ∃ (n56 : Int), w.cell? (a55.add ((0 : Int).toNat)) = some (.int .u8 n56) ∧ condP (n56 == (2 : Int)) ((0 ≤ (3 : Int) ∧ (3 : Int) < ((x2n : Nat) : Int)) ∧ ∃ (a57 : Addr), x2A = some a57 ∧ ∃ (n58 : Int), w.cell? (a57.add ((3 : Int).toNat)) = some (.int .u8 n58) ∧ condP (n58 == (8 : Int)) (condP (x5 == (0 : Int)) (∃ (n59 : Int), w.cell? x1 = some (.int .i64 n59) ∧ ∃ (n60 : Int), w.cell? (x1.add 1) = some (.int .i64 n60) ∧ ∃ (n61 : Int), w.cell? (x1.add 2) = some (.int .i64 n61) ∧ ∃ (A62 : Option Addr) (m63 : Nat) (c64 : Nat), w.cell? (x1.add 3) = some (.slice A62 m63 c64) ∧ CallsE Tryd.prog 15 #[.agg #[.int .i64 n59, .int .i64 n60, .int .i64 n61, .slice A62 m63 c64]] w (fun v65 w66 => ∃ (n67 : Int), v65 = .int .i64 n67 ∧ condP (n67 == (16 : Int)) (∃ (n68 : Int), w66.cell? (x4.add 4) = some (.int .i64 n68) ∧ condP (n68 == (512 : Int)) (∃ (A69 : Option Addr) (m70 : Nat) (c71 : Nat), w66.cell? (x4.add 5) = some (.slice A69 m70 c71) ∧ condP (((m70 : Nat) : Int) == (1 : Int)) (∃ (A72 : Option Addr) (m73 : Nat) (c74 : Nat), w66.cell? (x4.add 5) = some (.slice A72 m73 c74) ∧ (0 ≤ (0 : Int) ∧ (0 : Int) < ((m73 : Nat) : Int)) ∧ ∃ (a75 : Addr), A72 = some a75 ∧ ∃ (n76 : Int), w66.cell? (a75.add ((0 : Int).toNat)) = some (.int .i64 n76) ∧ condP (n76 == (8 : Int)) (∃ (A77 : Option Addr) (m78 : Nat) (c79 : Nat), w66.cell? (x4.add 3) = some (.slice A77 m78 c79) ∧ law17_alive.p4 K (((m78 : Nat) : Int) == (1 : Int)) w66) (law17_alive.p4 K false w66)) (law17_alive.p4 K false w66)) (law17_alive.p4 K false w66)) (law17_alive.p4 K false w66))) (law17_alive.p4 K false w)) (law17_alive.p4 K false w)) (law17_alive.p4 K false w)) (law17_alive.p4 K false w)) (law17_alive.p4 K false w)
abbrev law17_alive.p2 (K : Value → World → Prop) (x1 : Addr) (x2A : Option Addr) (x2n : Nat) (x2c : Nat) (x3 : Int) (w : World) : Prop :=
  CallsE Tryd.prog 17 #[.slice x2A x2n x2c] w (fun v31 w32 => ∃ (n33 : Int) (n34 : Int) (n35 : Int) (A36 : Option Addr) (m37 : Nat) (c38 : Nat) (n39 : Int) (A40 : Option Addr) (m41 : Nat) (c42 : Nat) (A43 : Option Addr) (m44 : Nat) (c45 : Nat) (n46 : Int), v31 = .tuple #[.agg #[.int .i64 n33, .int .i64 n34, .int .i64 n35, .slice A36 m37 c38, .int .i64 n39, .slice A40 m41 c42, .slice A43 m44 c45], .int .i64 n46] ∧ wlet (w32.alloc (.cells #[.int .i64 0, .int .i64 0, .int .i64 0, .slice none 0 0, .int .i64 0, .slice none 0 0, .slice none 0 0] 32)) fun w47 => canStore w47 (⟨w32.heap.size, 0, none⟩) ∧ wlet (w47.setCell (⟨w32.heap.size, 0, none⟩) (.int .i64 n33)) fun w48 => canStore w48 (⟨w32.heap.size, 1, none⟩) ∧ wlet (w48.setCell (⟨w32.heap.size, 1, none⟩) (.int .i64 n34)) fun w49 => canStore w49 (⟨w32.heap.size, 2, none⟩) ∧ wlet (w49.setCell (⟨w32.heap.size, 2, none⟩) (.int .i64 n35)) fun w50 => canStore w50 (⟨w32.heap.size, 3, none⟩) ∧ wlet (w50.setCell (⟨w32.heap.size, 3, none⟩) (.slice A36 m37 c38)) fun w51 => canStore w51 (⟨w32.heap.size, 4, none⟩) ∧ wlet (w51.setCell (⟨w32.heap.size, 4, none⟩) (.int .i64 n39)) fun w52 => canStore w52 (⟨w32.heap.size, 5, none⟩) ∧ wlet (w52.setCell (⟨w32.heap.size, 5, none⟩) (.slice A40 m41 c42)) fun w53 => canStore w53 (⟨w32.heap.size, 6, none⟩) ∧ wlet (w53.setCell (⟨w32.heap.size, 6, none⟩) (.slice A43 m44 c45)) fun w54 => law17_alive.p3 K x1 x2A x2n x2c x3 (⟨w32.heap.size, 0, none⟩) n46 w54)
abbrev law17_alive.p1 (K : Value → World → Prop) (x1 : Addr) (w : World) : Prop :=
  ∃ (n12 : Int), w.cell? x1 = some (.int .i64 n12) ∧ ∃ (n13 : Int), w.cell? (x1.add 1) = some (.int .i64 n13) ∧ ∃ (n14 : Int), w.cell? (x1.add 2) = some (.int .i64 n14) ∧ ∃ (A15 : Option Addr) (m16 : Nat) (c17 : Nat), w.cell? (x1.add 3) = some (.slice A15 m16 c17) ∧ ∃ (n18 : Int), w.cell? (x1.add 4) = some (.int .i64 n18) ∧ ∃ (A19 : Option Addr) (m20 : Nat) (c21 : Nat), w.cell? (x1.add 5) = some (.slice A19 m20 c21) ∧ ∃ (A22 : Option Addr) (m23 : Nat) (c24 : Nat), w.cell? (x1.add 6) = some (.slice A22 m23 c24) ∧ CallsE Tryd.prog 8 #[.agg #[.int .i64 n12, .int .i64 n13, .int .i64 n14, .slice A15 m16 c17, .int .i64 n18, .slice A19 m20 c21, .slice A22 m23 c24]] w (fun v25 w26 => ∃ (A27 : Option Addr) (m28 : Nat) (c29 : Nat) (n30 : Int), v25 = .tuple #[.slice A27 m28 c29, .int .i64 n30] ∧ law17_alive.p2 K x1 A27 m28 c29 n30 w26)
abbrev law17_alive.p0 (K : Value → World → Prop) (w : World) : Prop :=
  wlet (w.alloc (.cells #[.int .i64 3] 3)) fun w1 => wlet (w1.alloc (.cells #[.int .i64 8] 3)) fun w2 => (0 ≤ (16 : Int) ∧ (16 : Int) ≤ (16 : Int) ∧ (1 : Int) * (16 : Int) ≤ 281474976710656 ∧ (16 : Int) ≤ 9223372036854775807) ∧ wlet (w2.alloc (.cells (madeCells #[.int .u8 0] ((16 : Int).toNat * 1)) 5)) fun w3 => wlet (w3.alloc (.cells #[.int .i64 0, .int .i64 0, .int .i64 0, .slice none 0 0, .int .i64 0, .slice none 0 0, .slice none 0 0] 32)) fun w4 => canStore w4 (⟨w3.heap.size, 0, none⟩) ∧ wlet (w4.setCell (⟨w3.heap.size, 0, none⟩) (.int .i64 2)) fun w5 => canStore w5 (⟨w3.heap.size, 1, none⟩) ∧ wlet (w5.setCell (⟨w3.heap.size, 1, none⟩) (.int .i64 0)) fun w6 => canStore w6 (⟨w3.heap.size, 2, none⟩) ∧ wlet (w6.setCell (⟨w3.heap.size, 2, none⟩) (.int .i64 0)) fun w7 => canStore w7 (⟨w3.heap.size, 3, none⟩) ∧ wlet (w7.setCell (⟨w3.heap.size, 3, none⟩) (.slice (some ⟨w.heap.size, 0, none⟩) 1 1)) fun w8 => canStore w8 (⟨w3.heap.size, 4, none⟩) ∧ wlet (w8.setCell (⟨w3.heap.size, 4, none⟩) (.int .i64 512)) fun w9 => canStore w9 (⟨w3.heap.size, 5, none⟩) ∧ wlet (w9.setCell (⟨w3.heap.size, 5, none⟩) (.slice (some ⟨w1.heap.size, 0, none⟩) 1 1)) fun w10 => canStore w10 (⟨w3.heap.size, 6, none⟩) ∧ wlet (w10.setCell (⟨w3.heap.size, 6, none⟩) (.slice (some ⟨w2.heap.size, 0, none⟩) ((16 : Int).toNat) ((16 : Int).toNat))) fun w11 => law17_alive.p1 K (⟨w3.heap.size, 0, none⟩) w11
abbrev law17_alive.F (K : Value → World → Prop) (w : World) : Prop :=
  law17_alive.p0 K w
theorem law17_alive.ok {K : Value → World → Prop} {w : World} (h : law17_alive.F K w) :
    CallsE Tryd.prog 6 #[] w K := by
  refine calls_of_J (n := 75) (rs := [.tmp 0]) Tryd.func6 rfl rfl rfl rfl ?_
  refine J_seq (fun σ w => law17_alive.p0 K w) ?_ ?_
  ·
    exact sh_sound _ _ _ _ (Eq.mp (by kernel_rfl) h)
  · intro σ w h
    refine J.sub ?_ (Sub.base _)
    refine J_seq (fun σ w => vPa (σ 1) fun x1 => law17_alive.p1 K x1 w) ?_ ?_
    ·
      exact sh_sound _ _ _ _ (Eq.mp (by kernel_rfl) h)
    · intro σ w h
      obtain ⟨x1, e1, h⟩ := vPa_elim h
      refine J.sub ?_ ((Sub.base _).upd e1)
      clear e1
      refine J_seq (fun σ w => vPa (σ 1) fun x1 => vS (σ 2) fun x2A x2n x2c => vI .i64 (σ 3) fun x3 => law17_alive.p2 K x1 x2A x2n x2c x3 w) ?_ ?_
      ·
        exact sh_sound _ _ _ _ (Eq.mp (by kernel_rfl) h)
      · intro σ w h
        obtain ⟨x1, e1, h⟩ := vPa_elim h
        obtain ⟨x2A, x2n, x2c, e2, h⟩ := vS_elim h
        obtain ⟨x3, e3, h⟩ := vI_elim h
        refine J.sub ?_ ((((Sub.base _).upd e1).upd e2).upd e3)
        clear e1 e2 e3
        refine J_seq (fun σ w => vPa (σ 1) fun x1 => vS (σ 2) fun x2A x2n x2c => vI .i64 (σ 3) fun x3 => vPa (σ 4) fun x4 => vI .i64 (σ 5) fun x5 => law17_alive.p3 K x1 x2A x2n x2c x3 x4 x5 w) ?_ ?_
        ·
          exact sh_sound _ _ _ _ (Eq.mp (by kernel_rfl) h)
        · intro σ w h
          obtain ⟨x1, e1, h⟩ := vPa_elim h
          obtain ⟨x2A, x2n, x2c, e2, h⟩ := vS_elim h
          obtain ⟨x3, e3, h⟩ := vI_elim h
          obtain ⟨x4, e4, h⟩ := vPa_elim h
          obtain ⟨x5, e5, h⟩ := vI_elim h
          refine J.sub ?_ ((((((Sub.base _).upd e1).upd e2).upd e3).upd e4).upd e5)
          clear e1 e2 e3 e4 e5
          refine J_seq (fun σ w => vB (σ 0) fun x0 => law17_alive.p4 K x0 w) ?_ ?_
          ·
            exact sh_sound _ _ _ _ (Eq.mp (by kernel_rfl) h)
          · intro σ w h
            obtain ⟨x0, e0, h⟩ := vB_elim h
            refine J.sub ?_ ((Sub.base _).upd e0)
            clear e0
            exact sh_sound _ _ _ _ (Eq.mp (by kernel_rfl) h)

/-! ### (hayloft/hayloftlaw17.Image).great: function 7 -/
abbrev law17_Image_great.p1 (K : Value → World → Prop) (x2 : Bool) (w : World) : Prop :=
  K (.bool x2) w
abbrev law17_Image_great.p0 (K : Value → World → Prop) (x1 : Addr) (w : World) : Prop :=
  ∃ (A2 : Option Addr) (m3 : Nat) (c4 : Nat), w.cell? (x1.add 3) = some (.slice A2 m3 c4) ∧ condP (decide ((100 : Int) < ((m3 : Nat) : Int))) (law17_Image_great.p1 K true w) (∃ (A5 : Option Addr) (m6 : Nat) (c7 : Nat), w.cell? (x1.add 5) = some (.slice A5 m6 c7) ∧ condP (decide ((1000 : Int) < ((m6 : Nat) : Int))) (law17_Image_great.p1 K true w) (∃ (A8 : Option Addr) (m9 : Nat) (c10 : Nat), w.cell? (x1.add 6) = some (.slice A8 m9 c10) ∧ law17_Image_great.p1 K (decide ((10000 : Int) < ((m9 : Nat) : Int))) w))
abbrev law17_Image_great.F (q0_0 : Int) (q0_1 : Int) (q0_2 : Int) (q0_3A : Option Addr) (q0_3n : Nat) (q0_3c : Nat) (q0_4 : Int) (q0_5A : Option Addr) (q0_5n : Nat) (q0_5c : Nat) (q0_6A : Option Addr) (q0_6n : Nat) (q0_6c : Nat) (K : Value → World → Prop) (w : World) : Prop :=
  wlet (w.alloc (.cells #[.int .i64 q0_0, .int .i64 q0_1, .int .i64 q0_2, .slice q0_3A q0_3n q0_3c, .int .i64 q0_4, .slice q0_5A q0_5n q0_5c, .slice q0_6A q0_6n q0_6c] 27)) fun w1 => law17_Image_great.p0 K (⟨w.heap.size, 0, none⟩) w1
theorem law17_Image_great.ok {q0_0 : Int} {q0_1 : Int} {q0_2 : Int} {q0_3A : Option Addr} {q0_3n : Nat} {q0_3c : Nat} {q0_4 : Int} {q0_5A : Option Addr} {q0_5n : Nat} {q0_5c : Nat} {q0_6A : Option Addr} {q0_6n : Nat} {q0_6c : Nat} {K : Value → World → Prop} {w : World} (h : law17_Image_great.F q0_0 q0_1 q0_2 q0_3A q0_3n q0_3c q0_4 q0_5A q0_5n q0_5c q0_6A q0_6n q0_6c K w) :
    CallsE Tryd.prog 7 #[.agg #[.int .i64 q0_0, .int .i64 q0_1, .int .i64 q0_2, .slice q0_3A q0_3n q0_3c, .int .i64 q0_4, .slice q0_5A q0_5n q0_5c, .slice q0_6A q0_6n q0_6c]] w K := by
  refine calls_of_J (n := 20) (rs := [.tmp 2]) Tryd.func7 rfl rfl rfl rfl ?_
  refine J_seq (fun σ w => vPa (σ 1) fun x1 => law17_Image_great.p0 K x1 w) ?_ ?_
  ·
    exact sh_sound _ _ _ _ (Eq.mp (by kernel_rfl) h)
  · intro σ w h
    obtain ⟨x1, e1, h⟩ := vPa_elim h
    refine J.sub ?_ ((Sub.base _).upd e1)
    clear e1
    refine J_seq (fun σ w => vB (σ 2) fun x2 => law17_Image_great.p1 K x2 w) ?_ ?_
    ·
      exact sh_sound _ _ _ _ (Eq.mp (by kernel_rfl) h)
    · intro σ w h
      obtain ⟨x2, e2, h⟩ := vB_elim h
      refine J.sub ?_ ((Sub.base _).upd e2)
      clear e2
      exact sh_sound _ _ _ _ (Eq.mp (by kernel_rfl) h)

/-! ### hayloft/image.Body: function 8 -/
abbrev image_Body.p11 (K : Value → World → Prop) (x2A : Option Addr) (x2n : Nat) (x2c : Nat) (x3 : Int) (w : World) : Prop :=
  K (.tuple #[.slice x2A x2n x2c, .int .i64 x3]) w
abbrev image_Body.p10 (K : Value → World → Prop) (x1 : Addr) (x4A : Option Addr) (x4n : Nat) (x4c : Nat) (x10A : Option Addr) (x10n : Nat) (x10c : Nat) (x11 : Int) (w : World) : Prop :=
  ∃ (S79 : Array Obj → Prop), S79 w.heap ∧ ∃ (A80 : Option Addr) (m81 : Nat) (c82 : Nat), (∀ w' : World, S79 w'.heap → w'.cell? (x1.add 6) = some (.slice A80 m81 c82)) ∧ SemJ Tryd.prog (Builtin.append_ #[25, 25] 25 #[.slice x4A x4n x4c, .slice x10A x10n x10c]) (fun v83 w84 => ∃ (A85 : Option Addr) (m86 : Nat) (c87 : Nat), v83 = .slice A85 m86 c87 ∧ S79 w84.heap ∧ SemJ Tryd.prog (Builtin.append_ #[25, 25] 25 #[.slice A85 m86 c87, .slice A80 m81 c82]) (fun v88 w89 => ∃ (A90 : Option Addr) (m91 : Nat) (c92 : Nat), v88 = .slice A90 m91 c92 ∧ image_Body.p11 K A90 m91 c92 x11 w89) w84) w
abbrev image_Body.p9 (K : Value → World → Prop) (x1 : Addr) (x4A : Option Addr) (x4n : Nat) (x4c : Nat) (w : World) : Prop :=
  ∃ (A70 : Option Addr) (m71 : Nat) (c72 : Nat), w.cell? (x1.add 5) = some (.slice A70 m71 c72) ∧ CallsE Tryd.prog 27 #[.slice A70 m71 c72] w (fun v73 w74 => ∃ (A75 : Option Addr) (m76 : Nat) (c77 : Nat) (n78 : Int), v73 = .tuple #[.slice A75 m76 c77, .int .i64 n78] ∧ image_Body.p10 K x1 x4A x4n x4c A75 m76 c77 n78 w74)
abbrev image_Body.p8 (K : Value → World → Prop) (x1 : Addr) (x4A : Option Addr) (x4n : Nat) (x4c : Nat) (w : World) : Prop :=
  ∃ (n59 : Int), w.cell? (x1.add 4) = some (.int .i64 n59) ∧ (256 : Int) ≠ 0 ∧ CallsE Tryd.prog 22 #[.int .u64 (IntKind.wrap .u64 (IntKind.wrap .i64 (Int.tdiv n59 256)))] w (fun v60 w61 => ∃ (A62 : Option Addr) (m63 : Nat) (c64 : Nat), v60 = .slice A62 m63 c64 ∧ SemJ Tryd.prog (Builtin.append_ #[25, 25] 25 #[.slice x4A x4n x4c, .slice A62 m63 c64]) (fun v65 w66 => ∃ (A67 : Option Addr) (m68 : Nat) (c69 : Nat), v65 = .slice A67 m68 c69 ∧ image_Body.p9 K x1 A67 m68 c69 w66) w61)
abbrev image_Body.p7 (K : Value → World → Prop) (x1 : Addr) (x4A : Option Addr) (x4n : Nat) (x4c : Nat) (x7 : Option Addr) (w : World) : Prop :=
  CallsE Tryd.prog 26 #[.pointer x7] w (fun v49 w50 => ∃ (A51 : Option Addr) (m52 : Nat) (c53 : Nat), v49 = .slice A51 m52 c53 ∧ SemJ Tryd.prog (Builtin.append_ #[25, 25] 25 #[.slice x4A x4n x4c, .slice A51 m52 c53]) (fun v54 w55 => ∃ (A56 : Option Addr) (m57 : Nat) (c58 : Nat), v54 = .slice A56 m57 c58 ∧ image_Body.p8 K x1 A56 m57 c58 w55) w50)
abbrev image_Body.b1 (L1 : Addr → Option Addr → Nat → Nat → Option Addr → Option Addr → Nat → Nat → Int → Int → World → Prop) (K : Value → World → Prop) (x1 : Addr) (x4A : Option Addr) (x4n : Nat) (x4c : Nat) (x7 : Option Addr) (x43A : Option Addr) (x43n : Nat) (x43c : Nat) (x44 : Int) (x45 : Int) (w : World) : Prop :=
  condP (decide (x45 < x44)) ((0 ≤ x45 ∧ x45 < ((x43n : Nat) : Int)) ∧ ∃ (a44 : Addr), x43A = some a44 ∧ ∃ (n45 : Int), w.cell? (a44.add x45.toNat) = some (.int .i64 n45) ∧ CallsE Tryd.prog 25 #[.pointer x7, .int .i64 n45] w (fun v46 w47 => ∃ (b48 : Bool), v46 = .bool b48 ∧ L1 x1 x4A x4n x4c x7 x43A x43n x43c x44 (IntKind.wrap .i64 (x45 + (1 : Int))) w47)) (image_Body.p7 K x1 x4A x4n x4c x7 w)
def image_Body.l1 (K : Value → World → Prop) (k : Nat) : Addr → Option Addr → Nat → Nat → Option Addr → Option Addr → Nat → Nat → Int → Int → World → Prop :=
  Nat.rec (motive := fun _ => Addr → Option Addr → Nat → Nat → Option Addr → Option Addr → Nat → Nat → Int → Int → World → Prop) (fun _ _ _ _ _ _ _ _ _ _ _ => False) (fun _ ih => image_Body.b1 ih K) k
theorem image_Body.l1_succ (K : Value → World → Prop) (k : Nat) (x1 : Addr) (x4A : Option Addr) (x4n : Nat) (x4c : Nat) (x7 : Option Addr) (x43A : Option Addr) (x43n : Nat) (x43c : Nat) (x44 : Int) (x45 : Int) (w : World) : image_Body.l1 K (k + 1) x1 x4A x4n x4c x7 x43A x43n x43c x44 x45 w = image_Body.b1 (image_Body.l1 K k) K x1 x4A x4n x4c x7 x43A x43n x43c x44 x45 w := rfl
abbrev image_Body.p6 (K : Value → World → Prop) (x1 : Addr) (x4A : Option Addr) (x4n : Nat) (x4c : Nat) (x7 : Option Addr) (x43A : Option Addr) (x43n : Nat) (x43c : Nat) (x44 : Int) (x45 : Int) (w : World) : Prop :=
  ∃ k, image_Body.l1 K k x1 x4A x4n x4c x7 x43A x43n x43c x44 x45 w
abbrev image_Body.p5 (K : Value → World → Prop) (x1 : Addr) (x4A : Option Addr) (x4n : Nat) (x4c : Nat) (x7 : Option Addr) (w : World) : Prop :=
  ∃ (A41 : Option Addr) (m42 : Nat) (c43 : Nat), w.cell? (x1.add 3) = some (.slice A41 m42 c43) ∧ image_Body.p6 K x1 x4A x4n x4c x7 A41 m42 c43 ((m42 : Nat) : Int) 0 w
abbrev image_Body.p4 (K : Value → World → Prop) (x1 : Addr) (x4A : Option Addr) (x4n : Nat) (x4c : Nat) (w : World) : Prop :=
  ∃ (n34 : Int), w.cell? (x1.add 1) = some (.int .i64 n34) ∧ CallsE Tryd.prog 24 #[.int .i64 n34] w (fun v35 w36 => ∃ (n37 : Int), v35 = .int .i64 n37 ∧ CallsE Tryd.prog 23 #[.int .i64 n37] w36 (fun v38 w39 => ∃ (p40 : Option Addr), v38 = .pointer p40 ∧ image_Body.p5 K x1 x4A x4n x4c p40 w39))
abbrev image_Body.b0 (L0 : Addr → Option Addr → Nat → Nat → Option Addr → Nat → Nat → Int → Int → World → Prop) (K : Value → World → Prop) (x1 : Addr) (x4A : Option Addr) (x4n : Nat) (x4c : Nat) (x24A : Option Addr) (x24n : Nat) (x24c : Nat) (x25 : Int) (x26 : Int) (w : World) : Prop :=
  condP (decide (x26 < x25)) ((0 ≤ x26 ∧ x26 < ((x24n : Nat) : Int)) ∧ ∃ (a22 : Addr), x24A = some a22 ∧ ∃ (n23 : Int), w.cell? (a22.add x26.toNat) = some (.int .i64 n23) ∧ CallsE Tryd.prog 22 #[.int .u64 (IntKind.wrap .u64 n23)] w (fun v24 w25 => ∃ (A26 : Option Addr) (m27 : Nat) (c28 : Nat), v24 = .slice A26 m27 c28 ∧ SemJ Tryd.prog (Builtin.append_ #[25, 25] 25 #[.slice x4A x4n x4c, .slice A26 m27 c28]) (fun v29 w30 => ∃ (A31 : Option Addr) (m32 : Nat) (c33 : Nat), v29 = .slice A31 m32 c33 ∧ L0 x1 A31 m32 c33 x24A x24n x24c x25 (IntKind.wrap .i64 (x26 + (1 : Int))) w30) w25)) (image_Body.p4 K x1 x4A x4n x4c w)
def image_Body.l0 (K : Value → World → Prop) (k : Nat) : Addr → Option Addr → Nat → Nat → Option Addr → Nat → Nat → Int → Int → World → Prop :=
  Nat.rec (motive := fun _ => Addr → Option Addr → Nat → Nat → Option Addr → Nat → Nat → Int → Int → World → Prop) (fun _ _ _ _ _ _ _ _ _ _ => False) (fun _ ih => image_Body.b0 ih K) k
theorem image_Body.l0_succ (K : Value → World → Prop) (k : Nat) (x1 : Addr) (x4A : Option Addr) (x4n : Nat) (x4c : Nat) (x24A : Option Addr) (x24n : Nat) (x24c : Nat) (x25 : Int) (x26 : Int) (w : World) : image_Body.l0 K (k + 1) x1 x4A x4n x4c x24A x24n x24c x25 x26 w = image_Body.b0 (image_Body.l0 K k) K x1 x4A x4n x4c x24A x24n x24c x25 x26 w := rfl
abbrev image_Body.p3 (K : Value → World → Prop) (x1 : Addr) (x4A : Option Addr) (x4n : Nat) (x4c : Nat) (x24A : Option Addr) (x24n : Nat) (x24c : Nat) (x25 : Int) (x26 : Int) (w : World) : Prop :=
  ∃ k, image_Body.l0 K k x1 x4A x4n x4c x24A x24n x24c x25 x26 w
abbrev image_Body.p2 (K : Value → World → Prop) (x1 : Addr) (x4A : Option Addr) (x4n : Nat) (x4c : Nat) (w : World) : Prop :=
  ∃ (n18 : Int), w.cell? x1 = some (.int .i64 n18) ∧ ∃ (n19 : Int), w.cell? (x1.add 1) = some (.int .i64 n19) ∧ ∃ (n20 : Int), w.cell? (x1.add 2) = some (.int .i64 n20) ∧ wlet (w.alloc (.cells #[.int .i64 n18, .int .i64 n19, .int .i64 n20] 3)) fun w21 => image_Body.p3 K x1 x4A x4n x4c (some ⟨w.heap.size, 0, none⟩) 3 3 ((3 : Nat) : Int) 0 w21
abbrev image_Body.p1 (K : Value → World → Prop) (x1 : Addr) (w : World) : Prop :=
  image_Body.p2 K x1 none 0 0 w
abbrev image_Body.p0 (K : Value → World → Prop) (x1 : Addr) (w : World) : Prop :=
  ∃ (n2 : Int), w.cell? x1 = some (.int .i64 n2) ∧ ∃ (n3 : Int), w.cell? (x1.add 1) = some (.int .i64 n3) ∧ ∃ (n4 : Int), w.cell? (x1.add 2) = some (.int .i64 n4) ∧ ∃ (A5 : Option Addr) (m6 : Nat) (c7 : Nat), w.cell? (x1.add 3) = some (.slice A5 m6 c7) ∧ ∃ (n8 : Int), w.cell? (x1.add 4) = some (.int .i64 n8) ∧ ∃ (A9 : Option Addr) (m10 : Nat) (c11 : Nat), w.cell? (x1.add 5) = some (.slice A9 m10 c11) ∧ ∃ (A12 : Option Addr) (m13 : Nat) (c14 : Nat), w.cell? (x1.add 6) = some (.slice A12 m13 c14) ∧ CallsE Tryd.prog 13 #[.agg #[.int .i64 n2, .int .i64 n3, .int .i64 n4, .slice A5 m6 c7, .int .i64 n8, .slice A9 m10 c11, .slice A12 m13 c14]] w (fun v15 w16 => ∃ (b17 : Bool), v15 = .bool b17 ∧ condP (!b17) (K (.tuple #[.slice none 0 0, .int .i64 4]) w16) (image_Body.p1 K x1 w16))
abbrev image_Body.F (q0_0 : Int) (q0_1 : Int) (q0_2 : Int) (q0_3A : Option Addr) (q0_3n : Nat) (q0_3c : Nat) (q0_4 : Int) (q0_5A : Option Addr) (q0_5n : Nat) (q0_5c : Nat) (q0_6A : Option Addr) (q0_6n : Nat) (q0_6c : Nat) (K : Value → World → Prop) (w : World) : Prop :=
  wlet (w.alloc (.cells #[.int .i64 q0_0, .int .i64 q0_1, .int .i64 q0_2, .slice q0_3A q0_3n q0_3c, .int .i64 q0_4, .slice q0_5A q0_5n q0_5c, .slice q0_6A q0_6n q0_6c] 32)) fun w1 => image_Body.p0 K (⟨w.heap.size, 0, none⟩) w1
theorem image_Body.ok {q0_0 : Int} {q0_1 : Int} {q0_2 : Int} {q0_3A : Option Addr} {q0_3n : Nat} {q0_3c : Nat} {q0_4 : Int} {q0_5A : Option Addr} {q0_5n : Nat} {q0_5c : Nat} {q0_6A : Option Addr} {q0_6n : Nat} {q0_6c : Nat} {K : Value → World → Prop} {w : World} (h : image_Body.F q0_0 q0_1 q0_2 q0_3A q0_3n q0_3c q0_4 q0_5A q0_5n q0_5c q0_6A q0_6n q0_6c K w) :
    CallsE Tryd.prog 8 #[.agg #[.int .i64 q0_0, .int .i64 q0_1, .int .i64 q0_2, .slice q0_3A q0_3n q0_3c, .int .i64 q0_4, .slice q0_5A q0_5n q0_5c, .slice q0_6A q0_6n q0_6c]] w K := by
  refine calls_of_J (n := 77) (rs := [.tmp 2, .tmp 3]) Tryd.func8 rfl rfl rfl rfl ?_
  refine J_seq (fun σ w => vPa (σ 1) fun x1 => image_Body.p0 K x1 w) ?_ ?_
  ·
    exact sh_sound _ _ _ _ (Eq.mp (by kernel_rfl) h)
  · intro σ w h
    obtain ⟨x1, e1, h⟩ := vPa_elim h
    refine J.sub ?_ ((Sub.base _).upd e1)
    clear e1
    refine J_seq (fun σ w => vPa (σ 1) fun x1 => image_Body.p1 K x1 w) ?_ ?_
    ·
      exact sh_sound _ _ _ _ (Eq.mp (by kernel_rfl) h)
    · intro σ w h
      obtain ⟨x1, e1, h⟩ := vPa_elim h
      refine J.sub ?_ ((Sub.base _).upd e1)
      clear e1
      refine J_seq (fun σ w => vPa (σ 1) fun x1 => vS (σ 4) fun x4A x4n x4c => image_Body.p2 K x1 x4A x4n x4c w) ?_ ?_
      ·
        exact sh_sound _ _ _ _ (Eq.mp (by kernel_rfl) h)
      · intro σ w h
        obtain ⟨x1, e1, h⟩ := vPa_elim h
        obtain ⟨x4A, x4n, x4c, e4, h⟩ := vS_elim h
        refine J.sub ?_ (((Sub.base _).upd e1).upd e4)
        clear e1 e4
        refine J_seq (fun σ w => vPa (σ 1) fun x1 => vS (σ 4) fun x4A x4n x4c => image_Body.p4 K x1 x4A x4n x4c w) ?_ ?_
        ·
          refine J_seq (fun σ w => vPa (σ 1) fun x1 => vS (σ 4) fun x4A x4n x4c => vS (σ 24) fun x24A x24n x24c => vI .i64 (σ 25) fun x25 => vI .i64 (σ 26) fun x26 => image_Body.p3 K x1 x4A x4n x4c x24A x24n x24c x25 x26 w) ?_ ?_
          ·
            exact sh_sound _ _ _ _ (Eq.mp (by kernel_rfl) h)
          · intro σ w h
            obtain ⟨x1, e1, h⟩ := vPa_elim h
            obtain ⟨x4A, x4n, x4c, e4, h⟩ := vS_elim h
            obtain ⟨x24A, x24n, x24c, e24, h⟩ := vS_elim h
            obtain ⟨x25, e25, h⟩ := vI_elim h
            obtain ⟨x26, e26, h⟩ := vI_elim h
            refine J.sub ?_ ((((((Sub.base _).upd e1).upd e4).upd e24).upd e25).upd e26)
            clear e1 e4 e24 e25 e26
            refine J_block ?_
            refine J_loop (fun k σ w => vPa (σ 1) fun x1 => vS (σ 4) fun x4A x4n x4c => vS (σ 24) fun x24A x24n x24c => vI .i64 (σ 25) fun x25 => vI .i64 (σ 26) fun x26 => image_Body.l0 K k x1 x4A x4n x4c x24A x24n x24c x25 x26 w) (Eq.mp (by kernel_rfl) h) ?_ ?_
            · intro σ w h
              obtain ⟨x1, e1, h⟩ := vPa_elim h
              obtain ⟨x4A, x4n, x4c, e4, h⟩ := vS_elim h
              obtain ⟨x24A, x24n, x24c, e24, h⟩ := vS_elim h
              obtain ⟨x25, e25, h⟩ := vI_elim h
              obtain ⟨x26, e26, h⟩ := vI_elim h
              exact h
            · intro k0 σ w h
              obtain ⟨x1, e1, h⟩ := vPa_elim h
              obtain ⟨x4A, x4n, x4c, e4, h⟩ := vS_elim h
              obtain ⟨x24A, x24n, x24c, e24, h⟩ := vS_elim h
              obtain ⟨x25, e25, h⟩ := vI_elim h
              obtain ⟨x26, e26, h⟩ := vI_elim h
              refine J.sub ?_ ((((((Sub.base _).upd e1).upd e4).upd e24).upd e25).upd e26)
              clear e1 e4 e24 e25 e26
              exact sh_sound _ _ _ _ (Eq.mp (by kernel_rfl) h)
        · intro σ w h
          obtain ⟨x1, e1, h⟩ := vPa_elim h
          obtain ⟨x4A, x4n, x4c, e4, h⟩ := vS_elim h
          refine J.sub ?_ (((Sub.base _).upd e1).upd e4)
          clear e1 e4
          refine J_seq (fun σ w => vPa (σ 1) fun x1 => vS (σ 4) fun x4A x4n x4c => vP (σ 7) fun x7 => image_Body.p5 K x1 x4A x4n x4c x7 w) ?_ ?_
          ·
            exact sh_sound _ _ _ _ (Eq.mp (by kernel_rfl) h)
          · intro σ w h
            obtain ⟨x1, e1, h⟩ := vPa_elim h
            obtain ⟨x4A, x4n, x4c, e4, h⟩ := vS_elim h
            obtain ⟨x7, e7, h⟩ := vP_elim h
            refine J.sub ?_ ((((Sub.base _).upd e1).upd e4).upd e7)
            clear e1 e4 e7
            refine J_seq (fun σ w => vPa (σ 1) fun x1 => vS (σ 4) fun x4A x4n x4c => vP (σ 7) fun x7 => image_Body.p7 K x1 x4A x4n x4c x7 w) ?_ ?_
            ·
              refine J_seq (fun σ w => vPa (σ 1) fun x1 => vS (σ 4) fun x4A x4n x4c => vP (σ 7) fun x7 => vS (σ 43) fun x43A x43n x43c => vI .i64 (σ 44) fun x44 => vI .i64 (σ 45) fun x45 => image_Body.p6 K x1 x4A x4n x4c x7 x43A x43n x43c x44 x45 w) ?_ ?_
              ·
                exact sh_sound _ _ _ _ (Eq.mp (by kernel_rfl) h)
              · intro σ w h
                obtain ⟨x1, e1, h⟩ := vPa_elim h
                obtain ⟨x4A, x4n, x4c, e4, h⟩ := vS_elim h
                obtain ⟨x7, e7, h⟩ := vP_elim h
                obtain ⟨x43A, x43n, x43c, e43, h⟩ := vS_elim h
                obtain ⟨x44, e44, h⟩ := vI_elim h
                obtain ⟨x45, e45, h⟩ := vI_elim h
                refine J.sub ?_ (((((((Sub.base _).upd e1).upd e4).upd e7).upd e43).upd e44).upd e45)
                clear e1 e4 e7 e43 e44 e45
                refine J_block ?_
                refine J_loop (fun k σ w => vPa (σ 1) fun x1 => vS (σ 4) fun x4A x4n x4c => vP (σ 7) fun x7 => vS (σ 43) fun x43A x43n x43c => vI .i64 (σ 44) fun x44 => vI .i64 (σ 45) fun x45 => image_Body.l1 K k x1 x4A x4n x4c x7 x43A x43n x43c x44 x45 w) (Eq.mp (by kernel_rfl) h) ?_ ?_
                · intro σ w h
                  obtain ⟨x1, e1, h⟩ := vPa_elim h
                  obtain ⟨x4A, x4n, x4c, e4, h⟩ := vS_elim h
                  obtain ⟨x7, e7, h⟩ := vP_elim h
                  obtain ⟨x43A, x43n, x43c, e43, h⟩ := vS_elim h
                  obtain ⟨x44, e44, h⟩ := vI_elim h
                  obtain ⟨x45, e45, h⟩ := vI_elim h
                  exact h
                · intro k1 σ w h
                  obtain ⟨x1, e1, h⟩ := vPa_elim h
                  obtain ⟨x4A, x4n, x4c, e4, h⟩ := vS_elim h
                  obtain ⟨x7, e7, h⟩ := vP_elim h
                  obtain ⟨x43A, x43n, x43c, e43, h⟩ := vS_elim h
                  obtain ⟨x44, e44, h⟩ := vI_elim h
                  obtain ⟨x45, e45, h⟩ := vI_elim h
                  refine J.sub ?_ (((((((Sub.base _).upd e1).upd e4).upd e7).upd e43).upd e44).upd e45)
                  clear e1 e4 e7 e43 e44 e45
                  exact sh_sound _ _ _ _ (Eq.mp (by kernel_rfl) h)
            · intro σ w h
              obtain ⟨x1, e1, h⟩ := vPa_elim h
              obtain ⟨x4A, x4n, x4c, e4, h⟩ := vS_elim h
              obtain ⟨x7, e7, h⟩ := vP_elim h
              refine J.sub ?_ ((((Sub.base _).upd e1).upd e4).upd e7)
              clear e1 e4 e7
              refine J_seq (fun σ w => vPa (σ 1) fun x1 => vS (σ 4) fun x4A x4n x4c => image_Body.p8 K x1 x4A x4n x4c w) ?_ ?_
              ·
                exact sh_sound _ _ _ _ (Eq.mp (by kernel_rfl) h)
              · intro σ w h
                obtain ⟨x1, e1, h⟩ := vPa_elim h
                obtain ⟨x4A, x4n, x4c, e4, h⟩ := vS_elim h
                refine J.sub ?_ (((Sub.base _).upd e1).upd e4)
                clear e1 e4
                refine J_seq (fun σ w => vPa (σ 1) fun x1 => vS (σ 4) fun x4A x4n x4c => image_Body.p9 K x1 x4A x4n x4c w) ?_ ?_
                ·
                  exact sh_sound _ _ _ _ (Eq.mp (by kernel_rfl) h)
                · intro σ w h
                  obtain ⟨x1, e1, h⟩ := vPa_elim h
                  obtain ⟨x4A, x4n, x4c, e4, h⟩ := vS_elim h
                  refine J.sub ?_ (((Sub.base _).upd e1).upd e4)
                  clear e1 e4
                  refine J_seq (fun σ w => vPa (σ 1) fun x1 => vS (σ 4) fun x4A x4n x4c => vS (σ 10) fun x10A x10n x10c => vI .i64 (σ 11) fun x11 => image_Body.p10 K x1 x4A x4n x4c x10A x10n x10c x11 w) ?_ ?_
                  ·
                    exact sh_sound _ _ _ _ (Eq.mp (by kernel_rfl) h)
                  · intro σ w h
                    obtain ⟨x1, e1, h⟩ := vPa_elim h
                    obtain ⟨x4A, x4n, x4c, e4, h⟩ := vS_elim h
                    obtain ⟨x10A, x10n, x10c, e10, h⟩ := vS_elim h
                    obtain ⟨x11, e11, h⟩ := vI_elim h
                    refine J.sub ?_ (((((Sub.base _).upd e1).upd e4).upd e10).upd e11)
                    clear e1 e4 e10 e11
                    refine J_seq (fun σ w => vS (σ 2) fun x2A x2n x2c => vI .i64 (σ 3) fun x3 => image_Body.p11 K x2A x2n x2c x3 w) ?_ ?_
                    ·
                      exact J_held [5] [(0, 0), (1, 0), (3, 0), (6, 0), (4, 1), (2, 2), (5, 3), (7, 0), (8, 0)] (by kernel_rfl) (Eq.mp (by kernel_rfl) h)
                    · intro σ w h
                      obtain ⟨x2A, x2n, x2c, e2, h⟩ := vS_elim h
                      obtain ⟨x3, e3, h⟩ := vI_elim h
                      refine J.sub ?_ (((Sub.base _).upd e2).upd e3)
                      clear e2 e3
                      exact sh_sound _ _ _ _ (Eq.mp (by kernel_rfl) h)

/-! ### (hayloft/hayloftlaw17.Image).theirs: function 9 -/
abbrev law17_Image_theirs.p1 (K : Value → World → Prop) (x2 : Addr) (w : World) : Prop :=
  ∃ (n55 : Int), w.cell? x2 = some (.int .i64 n55) ∧ ∃ (n56 : Int), w.cell? (x2.add 1) = some (.int .i64 n56) ∧ ∃ (n57 : Int), w.cell? (x2.add 2) = some (.int .i64 n57) ∧ ∃ (A58 : Option Addr) (m59 : Nat) (c60 : Nat), w.cell? (x2.add 3) = some (.slice A58 m59 c60) ∧ ∃ (n61 : Int), w.cell? (x2.add 4) = some (.int .i64 n61) ∧ ∃ (A62 : Option Addr) (m63 : Nat) (c64 : Nat), w.cell? (x2.add 5) = some (.slice A62 m63 c64) ∧ ∃ (A65 : Option Addr) (m66 : Nat) (c67 : Nat), w.cell? (x2.add 6) = some (.slice A65 m66 c67) ∧ K (.agg #[.int .i64 n55, .int .i64 n56, .int .i64 n57, .slice A58 m59 c60, .int .i64 n61, .slice A62 m63 c64, .slice A65 m66 c67]) w
abbrev law17_Image_theirs.p0 (K : Value → World → Prop) (x1 : Addr) (x2 : Addr) (w : World) : Prop :=
  ∃ (S3 : Array Obj → Prop), S3 w.heap ∧ ∃ (n4 : Int), (∀ w' : World, S3 w'.heap → w'.cell? x1 = some (.int .i64 n4)) ∧ ∃ (n5 : Int), (∀ w' : World, S3 w'.heap → w'.cell? (x1.add 1) = some (.int .i64 n5)) ∧ ∃ (n6 : Int), (∀ w' : World, S3 w'.heap → w'.cell? (x1.add 2) = some (.int .i64 n6)) ∧ ∃ (A7 : Option Addr) (m8 : Nat) (c9 : Nat), (∀ w' : World, S3 w'.heap → w'.cell? (x1.add 3) = some (.slice A7 m8 c9)) ∧ ∃ (n10 : Int), (∀ w' : World, S3 w'.heap → w'.cell? (x1.add 4) = some (.int .i64 n10)) ∧ ∃ (A11 : Option Addr) (m12 : Nat) (c13 : Nat), (∀ w' : World, S3 w'.heap → w'.cell? (x1.add 5) = some (.slice A11 m12 c13)) ∧ ∃ (A14 : Option Addr) (m15 : Nat) (c16 : Nat), (∀ w' : World, S3 w'.heap → w'.cell? (x1.add 6) = some (.slice A14 m15 c16)) ∧ (wlet (w.alloc (.cells #[.int .i64 n4, .int .i64 n5, .int .i64 n6, .slice A7 m8 c9] 24)) fun w17 => ∃ (S18 : Array Obj → Prop), (∀ H, S18 H → S3 H) ∧ S18 w17.heap ∧ (CallsE Tryd.prog 28 #[.slice (some ⟨w.heap.size, 0, none⟩) 1 1] w17 (fun v19 w20 => ∃ (A21 : Option Addr) (m22 : Nat) (c23 : Nat), v19 = .slice A21 m22 c23 ∧ ∃ (S24 : Array Obj → Prop), (∀ H, S24 H → S18 H) ∧ S24 w20.heap ∧ (0 ≤ (0 : Int) ∧ (0 : Int) < ((m22 : Nat) : Int)) ∧ ∃ (a25 : Addr), A21 = some a25 ∧ ∃ (n26 : Int), (∀ w' : World, S24 w'.heap → w'.cell? (a25.add ((0 : Int).toNat * 4)) = some (.int .i64 n26)) ∧ ∃ (n27 : Int), (∀ w' : World, S24 w'.heap → w'.cell? ((a25.add ((0 : Int).toNat * 4)).add 1) = some (.int .i64 n27)) ∧ ∃ (n28 : Int), (∀ w' : World, S24 w'.heap → w'.cell? ((a25.add ((0 : Int).toNat * 4)).add 2) = some (.int .i64 n28)) ∧ ∃ (A29 : Option Addr) (m30 : Nat) (c31 : Nat), (∀ w' : World, S24 w'.heap → w'.cell? ((a25.add ((0 : Int).toNat * 4)).add 3) = some (.slice A29 m30 c31)) ∧ wlet (w20.alloc (.cells #[] 3)) fun w32 => ∃ (S33 : Array Obj → Prop), (∀ H, S33 H → S24 H) ∧ S33 w32.heap ∧ SemJ Tryd.prog (Builtin.append_ #[22, 22] 22 #[.slice (some ⟨w20.heap.size, 0, none⟩) 0 0, .slice A11 m12 c13]) (fun v34 w35 => ∃ (A36 : Option Addr) (m37 : Nat) (c38 : Nat), v34 = .slice A36 m37 c38 ∧ ∃ (S39 : Array Obj → Prop), (∀ H, S39 H → S33 H) ∧ S39 w35.heap ∧ CallsE Tryd.prog 20 #[.slice A14 m15 c16] w35 (fun v40 w41 => ∃ (A42 : Option Addr) (m43 : Nat) (c44 : Nat), v40 = .slice A42 m43 c44 ∧ ∃ (S45 : Array Obj → Prop), (∀ H, S45 H → S39 H) ∧ S45 w41.heap ∧ ∃ (S46 : Array Obj → Prop), (∀ H, S46 H → S45 H) ∧ S46 w41.heap ∧ canStore w41 x2 ∧ wlet (w41.setCell x2 (.int .i64 n26)) fun w47 => canStore w47 (x2.add 1) ∧ wlet (w47.setCell (x2.add 1) (.int .i64 n27)) fun w48 => canStore w48 (x2.add 2) ∧ wlet (w48.setCell (x2.add 2) (.int .i64 n28)) fun w49 => canStore w49 (x2.add 3) ∧ wlet (w49.setCell (x2.add 3) (.slice A29 m30 c31)) fun w50 => canStore w50 (x2.add 4) ∧ wlet (w50.setCell (x2.add 4) (.int .i64 n10)) fun w51 => canStore w51 (x2.add 5) ∧ wlet (w51.setCell (x2.add 5) (.slice A36 m37 c38)) fun w52 => canStore w52 (x2.add 6) ∧ wlet (w52.setCell (x2.add 6) (.slice A42 m43 c44)) fun w53 => ∃ (S54 : Array Obj → Prop), (∀ H, S54 H → S46 H) ∧ S54 w53.heap ∧ law17_Image_theirs.p1 K x2 w53)) w32)) ∧ (wlet (w17.alloc (.cells #[] 3)) fun w68 => ∃ (S69 : Array Obj → Prop), (∀ H, S69 H → S18 H) ∧ S69 w68.heap ∧ CallsE Tryd.prog 28 #[.slice (some ⟨w.heap.size, 0, none⟩) 1 1] w68 (fun v70 w71 => ∃ (A72 : Option Addr) (m73 : Nat) (c74 : Nat), v70 = .slice A72 m73 c74 ∧ ∃ (S75 : Array Obj → Prop), (∀ H, S75 H → S69 H) ∧ S75 w71.heap ∧ (0 ≤ (0 : Int) ∧ (0 : Int) < ((m73 : Nat) : Int)) ∧ ∃ (a76 : Addr), A72 = some a76 ∧ ∃ (n77 : Int), (∀ w' : World, S75 w'.heap → w'.cell? (a76.add ((0 : Int).toNat * 4)) = some (.int .i64 n77)) ∧ ∃ (n78 : Int), (∀ w' : World, S75 w'.heap → w'.cell? ((a76.add ((0 : Int).toNat * 4)).add 1) = some (.int .i64 n78)) ∧ ∃ (n79 : Int), (∀ w' : World, S75 w'.heap → w'.cell? ((a76.add ((0 : Int).toNat * 4)).add 2) = some (.int .i64 n79)) ∧ ∃ (A80 : Option Addr) (m81 : Nat) (c82 : Nat), (∀ w' : World, S75 w'.heap → w'.cell? ((a76.add ((0 : Int).toNat * 4)).add 3) = some (.slice A80 m81 c82)) ∧ SemJ Tryd.prog (Builtin.append_ #[22, 22] 22 #[.slice (some ⟨w17.heap.size, 0, none⟩) 0 0, .slice A11 m12 c13]) (fun v83 w84 => ∃ (A85 : Option Addr) (m86 : Nat) (c87 : Nat), v83 = .slice A85 m86 c87 ∧ ∃ (S88 : Array Obj → Prop), (∀ H, S88 H → S75 H) ∧ S88 w84.heap ∧ CallsE Tryd.prog 20 #[.slice A14 m15 c16] w84 (fun v89 w90 => ∃ (A91 : Option Addr) (m92 : Nat) (c93 : Nat), v89 = .slice A91 m92 c93 ∧ ∃ (S94 : Array Obj → Prop), (∀ H, S94 H → S88 H) ∧ S94 w90.heap ∧ ∃ (S95 : Array Obj → Prop), (∀ H, S95 H → S94 H) ∧ S95 w90.heap ∧ canStore w90 x2 ∧ wlet (w90.setCell x2 (.int .i64 n77)) fun w96 => canStore w96 (x2.add 1) ∧ wlet (w96.setCell (x2.add 1) (.int .i64 n78)) fun w97 => canStore w97 (x2.add 2) ∧ wlet (w97.setCell (x2.add 2) (.int .i64 n79)) fun w98 => canStore w98 (x2.add 3) ∧ wlet (w98.setCell (x2.add 3) (.slice A80 m81 c82)) fun w99 => canStore w99 (x2.add 4) ∧ wlet (w99.setCell (x2.add 4) (.int .i64 n10)) fun w100 => canStore w100 (x2.add 5) ∧ wlet (w100.setCell (x2.add 5) (.slice A85 m86 c87)) fun w101 => canStore w101 (x2.add 6) ∧ wlet (w101.setCell (x2.add 6) (.slice A91 m92 c93)) fun w102 => ∃ (S103 : Array Obj → Prop), (∀ H, S103 H → S95 H) ∧ S103 w102.heap ∧ law17_Image_theirs.p1 K x2 w102)) w71))) ∧ (wlet (w.alloc (.cells #[] 3)) fun w104 => ∃ (S105 : Array Obj → Prop), (∀ H, S105 H → S3 H) ∧ S105 w104.heap ∧ wlet (w104.alloc (.cells #[.int .i64 n4, .int .i64 n5, .int .i64 n6, .slice A7 m8 c9] 24)) fun w106 => ∃ (S107 : Array Obj → Prop), (∀ H, S107 H → S105 H) ∧ S107 w106.heap ∧ CallsE Tryd.prog 28 #[.slice (some ⟨w104.heap.size, 0, none⟩) 1 1] w106 (fun v108 w109 => ∃ (A110 : Option Addr) (m111 : Nat) (c112 : Nat), v108 = .slice A110 m111 c112 ∧ ∃ (S113 : Array Obj → Prop), (∀ H, S113 H → S107 H) ∧ S113 w109.heap ∧ (0 ≤ (0 : Int) ∧ (0 : Int) < ((m111 : Nat) : Int)) ∧ ∃ (a114 : Addr), A110 = some a114 ∧ ∃ (n115 : Int), (∀ w' : World, S113 w'.heap → w'.cell? (a114.add ((0 : Int).toNat * 4)) = some (.int .i64 n115)) ∧ ∃ (n116 : Int), (∀ w' : World, S113 w'.heap → w'.cell? ((a114.add ((0 : Int).toNat * 4)).add 1) = some (.int .i64 n116)) ∧ ∃ (n117 : Int), (∀ w' : World, S113 w'.heap → w'.cell? ((a114.add ((0 : Int).toNat * 4)).add 2) = some (.int .i64 n117)) ∧ ∃ (A118 : Option Addr) (m119 : Nat) (c120 : Nat), (∀ w' : World, S113 w'.heap → w'.cell? ((a114.add ((0 : Int).toNat * 4)).add 3) = some (.slice A118 m119 c120)) ∧ SemJ Tryd.prog (Builtin.append_ #[22, 22] 22 #[.slice (some ⟨w.heap.size, 0, none⟩) 0 0, .slice A11 m12 c13]) (fun v121 w122 => ∃ (A123 : Option Addr) (m124 : Nat) (c125 : Nat), v121 = .slice A123 m124 c125 ∧ ∃ (S126 : Array Obj → Prop), (∀ H, S126 H → S113 H) ∧ S126 w122.heap ∧ CallsE Tryd.prog 20 #[.slice A14 m15 c16] w122 (fun v127 w128 => ∃ (A129 : Option Addr) (m130 : Nat) (c131 : Nat), v127 = .slice A129 m130 c131 ∧ ∃ (S132 : Array Obj → Prop), (∀ H, S132 H → S126 H) ∧ S132 w128.heap ∧ ∃ (S133 : Array Obj → Prop), (∀ H, S133 H → S132 H) ∧ S133 w128.heap ∧ canStore w128 x2 ∧ wlet (w128.setCell x2 (.int .i64 n115)) fun w134 => canStore w134 (x2.add 1) ∧ wlet (w134.setCell (x2.add 1) (.int .i64 n116)) fun w135 => canStore w135 (x2.add 2) ∧ wlet (w135.setCell (x2.add 2) (.int .i64 n117)) fun w136 => canStore w136 (x2.add 3) ∧ wlet (w136.setCell (x2.add 3) (.slice A118 m119 c120)) fun w137 => canStore w137 (x2.add 4) ∧ wlet (w137.setCell (x2.add 4) (.int .i64 n10)) fun w138 => canStore w138 (x2.add 5) ∧ wlet (w138.setCell (x2.add 5) (.slice A123 m124 c125)) fun w139 => canStore w139 (x2.add 6) ∧ wlet (w139.setCell (x2.add 6) (.slice A129 m130 c131)) fun w140 => ∃ (S141 : Array Obj → Prop), (∀ H, S141 H → S133 H) ∧ S141 w140.heap ∧ law17_Image_theirs.p1 K x2 w140)) w109))
abbrev law17_Image_theirs.F (q0_0 : Int) (q0_1 : Int) (q0_2 : Int) (q0_3A : Option Addr) (q0_3n : Nat) (q0_3c : Nat) (q0_4 : Int) (q0_5A : Option Addr) (q0_5n : Nat) (q0_5c : Nat) (q0_6A : Option Addr) (q0_6n : Nat) (q0_6c : Nat) (K : Value → World → Prop) (w : World) : Prop :=
  wlet (w.alloc (.cells #[.int .i64 q0_0, .int .i64 q0_1, .int .i64 q0_2, .slice q0_3A q0_3n q0_3c, .int .i64 q0_4, .slice q0_5A q0_5n q0_5c, .slice q0_6A q0_6n q0_6c] 27)) fun w1 => wlet (w1.alloc (.cells #[.int .i64 0, .int .i64 0, .int .i64 0, .slice none 0 0, .int .i64 0, .slice none 0 0, .slice none 0 0] 32)) fun w2 => law17_Image_theirs.p0 K (⟨w.heap.size, 0, none⟩) (⟨w1.heap.size, 0, none⟩) w2
theorem law17_Image_theirs.ok {q0_0 : Int} {q0_1 : Int} {q0_2 : Int} {q0_3A : Option Addr} {q0_3n : Nat} {q0_3c : Nat} {q0_4 : Int} {q0_5A : Option Addr} {q0_5n : Nat} {q0_5c : Nat} {q0_6A : Option Addr} {q0_6n : Nat} {q0_6c : Nat} {K : Value → World → Prop} {w : World} (h : law17_Image_theirs.F q0_0 q0_1 q0_2 q0_3A q0_3n q0_3c q0_4 q0_5A q0_5n q0_5c q0_6A q0_6n q0_6c K w) :
    CallsE Tryd.prog 9 #[.agg #[.int .i64 q0_0, .int .i64 q0_1, .int .i64 q0_2, .slice q0_3A q0_3n q0_3c, .int .i64 q0_4, .slice q0_5A q0_5n q0_5c, .slice q0_6A q0_6n q0_6c]] w K := by
  refine calls_of_J (n := 19) (rs := [.cell 2 32]) Tryd.func9 rfl rfl rfl rfl ?_
  refine J_seq (fun σ w => vPa (σ 1) fun x1 => vPa (σ 2) fun x2 => law17_Image_theirs.p0 K x1 x2 w) ?_ ?_
  ·
    exact sh_sound _ _ _ _ (Eq.mp (by kernel_rfl) h)
  · intro σ w h
    obtain ⟨x1, e1, h⟩ := vPa_elim h
    obtain ⟨x2, e2, h⟩ := vPa_elim h
    refine J.sub ?_ (((Sub.base _).upd e1).upd e2)
    clear e1 e2
    refine J_seq (fun σ w => vPa (σ 2) fun x2 => law17_Image_theirs.p1 K x2 w) ?_ ?_
    ·
      exact J_heldR (.step 0 0 (.step 6 0 (.step 9 0 (.step 12 0 (.step 1 1 (.step 7 1 (.step 10 1 (.step 13 1 (.fork 2 (.fork 3 (.step 4 0 (.step 5 1 (.step 8 2 (.step 11 2 (.step 14 2 (.step 15 2 (.step 16 2 .done))))))) 8 (.step 3 2 (.step 4 0 (.step 5 1 (.step 11 2 (.step 14 2 (.step 15 2 (.step 16 2 .done)))))))) 8 (.step 2 2 (.step 3 2 (.step 4 0 (.step 5 1 (.step 11 2 (.step 14 2 (.step 15 2 (.step 16 2 .done))))))))))))))))) (by kernel_rfl) (Eq.mp (by kernel_rfl) h)
    · intro σ w h
      obtain ⟨x2, e2, h⟩ := vPa_elim h
      refine J.sub ?_ ((Sub.base _).upd e2)
      clear e2
      exact sh_sound _ _ _ _ (Eq.mp (by kernel_rfl) h)

/-! ### hayloft/hayloftref17.Body: function 10 -/
abbrev ref17_Body.p7 (K : Value → World → Prop) (x1 : Addr) (x4A : Option Addr) (x4n : Nat) (x4c : Nat) (x7 : Option Addr) (w : World) : Prop :=
  CallsE Tryd.prog 33 #[.pointer x7] w (fun v49 w50 => ∃ (A51 : Option Addr) (m52 : Nat) (c53 : Nat), v49 = .slice A51 m52 c53 ∧ SemJ Tryd.prog (Builtin.append_ #[25, 25] 25 #[.slice x4A x4n x4c, .slice A51 m52 c53]) (fun v54 w55 => ∃ (A56 : Option Addr) (m57 : Nat) (c58 : Nat), v54 = .slice A56 m57 c58 ∧ ∃ (n59 : Int), w55.cell? (x1.add 4) = some (.int .i64 n59) ∧ (256 : Int) ≠ 0 ∧ CallsE Tryd.prog 29 #[.int .u64 (IntKind.wrap .u64 (IntKind.wrap .i64 (Int.tdiv n59 256)))] w55 (fun v60 w61 => ∃ (A62 : Option Addr) (m63 : Nat) (c64 : Nat), v60 = .slice A62 m63 c64 ∧ SemJ Tryd.prog (Builtin.append_ #[25, 25] 25 #[.slice A56 m57 c58, .slice A62 m63 c64]) (fun v65 w66 => ∃ (A67 : Option Addr) (m68 : Nat) (c69 : Nat), v65 = .slice A67 m68 c69 ∧ ∃ (A70 : Option Addr) (m71 : Nat) (c72 : Nat), w66.cell? (x1.add 5) = some (.slice A70 m71 c72) ∧ CallsE Tryd.prog 34 #[.slice A70 m71 c72] w66 (fun v73 w74 => ∃ (A75 : Option Addr) (m76 : Nat) (c77 : Nat) (n78 : Int), v73 = .tuple #[.slice A75 m76 c77, .int .i64 n78] ∧ SemJ Tryd.prog (Builtin.append_ #[25, 25] 25 #[.slice A67 m68 c69, .slice A75 m76 c77]) (fun v79 w80 => ∃ (A81 : Option Addr) (m82 : Nat) (c83 : Nat), v79 = .slice A81 m82 c83 ∧ ∃ (A84 : Option Addr) (m85 : Nat) (c86 : Nat), w80.cell? (x1.add 6) = some (.slice A84 m85 c86) ∧ SemJ Tryd.prog (Builtin.append_ #[25, 25] 25 #[.slice A81 m82 c83, .slice A84 m85 c86]) (fun v87 w88 => ∃ (A89 : Option Addr) (m90 : Nat) (c91 : Nat), v87 = .slice A89 m90 c91 ∧ K (.tuple #[.slice A89 m90 c91, .int .i64 0]) w88) w80) w74)) w61)) w50)
abbrev ref17_Body.b1 (L1 : Addr → Option Addr → Nat → Nat → Option Addr → Option Addr → Nat → Nat → Int → Int → World → Prop) (K : Value → World → Prop) (x1 : Addr) (x4A : Option Addr) (x4n : Nat) (x4c : Nat) (x7 : Option Addr) (x43A : Option Addr) (x43n : Nat) (x43c : Nat) (x44 : Int) (x45 : Int) (w : World) : Prop :=
  condP (decide (x45 < x44)) ((0 ≤ x45 ∧ x45 < ((x43n : Nat) : Int)) ∧ ∃ (a44 : Addr), x43A = some a44 ∧ ∃ (n45 : Int), w.cell? (a44.add x45.toNat) = some (.int .i64 n45) ∧ CallsE Tryd.prog 32 #[.pointer x7, .int .i64 n45, .bool true] w (fun v46 w47 => ∃ (b48 : Bool), v46 = .bool b48 ∧ L1 x1 x4A x4n x4c x7 x43A x43n x43c x44 (IntKind.wrap .i64 (x45 + (1 : Int))) w47)) (ref17_Body.p7 K x1 x4A x4n x4c x7 w)
def ref17_Body.l1 (K : Value → World → Prop) (k : Nat) : Addr → Option Addr → Nat → Nat → Option Addr → Option Addr → Nat → Nat → Int → Int → World → Prop :=
  Nat.rec (motive := fun _ => Addr → Option Addr → Nat → Nat → Option Addr → Option Addr → Nat → Nat → Int → Int → World → Prop) (fun _ _ _ _ _ _ _ _ _ _ _ => False) (fun _ ih => ref17_Body.b1 ih K) k
theorem ref17_Body.l1_succ (K : Value → World → Prop) (k : Nat) (x1 : Addr) (x4A : Option Addr) (x4n : Nat) (x4c : Nat) (x7 : Option Addr) (x43A : Option Addr) (x43n : Nat) (x43c : Nat) (x44 : Int) (x45 : Int) (w : World) : ref17_Body.l1 K (k + 1) x1 x4A x4n x4c x7 x43A x43n x43c x44 x45 w = ref17_Body.b1 (ref17_Body.l1 K k) K x1 x4A x4n x4c x7 x43A x43n x43c x44 x45 w := rfl
abbrev ref17_Body.p6 (K : Value → World → Prop) (x1 : Addr) (x4A : Option Addr) (x4n : Nat) (x4c : Nat) (x7 : Option Addr) (x43A : Option Addr) (x43n : Nat) (x43c : Nat) (x44 : Int) (x45 : Int) (w : World) : Prop :=
  ∃ k, ref17_Body.l1 K k x1 x4A x4n x4c x7 x43A x43n x43c x44 x45 w
abbrev ref17_Body.p5 (K : Value → World → Prop) (x1 : Addr) (x4A : Option Addr) (x4n : Nat) (x4c : Nat) (x7 : Option Addr) (w : World) : Prop :=
  ∃ (A41 : Option Addr) (m42 : Nat) (c43 : Nat), w.cell? (x1.add 3) = some (.slice A41 m42 c43) ∧ ref17_Body.p6 K x1 x4A x4n x4c x7 A41 m42 c43 ((m42 : Nat) : Int) 0 w
abbrev ref17_Body.p4 (K : Value → World → Prop) (x1 : Addr) (x4A : Option Addr) (x4n : Nat) (x4c : Nat) (w : World) : Prop :=
  ∃ (n34 : Int), w.cell? (x1.add 1) = some (.int .i64 n34) ∧ CallsE Tryd.prog 31 #[.int .i64 n34] w (fun v35 w36 => ∃ (n37 : Int), v35 = .int .i64 n37 ∧ CallsE Tryd.prog 30 #[.int .i64 n37] w36 (fun v38 w39 => ∃ (p40 : Option Addr), v38 = .pointer p40 ∧ ref17_Body.p5 K x1 x4A x4n x4c p40 w39))
abbrev ref17_Body.b0 (L0 : Addr → Option Addr → Nat → Nat → Option Addr → Nat → Nat → Int → Int → World → Prop) (K : Value → World → Prop) (x1 : Addr) (x4A : Option Addr) (x4n : Nat) (x4c : Nat) (x24A : Option Addr) (x24n : Nat) (x24c : Nat) (x25 : Int) (x26 : Int) (w : World) : Prop :=
  condP (decide (x26 < x25)) ((0 ≤ x26 ∧ x26 < ((x24n : Nat) : Int)) ∧ ∃ (a22 : Addr), x24A = some a22 ∧ ∃ (n23 : Int), w.cell? (a22.add x26.toNat) = some (.int .i64 n23) ∧ CallsE Tryd.prog 29 #[.int .u64 (IntKind.wrap .u64 n23)] w (fun v24 w25 => ∃ (A26 : Option Addr) (m27 : Nat) (c28 : Nat), v24 = .slice A26 m27 c28 ∧ SemJ Tryd.prog (Builtin.append_ #[25, 25] 25 #[.slice x4A x4n x4c, .slice A26 m27 c28]) (fun v29 w30 => ∃ (A31 : Option Addr) (m32 : Nat) (c33 : Nat), v29 = .slice A31 m32 c33 ∧ L0 x1 A31 m32 c33 x24A x24n x24c x25 (IntKind.wrap .i64 (x26 + (1 : Int))) w30) w25)) (ref17_Body.p4 K x1 x4A x4n x4c w)
def ref17_Body.l0 (K : Value → World → Prop) (k : Nat) : Addr → Option Addr → Nat → Nat → Option Addr → Nat → Nat → Int → Int → World → Prop :=
  Nat.rec (motive := fun _ => Addr → Option Addr → Nat → Nat → Option Addr → Nat → Nat → Int → Int → World → Prop) (fun _ _ _ _ _ _ _ _ _ _ => False) (fun _ ih => ref17_Body.b0 ih K) k
theorem ref17_Body.l0_succ (K : Value → World → Prop) (k : Nat) (x1 : Addr) (x4A : Option Addr) (x4n : Nat) (x4c : Nat) (x24A : Option Addr) (x24n : Nat) (x24c : Nat) (x25 : Int) (x26 : Int) (w : World) : ref17_Body.l0 K (k + 1) x1 x4A x4n x4c x24A x24n x24c x25 x26 w = ref17_Body.b0 (ref17_Body.l0 K k) K x1 x4A x4n x4c x24A x24n x24c x25 x26 w := rfl
abbrev ref17_Body.p3 (K : Value → World → Prop) (x1 : Addr) (x4A : Option Addr) (x4n : Nat) (x4c : Nat) (x24A : Option Addr) (x24n : Nat) (x24c : Nat) (x25 : Int) (x26 : Int) (w : World) : Prop :=
  ∃ k, ref17_Body.l0 K k x1 x4A x4n x4c x24A x24n x24c x25 x26 w
abbrev ref17_Body.p2 (K : Value → World → Prop) (x1 : Addr) (x4A : Option Addr) (x4n : Nat) (x4c : Nat) (w : World) : Prop :=
  ∃ (n18 : Int), w.cell? x1 = some (.int .i64 n18) ∧ ∃ (n19 : Int), w.cell? (x1.add 1) = some (.int .i64 n19) ∧ ∃ (n20 : Int), w.cell? (x1.add 2) = some (.int .i64 n20) ∧ wlet (w.alloc (.cells #[.int .i64 n18, .int .i64 n19, .int .i64 n20] 3)) fun w21 => ref17_Body.p3 K x1 x4A x4n x4c (some ⟨w.heap.size, 0, none⟩) 3 3 ((3 : Nat) : Int) 0 w21
abbrev ref17_Body.p1 (K : Value → World → Prop) (x1 : Addr) (w : World) : Prop :=
  ref17_Body.p2 K x1 none 0 0 w
abbrev ref17_Body.p0 (K : Value → World → Prop) (x1 : Addr) (w : World) : Prop :=
  ∃ (n2 : Int), w.cell? x1 = some (.int .i64 n2) ∧ ∃ (n3 : Int), w.cell? (x1.add 1) = some (.int .i64 n3) ∧ ∃ (n4 : Int), w.cell? (x1.add 2) = some (.int .i64 n4) ∧ ∃ (A5 : Option Addr) (m6 : Nat) (c7 : Nat), w.cell? (x1.add 3) = some (.slice A5 m6 c7) ∧ ∃ (n8 : Int), w.cell? (x1.add 4) = some (.int .i64 n8) ∧ ∃ (A9 : Option Addr) (m10 : Nat) (c11 : Nat), w.cell? (x1.add 5) = some (.slice A9 m10 c11) ∧ ∃ (A12 : Option Addr) (m13 : Nat) (c14 : Nat), w.cell? (x1.add 6) = some (.slice A12 m13 c14) ∧ CallsE Tryd.prog 14 #[.agg #[.int .i64 n2, .int .i64 n3, .int .i64 n4, .slice A5 m6 c7, .int .i64 n8, .slice A9 m10 c11, .slice A12 m13 c14]] w (fun v15 w16 => ∃ (b17 : Bool), v15 = .bool b17 ∧ condP (!b17) (K (.tuple #[.slice none 0 0, .int .i64 4]) w16) (ref17_Body.p1 K x1 w16))
abbrev ref17_Body.F (q0_0 : Int) (q0_1 : Int) (q0_2 : Int) (q0_3A : Option Addr) (q0_3n : Nat) (q0_3c : Nat) (q0_4 : Int) (q0_5A : Option Addr) (q0_5n : Nat) (q0_5c : Nat) (q0_6A : Option Addr) (q0_6n : Nat) (q0_6c : Nat) (K : Value → World → Prop) (w : World) : Prop :=
  wlet (w.alloc (.cells #[.int .i64 q0_0, .int .i64 q0_1, .int .i64 q0_2, .slice q0_3A q0_3n q0_3c, .int .i64 q0_4, .slice q0_5A q0_5n q0_5c, .slice q0_6A q0_6n q0_6c] 36)) fun w1 => ref17_Body.p0 K (⟨w.heap.size, 0, none⟩) w1
theorem ref17_Body.ok {q0_0 : Int} {q0_1 : Int} {q0_2 : Int} {q0_3A : Option Addr} {q0_3n : Nat} {q0_3c : Nat} {q0_4 : Int} {q0_5A : Option Addr} {q0_5n : Nat} {q0_5c : Nat} {q0_6A : Option Addr} {q0_6n : Nat} {q0_6c : Nat} {K : Value → World → Prop} {w : World} (h : ref17_Body.F q0_0 q0_1 q0_2 q0_3A q0_3n q0_3c q0_4 q0_5A q0_5n q0_5c q0_6A q0_6n q0_6c K w) :
    CallsE Tryd.prog 10 #[.agg #[.int .i64 q0_0, .int .i64 q0_1, .int .i64 q0_2, .slice q0_3A q0_3n q0_3c, .int .i64 q0_4, .slice q0_5A q0_5n q0_5c, .slice q0_6A q0_6n q0_6c]] w K := by
  refine calls_of_J (n := 77) (rs := [.tmp 2, .tmp 3]) Tryd.func10 rfl rfl rfl rfl ?_
  refine J_seq (fun σ w => vPa (σ 1) fun x1 => ref17_Body.p0 K x1 w) ?_ ?_
  ·
    exact sh_sound _ _ _ _ (Eq.mp (by kernel_rfl) h)
  · intro σ w h
    obtain ⟨x1, e1, h⟩ := vPa_elim h
    refine J.sub ?_ ((Sub.base _).upd e1)
    clear e1
    refine J_seq (fun σ w => vPa (σ 1) fun x1 => ref17_Body.p1 K x1 w) ?_ ?_
    ·
      exact sh_sound _ _ _ _ (Eq.mp (by kernel_rfl) h)
    · intro σ w h
      obtain ⟨x1, e1, h⟩ := vPa_elim h
      refine J.sub ?_ ((Sub.base _).upd e1)
      clear e1
      refine J_seq (fun σ w => vPa (σ 1) fun x1 => vS (σ 4) fun x4A x4n x4c => ref17_Body.p2 K x1 x4A x4n x4c w) ?_ ?_
      ·
        exact sh_sound _ _ _ _ (Eq.mp (by kernel_rfl) h)
      · intro σ w h
        obtain ⟨x1, e1, h⟩ := vPa_elim h
        obtain ⟨x4A, x4n, x4c, e4, h⟩ := vS_elim h
        refine J.sub ?_ (((Sub.base _).upd e1).upd e4)
        clear e1 e4
        refine J_seq (fun σ w => vPa (σ 1) fun x1 => vS (σ 4) fun x4A x4n x4c => ref17_Body.p4 K x1 x4A x4n x4c w) ?_ ?_
        ·
          refine J_seq (fun σ w => vPa (σ 1) fun x1 => vS (σ 4) fun x4A x4n x4c => vS (σ 24) fun x24A x24n x24c => vI .i64 (σ 25) fun x25 => vI .i64 (σ 26) fun x26 => ref17_Body.p3 K x1 x4A x4n x4c x24A x24n x24c x25 x26 w) ?_ ?_
          ·
            exact sh_sound _ _ _ _ (Eq.mp (by kernel_rfl) h)
          · intro σ w h
            obtain ⟨x1, e1, h⟩ := vPa_elim h
            obtain ⟨x4A, x4n, x4c, e4, h⟩ := vS_elim h
            obtain ⟨x24A, x24n, x24c, e24, h⟩ := vS_elim h
            obtain ⟨x25, e25, h⟩ := vI_elim h
            obtain ⟨x26, e26, h⟩ := vI_elim h
            refine J.sub ?_ ((((((Sub.base _).upd e1).upd e4).upd e24).upd e25).upd e26)
            clear e1 e4 e24 e25 e26
            refine J_block ?_
            refine J_loop (fun k σ w => vPa (σ 1) fun x1 => vS (σ 4) fun x4A x4n x4c => vS (σ 24) fun x24A x24n x24c => vI .i64 (σ 25) fun x25 => vI .i64 (σ 26) fun x26 => ref17_Body.l0 K k x1 x4A x4n x4c x24A x24n x24c x25 x26 w) (Eq.mp (by kernel_rfl) h) ?_ ?_
            · intro σ w h
              obtain ⟨x1, e1, h⟩ := vPa_elim h
              obtain ⟨x4A, x4n, x4c, e4, h⟩ := vS_elim h
              obtain ⟨x24A, x24n, x24c, e24, h⟩ := vS_elim h
              obtain ⟨x25, e25, h⟩ := vI_elim h
              obtain ⟨x26, e26, h⟩ := vI_elim h
              exact h
            · intro k0 σ w h
              obtain ⟨x1, e1, h⟩ := vPa_elim h
              obtain ⟨x4A, x4n, x4c, e4, h⟩ := vS_elim h
              obtain ⟨x24A, x24n, x24c, e24, h⟩ := vS_elim h
              obtain ⟨x25, e25, h⟩ := vI_elim h
              obtain ⟨x26, e26, h⟩ := vI_elim h
              refine J.sub ?_ ((((((Sub.base _).upd e1).upd e4).upd e24).upd e25).upd e26)
              clear e1 e4 e24 e25 e26
              exact sh_sound _ _ _ _ (Eq.mp (by kernel_rfl) h)
        · intro σ w h
          obtain ⟨x1, e1, h⟩ := vPa_elim h
          obtain ⟨x4A, x4n, x4c, e4, h⟩ := vS_elim h
          refine J.sub ?_ (((Sub.base _).upd e1).upd e4)
          clear e1 e4
          refine J_seq (fun σ w => vPa (σ 1) fun x1 => vS (σ 4) fun x4A x4n x4c => vP (σ 7) fun x7 => ref17_Body.p5 K x1 x4A x4n x4c x7 w) ?_ ?_
          ·
            exact sh_sound _ _ _ _ (Eq.mp (by kernel_rfl) h)
          · intro σ w h
            obtain ⟨x1, e1, h⟩ := vPa_elim h
            obtain ⟨x4A, x4n, x4c, e4, h⟩ := vS_elim h
            obtain ⟨x7, e7, h⟩ := vP_elim h
            refine J.sub ?_ ((((Sub.base _).upd e1).upd e4).upd e7)
            clear e1 e4 e7
            refine J_seq (fun σ w => vPa (σ 1) fun x1 => vS (σ 4) fun x4A x4n x4c => vP (σ 7) fun x7 => ref17_Body.p7 K x1 x4A x4n x4c x7 w) ?_ ?_
            ·
              refine J_seq (fun σ w => vPa (σ 1) fun x1 => vS (σ 4) fun x4A x4n x4c => vP (σ 7) fun x7 => vS (σ 43) fun x43A x43n x43c => vI .i64 (σ 44) fun x44 => vI .i64 (σ 45) fun x45 => ref17_Body.p6 K x1 x4A x4n x4c x7 x43A x43n x43c x44 x45 w) ?_ ?_
              ·
                exact sh_sound _ _ _ _ (Eq.mp (by kernel_rfl) h)
              · intro σ w h
                obtain ⟨x1, e1, h⟩ := vPa_elim h
                obtain ⟨x4A, x4n, x4c, e4, h⟩ := vS_elim h
                obtain ⟨x7, e7, h⟩ := vP_elim h
                obtain ⟨x43A, x43n, x43c, e43, h⟩ := vS_elim h
                obtain ⟨x44, e44, h⟩ := vI_elim h
                obtain ⟨x45, e45, h⟩ := vI_elim h
                refine J.sub ?_ (((((((Sub.base _).upd e1).upd e4).upd e7).upd e43).upd e44).upd e45)
                clear e1 e4 e7 e43 e44 e45
                refine J_block ?_
                refine J_loop (fun k σ w => vPa (σ 1) fun x1 => vS (σ 4) fun x4A x4n x4c => vP (σ 7) fun x7 => vS (σ 43) fun x43A x43n x43c => vI .i64 (σ 44) fun x44 => vI .i64 (σ 45) fun x45 => ref17_Body.l1 K k x1 x4A x4n x4c x7 x43A x43n x43c x44 x45 w) (Eq.mp (by kernel_rfl) h) ?_ ?_
                · intro σ w h
                  obtain ⟨x1, e1, h⟩ := vPa_elim h
                  obtain ⟨x4A, x4n, x4c, e4, h⟩ := vS_elim h
                  obtain ⟨x7, e7, h⟩ := vP_elim h
                  obtain ⟨x43A, x43n, x43c, e43, h⟩ := vS_elim h
                  obtain ⟨x44, e44, h⟩ := vI_elim h
                  obtain ⟨x45, e45, h⟩ := vI_elim h
                  exact h
                · intro k1 σ w h
                  obtain ⟨x1, e1, h⟩ := vPa_elim h
                  obtain ⟨x4A, x4n, x4c, e4, h⟩ := vS_elim h
                  obtain ⟨x7, e7, h⟩ := vP_elim h
                  obtain ⟨x43A, x43n, x43c, e43, h⟩ := vS_elim h
                  obtain ⟨x44, e44, h⟩ := vI_elim h
                  obtain ⟨x45, e45, h⟩ := vI_elim h
                  refine J.sub ?_ (((((((Sub.base _).upd e1).upd e4).upd e7).upd e43).upd e44).upd e45)
                  clear e1 e4 e7 e43 e44 e45
                  exact sh_sound _ _ _ _ (Eq.mp (by kernel_rfl) h)
            · intro σ w h
              obtain ⟨x1, e1, h⟩ := vPa_elim h
              obtain ⟨x4A, x4n, x4c, e4, h⟩ := vS_elim h
              obtain ⟨x7, e7, h⟩ := vP_elim h
              refine J.sub ?_ ((((Sub.base _).upd e1).upd e4).upd e7)
              clear e1 e4 e7
              exact sh_sound _ _ _ _ (Eq.mp (by kernel_rfl) h)

/-! ### (hayloft/hayloftlaw17.Image).ref: function 11 -/
abbrev law17_Image_ref.F (q0_0 : Int) (q0_1 : Int) (q0_2 : Int) (q0_3A : Option Addr) (q0_3n : Nat) (q0_3c : Nat) (q0_4 : Int) (q0_5A : Option Addr) (q0_5n : Nat) (q0_5c : Nat) (q0_6A : Option Addr) (q0_6n : Nat) (q0_6c : Nat) (K : Value → World → Prop) (w : World) : Prop :=
  wlet (w.alloc (.cells #[.int .i64 q0_0, .int .i64 q0_1, .int .i64 q0_2, .slice q0_3A q0_3n q0_3c, .int .i64 q0_4, .slice q0_5A q0_5n q0_5c, .slice q0_6A q0_6n q0_6c] 27)) fun w1 => wlet (w1.alloc (.cells #[.int .i64 0, .int .i64 0, .int .i64 0, .slice none 0 0, .int .i64 0, .slice none 0 0, .slice none 0 0] 36)) fun w2 => ∃ (n3 : Int), w2.cell? (⟨w.heap.size, 0, none⟩) = some (.int .i64 n3) ∧ ∃ (n4 : Int), w2.cell? (⟨w.heap.size, 1, none⟩) = some (.int .i64 n4) ∧ ∃ (n5 : Int), w2.cell? (⟨w.heap.size, 2, none⟩) = some (.int .i64 n5) ∧ ∃ (A6 : Option Addr) (m7 : Nat) (c8 : Nat), w2.cell? (⟨w.heap.size, 3, none⟩) = some (.slice A6 m7 c8) ∧ ∃ (n9 : Int), w2.cell? (⟨w.heap.size, 4, none⟩) = some (.int .i64 n9) ∧ ∃ (A10 : Option Addr) (m11 : Nat) (c12 : Nat), w2.cell? (⟨w.heap.size, 5, none⟩) = some (.slice A10 m11 c12) ∧ ∃ (A13 : Option Addr) (m14 : Nat) (c15 : Nat), w2.cell? (⟨w.heap.size, 6, none⟩) = some (.slice A13 m14 c15) ∧ CallsE Tryd.prog 9 #[.agg #[.int .i64 n3, .int .i64 n4, .int .i64 n5, .slice A6 m7 c8, .int .i64 n9, .slice A10 m11 c12, .slice A13 m14 c15]] w2 (fun v16 w17 => ∃ (n18 : Int) (n19 : Int) (n20 : Int) (A21 : Option Addr) (m22 : Nat) (c23 : Nat) (n24 : Int) (A25 : Option Addr) (m26 : Nat) (c27 : Nat) (A28 : Option Addr) (m29 : Nat) (c30 : Nat), v16 = .agg #[.int .i64 n18, .int .i64 n19, .int .i64 n20, .slice A21 m22 c23, .int .i64 n24, .slice A25 m26 c27, .slice A28 m29 c30] ∧ CallsE Tryd.prog 19 #[.agg #[.int .i64 n18, .int .i64 n19, .int .i64 n20, .slice A21 m22 c23, .int .i64 n24, .slice A25 m26 c27, .slice A28 m29 c30]] w17 (fun v31 w32 => ∃ (n33 : Int) (n34 : Int) (n35 : Int) (A36 : Option Addr) (m37 : Nat) (c38 : Nat) (n39 : Int) (A40 : Option Addr) (m41 : Nat) (c42 : Nat) (A43 : Option Addr) (m44 : Nat) (c45 : Nat), v31 = .agg #[.int .i64 n33, .int .i64 n34, .int .i64 n35, .slice A36 m37 c38, .int .i64 n39, .slice A40 m41 c42, .slice A43 m44 c45] ∧ canStore w32 (⟨w1.heap.size, 0, none⟩) ∧ wlet (w32.setCell (⟨w1.heap.size, 0, none⟩) (.int .i64 n33)) fun w46 => canStore w46 (⟨w1.heap.size, 1, none⟩) ∧ wlet (w46.setCell (⟨w1.heap.size, 1, none⟩) (.int .i64 n34)) fun w47 => canStore w47 (⟨w1.heap.size, 2, none⟩) ∧ wlet (w47.setCell (⟨w1.heap.size, 2, none⟩) (.int .i64 n35)) fun w48 => canStore w48 (⟨w1.heap.size, 3, none⟩) ∧ wlet (w48.setCell (⟨w1.heap.size, 3, none⟩) (.slice A36 m37 c38)) fun w49 => canStore w49 (⟨w1.heap.size, 4, none⟩) ∧ wlet (w49.setCell (⟨w1.heap.size, 4, none⟩) (.int .i64 n39)) fun w50 => canStore w50 (⟨w1.heap.size, 5, none⟩) ∧ wlet (w50.setCell (⟨w1.heap.size, 5, none⟩) (.slice A40 m41 c42)) fun w51 => canStore w51 (⟨w1.heap.size, 6, none⟩) ∧ wlet (w51.setCell (⟨w1.heap.size, 6, none⟩) (.slice A43 m44 c45)) fun w52 => ∃ (n53 : Int), w52.cell? (⟨w1.heap.size, 0, none⟩) = some (.int .i64 n53) ∧ ∃ (n54 : Int), w52.cell? (⟨w1.heap.size, 1, none⟩) = some (.int .i64 n54) ∧ ∃ (n55 : Int), w52.cell? (⟨w1.heap.size, 2, none⟩) = some (.int .i64 n55) ∧ ∃ (A56 : Option Addr) (m57 : Nat) (c58 : Nat), w52.cell? (⟨w1.heap.size, 3, none⟩) = some (.slice A56 m57 c58) ∧ ∃ (n59 : Int), w52.cell? (⟨w1.heap.size, 4, none⟩) = some (.int .i64 n59) ∧ ∃ (A60 : Option Addr) (m61 : Nat) (c62 : Nat), w52.cell? (⟨w1.heap.size, 5, none⟩) = some (.slice A60 m61 c62) ∧ ∃ (A63 : Option Addr) (m64 : Nat) (c65 : Nat), w52.cell? (⟨w1.heap.size, 6, none⟩) = some (.slice A63 m64 c65) ∧ K (.agg #[.int .i64 n53, .int .i64 n54, .int .i64 n55, .slice A56 m57 c58, .int .i64 n59, .slice A60 m61 c62, .slice A63 m64 c65]) w52))
theorem law17_Image_ref.ok {q0_0 : Int} {q0_1 : Int} {q0_2 : Int} {q0_3A : Option Addr} {q0_3n : Nat} {q0_3c : Nat} {q0_4 : Int} {q0_5A : Option Addr} {q0_5n : Nat} {q0_5c : Nat} {q0_6A : Option Addr} {q0_6n : Nat} {q0_6c : Nat} {K : Value → World → Prop} {w : World} (h : law17_Image_ref.F q0_0 q0_1 q0_2 q0_3A q0_3n q0_3c q0_4 q0_5A q0_5n q0_5c q0_6A q0_6n q0_6c K w) :
    CallsE Tryd.prog 11 #[.agg #[.int .i64 q0_0, .int .i64 q0_1, .int .i64 q0_2, .slice q0_3A q0_3n q0_3c, .int .i64 q0_4, .slice q0_5A q0_5n q0_5c, .slice q0_6A q0_6n q0_6c]] w K := by
  refine calls_of_J (n := 6) (rs := [.cell 2 36]) Tryd.func11 rfl rfl rfl rfl ?_
  exact sh_sound _ _ _ _ (Eq.mp (by kernel_rfl) h)

/-! ### hayloft/hayloftref01.Same: function 12 -/
abbrev ref01_Same.F (q0A : Option Addr) (q0n : Nat) (q0c : Nat) (q1A : Option Addr) (q1n : Nat) (q1c : Nat) (K : Value → World → Prop) (w : World) : Prop :=
  ∃ (bs1 : List UInt8), bytesAt w q0A q0n bs1 ∧ ∃ (bs2 : List UInt8), bytesAt w q1A q1n bs2 ∧ K (.bool ((⟨bs1.toArray⟩ : ByteArray).toList == (⟨bs2.toArray⟩ : ByteArray).toList)) w
theorem ref01_Same.ok {q0A : Option Addr} {q0n : Nat} {q0c : Nat} {q1A : Option Addr} {q1n : Nat} {q1c : Nat} {K : Value → World → Prop} {w : World} (h : ref01_Same.F q0A q0n q0c q1A q1n q1c K w) :
    CallsE Tryd.prog 12 #[.slice q0A q0n q0c, .slice q1A q1n q1c] w K := by
  refine calls_of_J (n := 10) (rs := [.tmp 4]) Tryd.func12 rfl rfl rfl rfl ?_
  exact sh_sound _ _ _ _ (Eq.mp (by kernel_rfl) h)

/-! ### hayloft/image.Right: function 13 -/
abbrev image_Right.p2 (K : Value → World → Prop) (x2 : Bool) (w : World) : Prop :=
  K (.bool x2) w
abbrev image_Right.p1 (K : Value → World → Prop) (x1 : Addr) (w : World) : Prop :=
  ∃ (S12 : Array Obj → Prop), S12 w.heap ∧ ∃ (A13 : Option Addr) (m14 : Nat) (c15 : Nat), (∀ w' : World, S12 w'.heap → w'.cell? (x1.add 6) = some (.slice A13 m14 c15)) ∧ ∃ (n16 : Int), (∀ w' : World, S12 w'.heap → w'.cell? x1 = some (.int .i64 n16)) ∧ ∃ (n17 : Int), (∀ w' : World, S12 w'.heap → w'.cell? (x1.add 1) = some (.int .i64 n17)) ∧ ∃ (n18 : Int), (∀ w' : World, S12 w'.heap → w'.cell? (x1.add 2) = some (.int .i64 n18)) ∧ ∃ (A19 : Option Addr) (m20 : Nat) (c21 : Nat), (∀ w' : World, S12 w'.heap → w'.cell? (x1.add 3) = some (.slice A19 m20 c21)) ∧ CallsE Tryd.prog 15 #[.agg #[.int .i64 n16, .int .i64 n17, .int .i64 n18, .slice A19 m20 c21]] w (fun v22 w23 => ∃ (n24 : Int), v22 = .int .i64 n24 ∧ S12 w23.heap ∧ condP (((m14 : Nat) : Int) == n24) (∃ (A25 : Option Addr) (m26 : Nat) (c27 : Nat), (∀ w' : World, S12 w'.heap → w'.cell? (x1.add 5) = some (.slice A25 m26 c27)) ∧ ∃ (A28 : Option Addr) (m29 : Nat) (c30 : Nat), (∀ w' : World, S12 w'.heap → w'.cell? (x1.add 6) = some (.slice A28 m29 c30)) ∧ CallsE Tryd.prog 36 #[.slice A25 m26 c27, .int .i64 ((m29 : Nat) : Int)] w23 (fun v31 w32 => ∃ (b33 : Bool), v31 = .bool b33 ∧ S12 w32.heap ∧ condP b33 (∃ (n34 : Int), (∀ w' : World, S12 w'.heap → w'.cell? (x1.add 4) = some (.int .i64 n34)) ∧ CallsE Tryd.prog 37 #[.int .i64 n34] w32 (fun v35 w36 => ∃ (b37 : Bool), v35 = .bool b37 ∧ S12 w36.heap ∧ condP b37 (image_Right.p2 K true w36) (∃ (A38 : Option Addr) (m39 : Nat) (c40 : Nat), (∀ w' : World, S12 w'.heap → w'.cell? (x1.add 5) = some (.slice A38 m39 c40)) ∧ condP (((m39 : Nat) : Int) == (0 : Int)) (∃ (n41 : Int), (∀ w' : World, S12 w'.heap → w'.cell? (x1.add 4) = some (.int .i64 n41)) ∧ image_Right.p2 K (n41 == (0 : Int)) w36) (image_Right.p2 K false w36)))) (image_Right.p2 K false w32))) (image_Right.p2 K false w23))
abbrev image_Right.p0 (K : Value → World → Prop) (x1 : Addr) (w : World) : Prop :=
  ∃ (n2 : Int), w.cell? x1 = some (.int .i64 n2) ∧ ∃ (n3 : Int), w.cell? (x1.add 1) = some (.int .i64 n3) ∧ ∃ (n4 : Int), w.cell? (x1.add 2) = some (.int .i64 n4) ∧ ∃ (A5 : Option Addr) (m6 : Nat) (c7 : Nat), w.cell? (x1.add 3) = some (.slice A5 m6 c7) ∧ CallsE Tryd.prog 35 #[.agg #[.int .i64 n2, .int .i64 n3, .int .i64 n4, .slice A5 m6 c7]] w (fun v8 w9 => ∃ (p10 : Option Addr) (n11 : Int), v8 = .tuple #[.pointer p10, .int .i64 n11] ∧ condP (n11 != (0 : Int)) (K (.bool false) w9) (image_Right.p1 K x1 w9))
abbrev image_Right.F (q0_0 : Int) (q0_1 : Int) (q0_2 : Int) (q0_3A : Option Addr) (q0_3n : Nat) (q0_3c : Nat) (q0_4 : Int) (q0_5A : Option Addr) (q0_5n : Nat) (q0_5c : Nat) (q0_6A : Option Addr) (q0_6n : Nat) (q0_6c : Nat) (K : Value → World → Prop) (w : World) : Prop :=
  wlet (w.alloc (.cells #[.int .i64 q0_0, .int .i64 q0_1, .int .i64 q0_2, .slice q0_3A q0_3n q0_3c, .int .i64 q0_4, .slice q0_5A q0_5n q0_5c, .slice q0_6A q0_6n q0_6c] 32)) fun w1 => image_Right.p0 K (⟨w.heap.size, 0, none⟩) w1
theorem image_Right.ok {q0_0 : Int} {q0_1 : Int} {q0_2 : Int} {q0_3A : Option Addr} {q0_3n : Nat} {q0_3c : Nat} {q0_4 : Int} {q0_5A : Option Addr} {q0_5n : Nat} {q0_5c : Nat} {q0_6A : Option Addr} {q0_6n : Nat} {q0_6c : Nat} {K : Value → World → Prop} {w : World} (h : image_Right.F q0_0 q0_1 q0_2 q0_3A q0_3n q0_3c q0_4 q0_5A q0_5n q0_5c q0_6A q0_6n q0_6c K w) :
    CallsE Tryd.prog 13 #[.agg #[.int .i64 q0_0, .int .i64 q0_1, .int .i64 q0_2, .slice q0_3A q0_3n q0_3c, .int .i64 q0_4, .slice q0_5A q0_5n q0_5c, .slice q0_6A q0_6n q0_6c]] w K := by
  refine calls_of_J (n := 44) (rs := [.tmp 2]) Tryd.func13 rfl rfl rfl rfl ?_
  refine J_seq (fun σ w => vPa (σ 1) fun x1 => image_Right.p0 K x1 w) ?_ ?_
  ·
    exact sh_sound _ _ _ _ (Eq.mp (by kernel_rfl) h)
  · intro σ w h
    obtain ⟨x1, e1, h⟩ := vPa_elim h
    refine J.sub ?_ ((Sub.base _).upd e1)
    clear e1
    refine J_seq (fun σ w => vPa (σ 1) fun x1 => image_Right.p1 K x1 w) ?_ ?_
    ·
      exact sh_sound _ _ _ _ (Eq.mp (by kernel_rfl) h)
    · intro σ w h
      obtain ⟨x1, e1, h⟩ := vPa_elim h
      refine J.sub ?_ ((Sub.base _).upd e1)
      clear e1
      refine J_seq (fun σ w => vB (σ 2) fun x2 => image_Right.p2 K x2 w) ?_ ?_
      ·
        exact J_held [] [(0, 0), (3, 0), (1, 1), (2, 0), (4, 1), (5, 2), (6, 0), (7, 0), (8, 0), (10, 0), (9, 1), (11, 1), (12, 0), (13, 2), (14, 0), (15, 0), (16, 0), (17, 1), (18, 2), (19, 0), (20, 0), (21, 1), (22, 0), (23, 0), (24, 0), (25, 0), (26, 1), (27, 0), (28, 0), (29, 0), (30, 0), (31, 0)] (by kernel_rfl) (Eq.mp (by kernel_rfl) h)
      · intro σ w h
        obtain ⟨x2, e2, h⟩ := vB_elim h
        refine J.sub ?_ ((Sub.base _).upd e2)
        clear e2
        exact sh_sound _ _ _ _ (Eq.mp (by kernel_rfl) h)

/-! ### hayloft/hayloftref17.Right: function 14 -/
abbrev ref17_Right.p4 (K : Value → World → Prop) (x2 : Bool) (w : World) : Prop :=
  K (.bool x2) w
abbrev ref17_Right.p3 (K : Value → World → Prop) (x1 : Addr) (w : World) : Prop :=
  ∃ (n13 : Int), w.cell? (x1.add 4) = some (.int .i64 n13) ∧ CallsE Tryd.prog 40 #[.int .i64 n13] w (fun v14 w15 => ∃ (b16 : Bool), v14 = .bool b16 ∧ condP b16 (ref17_Right.p4 K true w15) (∃ (A17 : Option Addr) (m18 : Nat) (c19 : Nat), w15.cell? (x1.add 5) = some (.slice A17 m18 c19) ∧ condP (((m18 : Nat) : Int) == (0 : Int)) (∃ (n20 : Int), w15.cell? (x1.add 4) = some (.int .i64 n20) ∧ ref17_Right.p4 K (n20 == (0 : Int)) w15) (ref17_Right.p4 K false w15)))
abbrev ref17_Right.p2 (K : Value → World → Prop) (x1 : Addr) (x30 : Bool) (w : World) : Prop :=
  condP x30 (K (.bool false) w) (ref17_Right.p3 K x1 w)
abbrev ref17_Right.p1 (K : Value → World → Prop) (x1 : Addr) (x4 : Int) (w : World) : Prop :=
  ∃ (S12 : Array Obj → Prop), S12 w.heap ∧ condP (x4 != (0 : Int)) (ref17_Right.p2 K x1 true w) (∃ (A21 : Option Addr) (m22 : Nat) (c23 : Nat), (∀ w' : World, S12 w'.heap → w'.cell? (x1.add 6) = some (.slice A21 m22 c23)) ∧ ∃ (n24 : Int), (∀ w' : World, S12 w'.heap → w'.cell? x1 = some (.int .i64 n24)) ∧ ∃ (n25 : Int), (∀ w' : World, S12 w'.heap → w'.cell? (x1.add 1) = some (.int .i64 n25)) ∧ ∃ (n26 : Int), (∀ w' : World, S12 w'.heap → w'.cell? (x1.add 2) = some (.int .i64 n26)) ∧ ∃ (A27 : Option Addr) (m28 : Nat) (c29 : Nat), (∀ w' : World, S12 w'.heap → w'.cell? (x1.add 3) = some (.slice A27 m28 c29)) ∧ CallsE Tryd.prog 16 #[.agg #[.int .i64 n24, .int .i64 n25, .int .i64 n26, .slice A27 m28 c29]] w (fun v30 w31 => ∃ (n32 : Int), v30 = .int .i64 n32 ∧ S12 w31.heap ∧ condP (((m22 : Nat) : Int) != n32) (ref17_Right.p2 K x1 true w31) (∃ (A33 : Option Addr) (m34 : Nat) (c35 : Nat), (∀ w' : World, S12 w'.heap → w'.cell? (x1.add 5) = some (.slice A33 m34 c35)) ∧ ∃ (A36 : Option Addr) (m37 : Nat) (c38 : Nat), (∀ w' : World, S12 w'.heap → w'.cell? (x1.add 6) = some (.slice A36 m37 c38)) ∧ CallsE Tryd.prog 39 #[.slice A33 m34 c35, .int .i64 ((m37 : Nat) : Int)] w31 (fun v39 w40 => ∃ (b41 : Bool), v39 = .bool b41 ∧ S12 w40.heap ∧ ref17_Right.p2 K x1 (!b41) w40))))
abbrev ref17_Right.p0 (K : Value → World → Prop) (x1 : Addr) (w : World) : Prop :=
  ∃ (n2 : Int), w.cell? x1 = some (.int .i64 n2) ∧ ∃ (n3 : Int), w.cell? (x1.add 1) = some (.int .i64 n3) ∧ ∃ (n4 : Int), w.cell? (x1.add 2) = some (.int .i64 n4) ∧ ∃ (A5 : Option Addr) (m6 : Nat) (c7 : Nat), w.cell? (x1.add 3) = some (.slice A5 m6 c7) ∧ CallsE Tryd.prog 38 #[.agg #[.int .i64 n2, .int .i64 n3, .int .i64 n4, .slice A5 m6 c7]] w (fun v8 w9 => ∃ (p10 : Option Addr) (n11 : Int), v8 = .tuple #[.pointer p10, .int .i64 n11] ∧ ref17_Right.p1 K x1 n11 w9)
abbrev ref17_Right.F (q0_0 : Int) (q0_1 : Int) (q0_2 : Int) (q0_3A : Option Addr) (q0_3n : Nat) (q0_3c : Nat) (q0_4 : Int) (q0_5A : Option Addr) (q0_5n : Nat) (q0_5c : Nat) (q0_6A : Option Addr) (q0_6n : Nat) (q0_6c : Nat) (K : Value → World → Prop) (w : World) : Prop :=
  wlet (w.alloc (.cells #[.int .i64 q0_0, .int .i64 q0_1, .int .i64 q0_2, .slice q0_3A q0_3n q0_3c, .int .i64 q0_4, .slice q0_5A q0_5n q0_5c, .slice q0_6A q0_6n q0_6c] 36)) fun w1 => ref17_Right.p0 K (⟨w.heap.size, 0, none⟩) w1
theorem ref17_Right.ok {q0_0 : Int} {q0_1 : Int} {q0_2 : Int} {q0_3A : Option Addr} {q0_3n : Nat} {q0_3c : Nat} {q0_4 : Int} {q0_5A : Option Addr} {q0_5n : Nat} {q0_5c : Nat} {q0_6A : Option Addr} {q0_6n : Nat} {q0_6c : Nat} {K : Value → World → Prop} {w : World} (h : ref17_Right.F q0_0 q0_1 q0_2 q0_3A q0_3n q0_3c q0_4 q0_5A q0_5n q0_5c q0_6A q0_6n q0_6c K w) :
    CallsE Tryd.prog 14 #[.agg #[.int .i64 q0_0, .int .i64 q0_1, .int .i64 q0_2, .slice q0_3A q0_3n q0_3c, .int .i64 q0_4, .slice q0_5A q0_5n q0_5c, .slice q0_6A q0_6n q0_6c]] w K := by
  refine calls_of_J (n := 45) (rs := [.tmp 2]) Tryd.func14 rfl rfl rfl rfl ?_
  refine J_seq (fun σ w => vPa (σ 1) fun x1 => ref17_Right.p0 K x1 w) ?_ ?_
  ·
    exact sh_sound _ _ _ _ (Eq.mp (by kernel_rfl) h)
  · intro σ w h
    obtain ⟨x1, e1, h⟩ := vPa_elim h
    refine J.sub ?_ ((Sub.base _).upd e1)
    clear e1
    refine J_seq (fun σ w => vPa (σ 1) fun x1 => vI .i64 (σ 4) fun x4 => ref17_Right.p1 K x1 x4 w) ?_ ?_
    ·
      exact sh_sound _ _ _ _ (Eq.mp (by kernel_rfl) h)
    · intro σ w h
      obtain ⟨x1, e1, h⟩ := vPa_elim h
      obtain ⟨x4, e4, h⟩ := vI_elim h
      refine J.sub ?_ (((Sub.base _).upd e1).upd e4)
      clear e1 e4
      refine J_seq (fun σ w => vPa (σ 1) fun x1 => ref17_Right.p3 K x1 w) ?_ ?_
      ·
        refine J_seq (fun σ w => vPa (σ 1) fun x1 => vB (σ 30) fun x30 => ref17_Right.p2 K x1 x30 w) ?_ ?_
        ·
          exact J_held [] [(0, 0), (1, 0), (2, 0), (3, 0), (6, 0), (4, 1), (5, 0), (7, 1), (8, 2), (9, 0), (10, 0), (11, 0), (12, 0), (14, 0), (13, 1), (15, 1), (16, 0), (17, 2), (18, 0), (19, 0)] (by kernel_rfl) (Eq.mp (by kernel_rfl) h)
        · intro σ w h
          obtain ⟨x1, e1, h⟩ := vPa_elim h
          obtain ⟨x30, e30, h⟩ := vB_elim h
          refine J.sub ?_ (((Sub.base _).upd e1).upd e30)
          clear e1 e30
          exact sh_sound _ _ _ _ (Eq.mp (by kernel_rfl) h)
      · intro σ w h
        obtain ⟨x1, e1, h⟩ := vPa_elim h
        refine J.sub ?_ ((Sub.base _).upd e1)
        clear e1
        refine J_seq (fun σ w => vB (σ 2) fun x2 => ref17_Right.p4 K x2 w) ?_ ?_
        ·
          exact sh_sound _ _ _ _ (Eq.mp (by kernel_rfl) h)
        · intro σ w h
          obtain ⟨x2, e2, h⟩ := vB_elim h
          refine J.sub ?_ ((Sub.base _).upd e2)
          clear e2
          exact sh_sound _ _ _ _ (Eq.mp (by kernel_rfl) h)

/-! ### hayloft/image.Size: function 15 -/
abbrev image_Size.F (q0_0 : Int) (q0_1 : Int) (q0_2 : Int) (q0_3A : Option Addr) (q0_3n : Nat) (q0_3c : Nat) (K : Value → World → Prop) (w : World) : Prop :=
  wlet (w.alloc (.cells #[.int .i64 q0_0, .int .i64 q0_1, .int .i64 q0_2, .slice q0_3A q0_3n q0_3c] 24)) fun w1 => ∃ (n2 : Int), w1.cell? (⟨w.heap.size, 0, none⟩) = some (.int .i64 n2) ∧ ∃ (n3 : Int), w1.cell? (⟨w.heap.size, 1, none⟩) = some (.int .i64 n3) ∧ ∃ (n4 : Int), w1.cell? (⟨w.heap.size, 2, none⟩) = some (.int .i64 n4) ∧ ∃ (A5 : Option Addr) (m6 : Nat) (c7 : Nat), w1.cell? (⟨w.heap.size, 3, none⟩) = some (.slice A5 m6 c7) ∧ CallsE Tryd.prog 35 #[.agg #[.int .i64 n2, .int .i64 n3, .int .i64 n4, .slice A5 m6 c7]] w1 (fun v8 w9 => ∃ (p10 : Option Addr) (n11 : Int), v8 = .tuple #[.pointer p10, .int .i64 n11] ∧ condP (n11 != (0 : Int)) (K (.int .i64 0) w9) (CallsE Tryd.prog 41 #[.pointer p10] w9 (fun v12 w13 => ∃ (n14 : Int), v12 = .int .i64 n14 ∧ CallsE Tryd.prog 42 #[.pointer p10] w13 (fun v15 w16 => ∃ (n17 : Int), v15 = .int .i64 n17 ∧ K (.int .i64 (IntKind.wrap .i64 (n14 * n17))) w16))))
theorem image_Size.ok {q0_0 : Int} {q0_1 : Int} {q0_2 : Int} {q0_3A : Option Addr} {q0_3n : Nat} {q0_3c : Nat} {K : Value → World → Prop} {w : World} (h : image_Size.F q0_0 q0_1 q0_2 q0_3A q0_3n q0_3c K w) :
    CallsE Tryd.prog 15 #[.agg #[.int .i64 q0_0, .int .i64 q0_1, .int .i64 q0_2, .slice q0_3A q0_3n q0_3c]] w K := by
  refine calls_of_J (n := 17) (rs := [.tmp 2]) Tryd.func15 rfl rfl rfl rfl ?_
  exact sh_sound _ _ _ _ (Eq.mp (by kernel_rfl) h)

/-! ### hayloft/hayloftref17.Size: function 16 -/
abbrev ref17_Size.p3 (K : Value → World → Prop) (x2 : Int) (w : World) : Prop :=
  K (.int .i64 x2) w
abbrev ref17_Size.p2 (K : Value → World → Prop) (x1 : Addr) (x3 : Option Addr) (w : World) : Prop :=
  ∃ (S12 : Array Obj → Prop), S12 w.heap ∧ ∃ (A13 : Option Addr) (m14 : Nat) (c15 : Nat), (∀ w' : World, S12 w'.heap → w'.cell? (x1.add 3) = some (.slice A13 m14 c15)) ∧ CallsE Tryd.prog 43 #[.pointer x3] w (fun v16 w17 => ∃ (n18 : Int), v16 = .int .i64 n18 ∧ S12 w17.heap ∧ ref17_Size.p3 K (IntKind.wrap .i64 (((m14 : Nat) : Int) * n18)) w17)
abbrev ref17_Size.p1 (K : Value → World → Prop) (x1 : Addr) (x3 : Option Addr) (x4 : Int) (w : World) : Prop :=
  condP (x4 != (0 : Int)) (K (.int .i64 0) w) (ref17_Size.p2 K x1 x3 w)
abbrev ref17_Size.p0 (K : Value → World → Prop) (x1 : Addr) (w : World) : Prop :=
  ∃ (n2 : Int), w.cell? x1 = some (.int .i64 n2) ∧ ∃ (n3 : Int), w.cell? (x1.add 1) = some (.int .i64 n3) ∧ ∃ (n4 : Int), w.cell? (x1.add 2) = some (.int .i64 n4) ∧ ∃ (A5 : Option Addr) (m6 : Nat) (c7 : Nat), w.cell? (x1.add 3) = some (.slice A5 m6 c7) ∧ CallsE Tryd.prog 38 #[.agg #[.int .i64 n2, .int .i64 n3, .int .i64 n4, .slice A5 m6 c7]] w (fun v8 w9 => ∃ (p10 : Option Addr) (n11 : Int), v8 = .tuple #[.pointer p10, .int .i64 n11] ∧ ref17_Size.p1 K x1 p10 n11 w9)
abbrev ref17_Size.F (q0_0 : Int) (q0_1 : Int) (q0_2 : Int) (q0_3A : Option Addr) (q0_3n : Nat) (q0_3c : Nat) (K : Value → World → Prop) (w : World) : Prop :=
  wlet (w.alloc (.cells #[.int .i64 q0_0, .int .i64 q0_1, .int .i64 q0_2, .slice q0_3A q0_3n q0_3c] 24)) fun w1 => ref17_Size.p0 K (⟨w.heap.size, 0, none⟩) w1
theorem ref17_Size.ok {q0_0 : Int} {q0_1 : Int} {q0_2 : Int} {q0_3A : Option Addr} {q0_3n : Nat} {q0_3c : Nat} {K : Value → World → Prop} {w : World} (h : ref17_Size.F q0_0 q0_1 q0_2 q0_3A q0_3n q0_3c K w) :
    CallsE Tryd.prog 16 #[.agg #[.int .i64 q0_0, .int .i64 q0_1, .int .i64 q0_2, .slice q0_3A q0_3n q0_3c]] w K := by
  refine calls_of_J (n := 18) (rs := [.tmp 2]) Tryd.func16 rfl rfl rfl rfl ?_
  refine J_seq (fun σ w => vPa (σ 1) fun x1 => ref17_Size.p0 K x1 w) ?_ ?_
  ·
    exact sh_sound _ _ _ _ (Eq.mp (by kernel_rfl) h)
  · intro σ w h
    obtain ⟨x1, e1, h⟩ := vPa_elim h
    refine J.sub ?_ ((Sub.base _).upd e1)
    clear e1
    refine J_seq (fun σ w => vPa (σ 1) fun x1 => vP (σ 3) fun x3 => vI .i64 (σ 4) fun x4 => ref17_Size.p1 K x1 x3 x4 w) ?_ ?_
    ·
      exact sh_sound _ _ _ _ (Eq.mp (by kernel_rfl) h)
    · intro σ w h
      obtain ⟨x1, e1, h⟩ := vPa_elim h
      obtain ⟨x3, e3, h⟩ := vP_elim h
      obtain ⟨x4, e4, h⟩ := vI_elim h
      refine J.sub ?_ ((((Sub.base _).upd e1).upd e3).upd e4)
      clear e1 e3 e4
      refine J_seq (fun σ w => vPa (σ 1) fun x1 => vP (σ 3) fun x3 => ref17_Size.p2 K x1 x3 w) ?_ ?_
      ·
        exact sh_sound _ _ _ _ (Eq.mp (by kernel_rfl) h)
      · intro σ w h
        obtain ⟨x1, e1, h⟩ := vPa_elim h
        obtain ⟨x3, e3, h⟩ := vP_elim h
        refine J.sub ?_ (((Sub.base _).upd e1).upd e3)
        clear e1 e3
        refine J_seq (fun σ w => vI .i64 (σ 2) fun x2 => ref17_Size.p3 K x2 w) ?_ ?_
        ·
          exact J_held [] [(0, 0), (3, 0), (1, 1), (2, 0), (4, 2), (5, 0), (6, 0)] (by kernel_rfl) (Eq.mp (by kernel_rfl) h)
        · intro σ w h
          obtain ⟨x2, e2, h⟩ := vI_elim h
          refine J.sub ?_ ((Sub.base _).upd e2)
          clear e2
          exact sh_sound _ _ _ _ (Eq.mp (by kernel_rfl) h)

/-! ### hayloft/image.Read: function 17 -/
abbrev image_Read.F (q0A : Option Addr) (q0n : Nat) (q0c : Nat) (K : Value → World → Prop) (w : World) : Prop :=
  wlet (w.alloc (.cells #[.int .i64 0, .int .i64 0, .int .i64 0, .slice none 0 0, .int .i64 0, .slice none 0 0, .slice none 0 0] 32)) fun w1 => CallsE Tryd.prog 44 #[.slice q0A q0n q0c] w1 (fun v2 w3 => ∃ (p4 : Option Addr), v2 = .pointer p4 ∧ CallsE Tryd.prog 45 #[.pointer p4] w3 (fun v5 w6 => ∃ (n7 : Int) (n8 : Int) (n9 : Int) (A10 : Option Addr) (m11 : Nat) (c12 : Nat), v5 = .agg #[.int .i64 n7, .int .i64 n8, .int .i64 n9, .slice A10 m11 c12] ∧ wlet (w6.alloc (.cells #[.int .i64 0, .int .i64 0, .int .i64 0, .slice none 0 0, .int .i64 0, .slice none 0 0, .slice none 0 0] 32)) fun w13 => canStore w13 (⟨w6.heap.size, 0, none⟩) ∧ wlet (w13.setCell (⟨w6.heap.size, 0, none⟩) (.int .i64 n7)) fun w14 => canStore w14 (⟨w6.heap.size, 1, none⟩) ∧ wlet (w14.setCell (⟨w6.heap.size, 1, none⟩) (.int .i64 n8)) fun w15 => canStore w15 (⟨w6.heap.size, 2, none⟩) ∧ wlet (w15.setCell (⟨w6.heap.size, 2, none⟩) (.int .i64 n9)) fun w16 => canStore w16 (⟨w6.heap.size, 3, none⟩) ∧ wlet (w16.setCell (⟨w6.heap.size, 3, none⟩) (.slice A10 m11 c12)) fun w17 => canStore w17 (⟨w6.heap.size, 4, none⟩) ∧ wlet (w17.setCell (⟨w6.heap.size, 4, none⟩) (.int .i64 0)) fun w18 => canStore w18 (⟨w6.heap.size, 5, none⟩) ∧ wlet (w18.setCell (⟨w6.heap.size, 5, none⟩) (.slice none 0 0)) fun w19 => canStore w19 (⟨w6.heap.size, 6, none⟩) ∧ wlet (w19.setCell (⟨w6.heap.size, 6, none⟩) (.slice none 0 0)) fun w20 => CallsE Tryd.prog 46 #[.pointer p4, .int .u64 4294967296] w20 (fun v21 w22 => ∃ (n23 : Int), v21 = .int .u64 n23 ∧ canStore w22 (⟨w6.heap.size, 4, none⟩) ∧ wlet (w22.setCell (⟨w6.heap.size, 4, none⟩) (.int .i64 (IntKind.wrap .i64 ((IntKind.wrap .i64 n23) * (256 : Int))))) fun w24 => CallsE Tryd.prog 47 #[.pointer p4] w24 (fun v25 w26 => ∃ (A27 : Option Addr) (m28 : Nat) (c29 : Nat), v25 = .slice A27 m28 c29 ∧ canStore w26 (⟨w6.heap.size, 5, none⟩) ∧ wlet (w26.setCell (⟨w6.heap.size, 5, none⟩) (.slice A27 m28 c29)) fun w30 => ∃ (n31 : Int), w30.cell? (⟨w6.heap.size, 0, none⟩) = some (.int .i64 n31) ∧ ∃ (n32 : Int), w30.cell? (⟨w6.heap.size, 1, none⟩) = some (.int .i64 n32) ∧ ∃ (n33 : Int), w30.cell? (⟨w6.heap.size, 2, none⟩) = some (.int .i64 n33) ∧ ∃ (A34 : Option Addr) (m35 : Nat) (c36 : Nat), w30.cell? (⟨w6.heap.size, 3, none⟩) = some (.slice A34 m35 c36) ∧ CallsE Tryd.prog 15 #[.agg #[.int .i64 n31, .int .i64 n32, .int .i64 n33, .slice A34 m35 c36]] w30 (fun v37 w38 => ∃ (n39 : Int), v37 = .int .i64 n39 ∧ CallsE Tryd.prog 48 #[.pointer p4, .int .i64 n39] w38 (fun v40 w41 => ∃ (A42 : Option Addr) (m43 : Nat) (c44 : Nat), v40 = .slice A42 m43 c44 ∧ canStore w41 (⟨w6.heap.size, 6, none⟩) ∧ wlet (w41.setCell (⟨w6.heap.size, 6, none⟩) (.slice A42 m43 c44)) fun w45 => CallsE Tryd.prog 49 #[.pointer p4] w45 (fun v46 w47 => ∃ (n48 : Int), v46 = .int .i64 n48 ∧ condP (n48 != (0 : Int)) (canStore w47 (⟨w.heap.size, 0, none⟩) ∧ wlet (w47.setCell (⟨w.heap.size, 0, none⟩) (.int .i64 0)) fun w49 => canStore w49 (⟨w.heap.size, 1, none⟩) ∧ wlet (w49.setCell (⟨w.heap.size, 1, none⟩) (.int .i64 0)) fun w50 => canStore w50 (⟨w.heap.size, 2, none⟩) ∧ wlet (w50.setCell (⟨w.heap.size, 2, none⟩) (.int .i64 0)) fun w51 => canStore w51 (⟨w.heap.size, 3, none⟩) ∧ wlet (w51.setCell (⟨w.heap.size, 3, none⟩) (.slice none 0 0)) fun w52 => canStore w52 (⟨w.heap.size, 4, none⟩) ∧ wlet (w52.setCell (⟨w.heap.size, 4, none⟩) (.int .i64 0)) fun w53 => canStore w53 (⟨w.heap.size, 5, none⟩) ∧ wlet (w53.setCell (⟨w.heap.size, 5, none⟩) (.slice none 0 0)) fun w54 => canStore w54 (⟨w.heap.size, 6, none⟩) ∧ wlet (w54.setCell (⟨w.heap.size, 6, none⟩) (.slice none 0 0)) fun w55 => ∃ (n56 : Int), w55.cell? (⟨w.heap.size, 0, none⟩) = some (.int .i64 n56) ∧ ∃ (n57 : Int), w55.cell? (⟨w.heap.size, 1, none⟩) = some (.int .i64 n57) ∧ ∃ (n58 : Int), w55.cell? (⟨w.heap.size, 2, none⟩) = some (.int .i64 n58) ∧ ∃ (A59 : Option Addr) (m60 : Nat) (c61 : Nat), w55.cell? (⟨w.heap.size, 3, none⟩) = some (.slice A59 m60 c61) ∧ ∃ (n62 : Int), w55.cell? (⟨w.heap.size, 4, none⟩) = some (.int .i64 n62) ∧ ∃ (A63 : Option Addr) (m64 : Nat) (c65 : Nat), w55.cell? (⟨w.heap.size, 5, none⟩) = some (.slice A63 m64 c65) ∧ ∃ (A66 : Option Addr) (m67 : Nat) (c68 : Nat), w55.cell? (⟨w.heap.size, 6, none⟩) = some (.slice A66 m67 c68) ∧ K (.tuple #[.agg #[.int .i64 n56, .int .i64 n57, .int .i64 n58, .slice A59 m60 c61, .int .i64 n62, .slice A63 m64 c65, .slice A66 m67 c68], .int .i64 n48]) w55) (∃ (n69 : Int), w47.cell? (⟨w6.heap.size, 0, none⟩) = some (.int .i64 n69) ∧ ∃ (n70 : Int), w47.cell? (⟨w6.heap.size, 1, none⟩) = some (.int .i64 n70) ∧ ∃ (n71 : Int), w47.cell? (⟨w6.heap.size, 2, none⟩) = some (.int .i64 n71) ∧ ∃ (A72 : Option Addr) (m73 : Nat) (c74 : Nat), w47.cell? (⟨w6.heap.size, 3, none⟩) = some (.slice A72 m73 c74) ∧ ∃ (n75 : Int), w47.cell? (⟨w6.heap.size, 4, none⟩) = some (.int .i64 n75) ∧ ∃ (A76 : Option Addr) (m77 : Nat) (c78 : Nat), w47.cell? (⟨w6.heap.size, 5, none⟩) = some (.slice A76 m77 c78) ∧ ∃ (A79 : Option Addr) (m80 : Nat) (c81 : Nat), w47.cell? (⟨w6.heap.size, 6, none⟩) = some (.slice A79 m80 c81) ∧ CallsE Tryd.prog 13 #[.agg #[.int .i64 n69, .int .i64 n70, .int .i64 n71, .slice A72 m73 c74, .int .i64 n75, .slice A76 m77 c78, .slice A79 m80 c81]] w47 (fun v82 w83 => ∃ (b84 : Bool), v82 = .bool b84 ∧ condP (!b84) (canStore w83 (⟨w.heap.size, 0, none⟩) ∧ wlet (w83.setCell (⟨w.heap.size, 0, none⟩) (.int .i64 0)) fun w85 => canStore w85 (⟨w.heap.size, 1, none⟩) ∧ wlet (w85.setCell (⟨w.heap.size, 1, none⟩) (.int .i64 0)) fun w86 => canStore w86 (⟨w.heap.size, 2, none⟩) ∧ wlet (w86.setCell (⟨w.heap.size, 2, none⟩) (.int .i64 0)) fun w87 => canStore w87 (⟨w.heap.size, 3, none⟩) ∧ wlet (w87.setCell (⟨w.heap.size, 3, none⟩) (.slice none 0 0)) fun w88 => canStore w88 (⟨w.heap.size, 4, none⟩) ∧ wlet (w88.setCell (⟨w.heap.size, 4, none⟩) (.int .i64 0)) fun w89 => canStore w89 (⟨w.heap.size, 5, none⟩) ∧ wlet (w89.setCell (⟨w.heap.size, 5, none⟩) (.slice none 0 0)) fun w90 => canStore w90 (⟨w.heap.size, 6, none⟩) ∧ wlet (w90.setCell (⟨w.heap.size, 6, none⟩) (.slice none 0 0)) fun w91 => ∃ (n92 : Int), w91.cell? (⟨w.heap.size, 0, none⟩) = some (.int .i64 n92) ∧ ∃ (n93 : Int), w91.cell? (⟨w.heap.size, 1, none⟩) = some (.int .i64 n93) ∧ ∃ (n94 : Int), w91.cell? (⟨w.heap.size, 2, none⟩) = some (.int .i64 n94) ∧ ∃ (A95 : Option Addr) (m96 : Nat) (c97 : Nat), w91.cell? (⟨w.heap.size, 3, none⟩) = some (.slice A95 m96 c97) ∧ ∃ (n98 : Int), w91.cell? (⟨w.heap.size, 4, none⟩) = some (.int .i64 n98) ∧ ∃ (A99 : Option Addr) (m100 : Nat) (c101 : Nat), w91.cell? (⟨w.heap.size, 5, none⟩) = some (.slice A99 m100 c101) ∧ ∃ (A102 : Option Addr) (m103 : Nat) (c104 : Nat), w91.cell? (⟨w.heap.size, 6, none⟩) = some (.slice A102 m103 c104) ∧ K (.tuple #[.agg #[.int .i64 n92, .int .i64 n93, .int .i64 n94, .slice A95 m96 c97, .int .i64 n98, .slice A99 m100 c101, .slice A102 m103 c104], .int .i64 4]) w91) (∃ (n105 : Int), w83.cell? (⟨w6.heap.size, 0, none⟩) = some (.int .i64 n105) ∧ ∃ (n106 : Int), w83.cell? (⟨w6.heap.size, 1, none⟩) = some (.int .i64 n106) ∧ ∃ (n107 : Int), w83.cell? (⟨w6.heap.size, 2, none⟩) = some (.int .i64 n107) ∧ ∃ (A108 : Option Addr) (m109 : Nat) (c110 : Nat), w83.cell? (⟨w6.heap.size, 3, none⟩) = some (.slice A108 m109 c110) ∧ ∃ (n111 : Int), w83.cell? (⟨w6.heap.size, 4, none⟩) = some (.int .i64 n111) ∧ ∃ (A112 : Option Addr) (m113 : Nat) (c114 : Nat), w83.cell? (⟨w6.heap.size, 5, none⟩) = some (.slice A112 m113 c114) ∧ ∃ (A115 : Option Addr) (m116 : Nat) (c117 : Nat), w83.cell? (⟨w6.heap.size, 6, none⟩) = some (.slice A115 m116 c117) ∧ canStore w83 (⟨w.heap.size, 0, none⟩) ∧ wlet (w83.setCell (⟨w.heap.size, 0, none⟩) (.int .i64 n105)) fun w118 => canStore w118 (⟨w.heap.size, 1, none⟩) ∧ wlet (w118.setCell (⟨w.heap.size, 1, none⟩) (.int .i64 n106)) fun w119 => canStore w119 (⟨w.heap.size, 2, none⟩) ∧ wlet (w119.setCell (⟨w.heap.size, 2, none⟩) (.int .i64 n107)) fun w120 => canStore w120 (⟨w.heap.size, 3, none⟩) ∧ wlet (w120.setCell (⟨w.heap.size, 3, none⟩) (.slice A108 m109 c110)) fun w121 => canStore w121 (⟨w.heap.size, 4, none⟩) ∧ wlet (w121.setCell (⟨w.heap.size, 4, none⟩) (.int .i64 n111)) fun w122 => canStore w122 (⟨w.heap.size, 5, none⟩) ∧ wlet (w122.setCell (⟨w.heap.size, 5, none⟩) (.slice A112 m113 c114)) fun w123 => canStore w123 (⟨w.heap.size, 6, none⟩) ∧ wlet (w123.setCell (⟨w.heap.size, 6, none⟩) (.slice A115 m116 c117)) fun w124 => ∃ (n125 : Int), w124.cell? (⟨w.heap.size, 0, none⟩) = some (.int .i64 n125) ∧ ∃ (n126 : Int), w124.cell? (⟨w.heap.size, 1, none⟩) = some (.int .i64 n126) ∧ ∃ (n127 : Int), w124.cell? (⟨w.heap.size, 2, none⟩) = some (.int .i64 n127) ∧ ∃ (A128 : Option Addr) (m129 : Nat) (c130 : Nat), w124.cell? (⟨w.heap.size, 3, none⟩) = some (.slice A128 m129 c130) ∧ ∃ (n131 : Int), w124.cell? (⟨w.heap.size, 4, none⟩) = some (.int .i64 n131) ∧ ∃ (A132 : Option Addr) (m133 : Nat) (c134 : Nat), w124.cell? (⟨w.heap.size, 5, none⟩) = some (.slice A132 m133 c134) ∧ ∃ (A135 : Option Addr) (m136 : Nat) (c137 : Nat), w124.cell? (⟨w.heap.size, 6, none⟩) = some (.slice A135 m136 c137) ∧ K (.tuple #[.agg #[.int .i64 n125, .int .i64 n126, .int .i64 n127, .slice A128 m129 c130, .int .i64 n131, .slice A132 m133 c134, .slice A135 m136 c137], .int .i64 0]) w124))))))))))
theorem image_Read.ok {q0A : Option Addr} {q0n : Nat} {q0c : Nat} {K : Value → World → Prop} {w : World} (h : image_Read.F q0A q0n q0c K w) :
    CallsE Tryd.prog 17 #[.slice q0A q0n q0c] w K := by
  refine calls_of_J (n := 37) (rs := [.cell 2 32, .tmp 3]) Tryd.func17 rfl rfl rfl rfl ?_
  exact sh_sound _ _ _ _ (Eq.mp (by kernel_rfl) h)

/-! ### hayloft/hayloftref17.Same: function 18 -/
abbrev ref17_Same.p1 (K : Value → World → Prop) (x4 : Bool) (w : World) : Prop :=
  K (.bool x4) w
abbrev ref17_Same.p0 (K : Value → World → Prop) (x2 : Addr) (x3 : Addr) (w : World) : Prop :=
  ∃ (n3 : Int), w.cell? x2 = some (.int .i64 n3) ∧ ∃ (n4 : Int), w.cell? (x2.add 1) = some (.int .i64 n4) ∧ ∃ (n5 : Int), w.cell? (x2.add 2) = some (.int .i64 n5) ∧ ∃ (A6 : Option Addr) (m7 : Nat) (c8 : Nat), w.cell? (x2.add 3) = some (.slice A6 m7 c8) ∧ ∃ (n9 : Int), w.cell? x3 = some (.int .i64 n9) ∧ ∃ (n10 : Int), w.cell? (x3.add 1) = some (.int .i64 n10) ∧ ∃ (n11 : Int), w.cell? (x3.add 2) = some (.int .i64 n11) ∧ ∃ (A12 : Option Addr) (m13 : Nat) (c14 : Nat), w.cell? (x3.add 3) = some (.slice A12 m13 c14) ∧ CallsE Tryd.prog 50 #[.agg #[.int .i64 n3, .int .i64 n4, .int .i64 n5, .slice A6 m7 c8], .agg #[.int .i64 n9, .int .i64 n10, .int .i64 n11, .slice A12 m13 c14]] w (fun v15 w16 => ∃ (b17 : Bool), v15 = .bool b17 ∧ condP b17 (∃ (n18 : Int), w16.cell? (x2.add 4) = some (.int .i64 n18) ∧ ∃ (n19 : Int), w16.cell? (x3.add 4) = some (.int .i64 n19) ∧ condP (n18 == n19) (∃ (A20 : Option Addr) (m21 : Nat) (c22 : Nat), w16.cell? (x2.add 5) = some (.slice A20 m21 c22) ∧ ∃ (A23 : Option Addr) (m24 : Nat) (c25 : Nat), w16.cell? (x3.add 5) = some (.slice A23 m24 c25) ∧ CallsE Tryd.prog 51 #[.slice A20 m21 c22, .slice A23 m24 c25] w16 (fun v26 w27 => ∃ (b28 : Bool), v26 = .bool b28 ∧ condP b28 (∃ (A29 : Option Addr) (m30 : Nat) (c31 : Nat), w27.cell? (x2.add 6) = some (.slice A29 m30 c31) ∧ ∃ (A32 : Option Addr) (m33 : Nat) (c34 : Nat), w27.cell? (x3.add 6) = some (.slice A32 m33 c34) ∧ CallsE Tryd.prog 12 #[.slice A29 m30 c31, .slice A32 m33 c34] w27 (fun v35 w36 => ∃ (b37 : Bool), v35 = .bool b37 ∧ ref17_Same.p1 K b37 w36)) (ref17_Same.p1 K false w27))) (ref17_Same.p1 K false w16)) (ref17_Same.p1 K false w16))
abbrev ref17_Same.F (q0_0 : Int) (q0_1 : Int) (q0_2 : Int) (q0_3A : Option Addr) (q0_3n : Nat) (q0_3c : Nat) (q0_4 : Int) (q0_5A : Option Addr) (q0_5n : Nat) (q0_5c : Nat) (q0_6A : Option Addr) (q0_6n : Nat) (q0_6c : Nat) (q1_0 : Int) (q1_1 : Int) (q1_2 : Int) (q1_3A : Option Addr) (q1_3n : Nat) (q1_3c : Nat) (q1_4 : Int) (q1_5A : Option Addr) (q1_5n : Nat) (q1_5c : Nat) (q1_6A : Option Addr) (q1_6n : Nat) (q1_6c : Nat) (K : Value → World → Prop) (w : World) : Prop :=
  wlet (w.alloc (.cells #[.int .i64 q0_0, .int .i64 q0_1, .int .i64 q0_2, .slice q0_3A q0_3n q0_3c, .int .i64 q0_4, .slice q0_5A q0_5n q0_5c, .slice q0_6A q0_6n q0_6c] 36)) fun w1 => wlet (w1.alloc (.cells #[.int .i64 q1_0, .int .i64 q1_1, .int .i64 q1_2, .slice q1_3A q1_3n q1_3c, .int .i64 q1_4, .slice q1_5A q1_5n q1_5c, .slice q1_6A q1_6n q1_6c] 36)) fun w2 => ref17_Same.p0 K (⟨w.heap.size, 0, none⟩) (⟨w1.heap.size, 0, none⟩) w2
theorem ref17_Same.ok {q0_0 : Int} {q0_1 : Int} {q0_2 : Int} {q0_3A : Option Addr} {q0_3n : Nat} {q0_3c : Nat} {q0_4 : Int} {q0_5A : Option Addr} {q0_5n : Nat} {q0_5c : Nat} {q0_6A : Option Addr} {q0_6n : Nat} {q0_6c : Nat} {q1_0 : Int} {q1_1 : Int} {q1_2 : Int} {q1_3A : Option Addr} {q1_3n : Nat} {q1_3c : Nat} {q1_4 : Int} {q1_5A : Option Addr} {q1_5n : Nat} {q1_5c : Nat} {q1_6A : Option Addr} {q1_6n : Nat} {q1_6c : Nat} {K : Value → World → Prop} {w : World} (h : ref17_Same.F q0_0 q0_1 q0_2 q0_3A q0_3n q0_3c q0_4 q0_5A q0_5n q0_5c q0_6A q0_6n q0_6c q1_0 q1_1 q1_2 q1_3A q1_3n q1_3c q1_4 q1_5A q1_5n q1_5c q1_6A q1_6n q1_6c K w) :
    CallsE Tryd.prog 18 #[.agg #[.int .i64 q0_0, .int .i64 q0_1, .int .i64 q0_2, .slice q0_3A q0_3n q0_3c, .int .i64 q0_4, .slice q0_5A q0_5n q0_5c, .slice q0_6A q0_6n q0_6c], .agg #[.int .i64 q1_0, .int .i64 q1_1, .int .i64 q1_2, .slice q1_3A q1_3n q1_3c, .int .i64 q1_4, .slice q1_5A q1_5n q1_5c, .slice q1_6A q1_6n q1_6c]] w K := by
  refine calls_of_J (n := 31) (rs := [.tmp 4]) Tryd.func18 rfl rfl rfl rfl ?_
  refine J_seq (fun σ w => vPa (σ 2) fun x2 => vPa (σ 3) fun x3 => ref17_Same.p0 K x2 x3 w) ?_ ?_
  ·
    exact sh_sound _ _ _ _ (Eq.mp (by kernel_rfl) h)
  · intro σ w h
    obtain ⟨x2, e2, h⟩ := vPa_elim h
    obtain ⟨x3, e3, h⟩ := vPa_elim h
    refine J.sub ?_ (((Sub.base _).upd e2).upd e3)
    clear e2 e3
    refine J_seq (fun σ w => vB (σ 4) fun x4 => ref17_Same.p1 K x4 w) ?_ ?_
    ·
      exact sh_sound _ _ _ _ (Eq.mp (by kernel_rfl) h)
    · intro σ w h
      obtain ⟨x4, e4, h⟩ := vB_elim h
      refine J.sub ?_ ((Sub.base _).upd e4)
      clear e4
      exact sh_sound _ _ _ _ (Eq.mp (by kernel_rfl) h)

/-! ### hayloft/hayloftlaw17.own: function 19 -/
abbrev law17_own.F (q0_0 : Int) (q0_1 : Int) (q0_2 : Int) (q0_3A : Option Addr) (q0_3n : Nat) (q0_3c : Nat) (q0_4 : Int) (q0_5A : Option Addr) (q0_5n : Nat) (q0_5c : Nat) (q0_6A : Option Addr) (q0_6n : Nat) (q0_6c : Nat) (K : Value → World → Prop) (w : World) : Prop :=
  wlet (w.alloc (.cells #[.int .i64 q0_0, .int .i64 q0_1, .int .i64 q0_2, .slice q0_3A q0_3n q0_3c, .int .i64 q0_4, .slice q0_5A q0_5n q0_5c, .slice q0_6A q0_6n q0_6c] 32)) fun w1 => wlet (w1.alloc (.cells #[.int .i64 0, .int .i64 0, .int .i64 0, .slice none 0 0, .int .i64 0, .slice none 0 0, .slice none 0 0] 36)) fun w2 => ∃ (n3 : Int), w2.cell? (⟨w.heap.size, 0, none⟩) = some (.int .i64 n3) ∧ ∃ (n4 : Int), w2.cell? (⟨w.heap.size, 1, none⟩) = some (.int .i64 n4) ∧ ∃ (n5 : Int), w2.cell? (⟨w.heap.size, 2, none⟩) = some (.int .i64 n5) ∧ ∃ (A6 : Option Addr) (m7 : Nat) (c8 : Nat), w2.cell? (⟨w.heap.size, 3, none⟩) = some (.slice A6 m7 c8) ∧ ∃ (n9 : Int), w2.cell? (⟨w.heap.size, 4, none⟩) = some (.int .i64 n9) ∧ ∃ (A10 : Option Addr) (m11 : Nat) (c12 : Nat), w2.cell? (⟨w.heap.size, 5, none⟩) = some (.slice A10 m11 c12) ∧ ∃ (A13 : Option Addr) (m14 : Nat) (c15 : Nat), w2.cell? (⟨w.heap.size, 6, none⟩) = some (.slice A13 m14 c15) ∧ canStore w2 (⟨w1.heap.size, 0, none⟩) ∧ wlet (w2.setCell (⟨w1.heap.size, 0, none⟩) (.int .i64 n3)) fun w16 => canStore w16 (⟨w1.heap.size, 1, none⟩) ∧ wlet (w16.setCell (⟨w1.heap.size, 1, none⟩) (.int .i64 n4)) fun w17 => canStore w17 (⟨w1.heap.size, 2, none⟩) ∧ wlet (w17.setCell (⟨w1.heap.size, 2, none⟩) (.int .i64 n5)) fun w18 => canStore w18 (⟨w1.heap.size, 3, none⟩) ∧ wlet (w18.setCell (⟨w1.heap.size, 3, none⟩) (.slice A6 m7 c8)) fun w19 => canStore w19 (⟨w1.heap.size, 4, none⟩) ∧ wlet (w19.setCell (⟨w1.heap.size, 4, none⟩) (.int .i64 n9)) fun w20 => canStore w20 (⟨w1.heap.size, 5, none⟩) ∧ wlet (w20.setCell (⟨w1.heap.size, 5, none⟩) (.slice A10 m11 c12)) fun w21 => canStore w21 (⟨w1.heap.size, 6, none⟩) ∧ wlet (w21.setCell (⟨w1.heap.size, 6, none⟩) (.slice A13 m14 c15)) fun w22 => ∃ (n23 : Int), w22.cell? (⟨w1.heap.size, 0, none⟩) = some (.int .i64 n23) ∧ ∃ (n24 : Int), w22.cell? (⟨w1.heap.size, 1, none⟩) = some (.int .i64 n24) ∧ ∃ (n25 : Int), w22.cell? (⟨w1.heap.size, 2, none⟩) = some (.int .i64 n25) ∧ ∃ (A26 : Option Addr) (m27 : Nat) (c28 : Nat), w22.cell? (⟨w1.heap.size, 3, none⟩) = some (.slice A26 m27 c28) ∧ ∃ (n29 : Int), w22.cell? (⟨w1.heap.size, 4, none⟩) = some (.int .i64 n29) ∧ ∃ (A30 : Option Addr) (m31 : Nat) (c32 : Nat), w22.cell? (⟨w1.heap.size, 5, none⟩) = some (.slice A30 m31 c32) ∧ ∃ (A33 : Option Addr) (m34 : Nat) (c35 : Nat), w22.cell? (⟨w1.heap.size, 6, none⟩) = some (.slice A33 m34 c35) ∧ K (.agg #[.int .i64 n23, .int .i64 n24, .int .i64 n25, .slice A26 m27 c28, .int .i64 n29, .slice A30 m31 c32, .slice A33 m34 c35]) w22
theorem law17_own.ok {q0_0 : Int} {q0_1 : Int} {q0_2 : Int} {q0_3A : Option Addr} {q0_3n : Nat} {q0_3c : Nat} {q0_4 : Int} {q0_5A : Option Addr} {q0_5n : Nat} {q0_5c : Nat} {q0_6A : Option Addr} {q0_6n : Nat} {q0_6c : Nat} {K : Value → World → Prop} {w : World} (h : law17_own.F q0_0 q0_1 q0_2 q0_3A q0_3n q0_3c q0_4 q0_5A q0_5n q0_5c q0_6A q0_6n q0_6c K w) :
    CallsE Tryd.prog 19 #[.agg #[.int .i64 q0_0, .int .i64 q0_1, .int .i64 q0_2, .slice q0_3A q0_3n q0_3c, .int .i64 q0_4, .slice q0_5A q0_5n q0_5c, .slice q0_6A q0_6n q0_6c]] w K := by
  refine calls_of_J (n := 12) (rs := [.cell 2 36]) Tryd.func19 rfl rfl rfl rfl ?_
  exact sh_sound _ _ _ _ (Eq.mp (by kernel_rfl) h)

/-! ### hayloft/hayloftref01.Copy: function 20 -/
abbrev ref01_Copy.F (q0A : Option Addr) (q0n : Nat) (q0c : Nat) (K : Value → World → Prop) (w : World) : Prop :=
  wlet (w.alloc (.cells #[] 5)) fun w1 => SemJ Tryd.prog (Builtin.append_ #[25, 25] 25 #[.slice (some ⟨w.heap.size, 0, none⟩) 0 0, .slice q0A q0n q0c]) (fun v2 w3 => ∃ (A4 : Option Addr) (m5 : Nat) (c6 : Nat), v2 = .slice A4 m5 c6 ∧ K (.slice A4 m5 c6) w3) w1
theorem ref01_Copy.ok {q0A : Option Addr} {q0n : Nat} {q0c : Nat} {K : Value → World → Prop} {w : World} (h : ref01_Copy.F q0A q0n q0c K w) :
    CallsE Tryd.prog 20 #[.slice q0A q0n q0c] w K := by
  refine calls_of_J (n := 6) (rs := [.tmp 2]) Tryd.func20 rfl rfl rfl rfl ?_
  exact sh_sound _ _ _ _ (Eq.mp (by kernel_rfl) h)

/-! ### hayloft/hayloftref17.Read: function 21 -/
abbrev ref17_Read.p4 (K : Value → World → Prop) (x2 : Addr) (x3 : Int) (w : World) : Prop :=
  ∃ (n37 : Int), w.cell? x2 = some (.int .i64 n37) ∧ ∃ (n38 : Int), w.cell? (x2.add 1) = some (.int .i64 n38) ∧ ∃ (n39 : Int), w.cell? (x2.add 2) = some (.int .i64 n39) ∧ ∃ (A40 : Option Addr) (m41 : Nat) (c42 : Nat), w.cell? (x2.add 3) = some (.slice A40 m41 c42) ∧ ∃ (n43 : Int), w.cell? (x2.add 4) = some (.int .i64 n43) ∧ ∃ (A44 : Option Addr) (m45 : Nat) (c46 : Nat), w.cell? (x2.add 5) = some (.slice A44 m45 c46) ∧ ∃ (A47 : Option Addr) (m48 : Nat) (c49 : Nat), w.cell? (x2.add 6) = some (.slice A47 m48 c49) ∧ K (.tuple #[.agg #[.int .i64 n37, .int .i64 n38, .int .i64 n39, .slice A40 m41 c42, .int .i64 n43, .slice A44 m45 c46, .slice A47 m48 c49], .int .i64 x3]) w
abbrev ref17_Read.p11 (K : Value → World → Prop) (x2 : Addr) (x3 : Int) (w : World) : Prop :=
  ∃ (n98 : Int), w.cell? x2 = some (.int .i64 n98) ∧ ∃ (n99 : Int), w.cell? (x2.add 1) = some (.int .i64 n99) ∧ ∃ (n100 : Int), w.cell? (x2.add 2) = some (.int .i64 n100) ∧ ∃ (A101 : Option Addr) (m102 : Nat) (c103 : Nat), w.cell? (x2.add 3) = some (.slice A101 m102 c103) ∧ ∃ (n104 : Int), w.cell? (x2.add 4) = some (.int .i64 n104) ∧ ∃ (A105 : Option Addr) (m106 : Nat) (c107 : Nat), w.cell? (x2.add 5) = some (.slice A105 m106 c107) ∧ ∃ (A108 : Option Addr) (m109 : Nat) (c110 : Nat), w.cell? (x2.add 6) = some (.slice A108 m109 c110) ∧ K (.tuple #[.agg #[.int .i64 n98, .int .i64 n99, .int .i64 n100, .slice A101 m102 c103, .int .i64 n104, .slice A105 m106 c107, .slice A108 m109 c110], .int .i64 x3]) w
abbrev ref17_Read.p12 (K : Value → World → Prop) (x2 : Addr) (x4 : Addr) (x5 : Addr) (x8 : Int) (x9A : Option Addr) (x9n : Nat) (x9c : Nat) (w : World) : Prop :=
  CallsE Tryd.prog 55 #[.int .i64 x8, .slice x9A x9n x9c] w (fun v111 w112 => ∃ (p113 : Option Addr) (n114 : Int), v111 = .tuple #[.pointer p113, .int .i64 n114] ∧ condP (n114 != (0 : Int)) (canStore w112 x2 ∧ wlet (w112.setCell x2 (.int .i64 0)) fun w115 => canStore w115 (x2.add 1) ∧ wlet (w115.setCell (x2.add 1) (.int .i64 0)) fun w116 => canStore w116 (x2.add 2) ∧ wlet (w116.setCell (x2.add 2) (.int .i64 0)) fun w117 => canStore w117 (x2.add 3) ∧ wlet (w117.setCell (x2.add 3) (.slice none 0 0)) fun w118 => canStore w118 (x2.add 4) ∧ wlet (w118.setCell (x2.add 4) (.int .i64 0)) fun w119 => canStore w119 (x2.add 5) ∧ wlet (w119.setCell (x2.add 5) (.slice none 0 0)) fun w120 => canStore w120 (x2.add 6) ∧ wlet (w120.setCell (x2.add 6) (.slice none 0 0)) fun w121 => ∃ (n122 : Int), w121.cell? x2 = some (.int .i64 n122) ∧ ∃ (n123 : Int), w121.cell? (x2.add 1) = some (.int .i64 n123) ∧ ∃ (n124 : Int), w121.cell? (x2.add 2) = some (.int .i64 n124) ∧ ∃ (A125 : Option Addr) (m126 : Nat) (c127 : Nat), w121.cell? (x2.add 3) = some (.slice A125 m126 c127) ∧ ∃ (n128 : Int), w121.cell? (x2.add 4) = some (.int .i64 n128) ∧ ∃ (A129 : Option Addr) (m130 : Nat) (c131 : Nat), w121.cell? (x2.add 5) = some (.slice A129 m130 c131) ∧ ∃ (A132 : Option Addr) (m133 : Nat) (c134 : Nat), w121.cell? (x2.add 6) = some (.slice A132 m133 c134) ∧ K (.tuple #[.agg #[.int .i64 n122, .int .i64 n123, .int .i64 n124, .slice A125 m126 c127, .int .i64 n128, .slice A129 m130 c131, .slice A132 m133 c134], .int .i64 4]) w121) (CallsE Tryd.prog 56 #[.pointer p113] w112 (fun v135 w136 => ∃ (A137 : Option Addr) (m138 : Nat) (c139 : Nat), v135 = .slice A137 m138 c139 ∧ canStore w136 (x5.add 3) ∧ wlet (w136.setCell (x5.add 3) (.slice A137 m138 c139)) fun w140 => CallsE Tryd.prog 52 #[.pointer (some x4), .int .u64 4294967296] w140 (fun v141 w142 => ∃ (n143 : Int), v141 = .int .u64 n143 ∧ canStore w142 (x5.add 4) ∧ wlet (w142.setCell (x5.add 4) (.int .i64 (IntKind.wrap .i64 ((256 : Int) * (IntKind.wrap .i64 n143))))) fun w144 => CallsE Tryd.prog 57 #[.pointer (some x4)] w144 (fun v145 w146 => ∃ (A147 : Option Addr) (m148 : Nat) (c149 : Nat), v145 = .slice A147 m148 c149 ∧ canStore w146 (x5.add 5) ∧ wlet (w146.setCell (x5.add 5) (.slice A147 m148 c149)) fun w150 => ∃ (n151 : Int), w150.cell? x5 = some (.int .i64 n151) ∧ ∃ (n152 : Int), w150.cell? (x5.add 1) = some (.int .i64 n152) ∧ ∃ (n153 : Int), w150.cell? (x5.add 2) = some (.int .i64 n153) ∧ ∃ (A154 : Option Addr) (m155 : Nat) (c156 : Nat), w150.cell? (x5.add 3) = some (.slice A154 m155 c156) ∧ CallsE Tryd.prog 16 #[.agg #[.int .i64 n151, .int .i64 n152, .int .i64 n153, .slice A154 m155 c156]] w150 (fun v157 w158 => ∃ (n159 : Int), v157 = .int .i64 n159 ∧ CallsE Tryd.prog 54 #[.pointer (some x4), .int .i64 n159] w158 (fun v160 w161 => ∃ (A162 : Option Addr) (m163 : Nat) (c164 : Nat), v160 = .slice A162 m163 c164 ∧ canStore w161 (x5.add 6) ∧ wlet (w161.setCell (x5.add 6) (.slice A162 m163 c164)) fun w165 => CallsE Tryd.prog 58 #[.pointer (some x4)] w165 (fun v166 w167 => ∃ (n168 : Int), v166 = .int .i64 n168 ∧ condP (n168 != (0 : Int)) (CallsE Tryd.prog 58 #[.pointer (some x4)] w167 (fun v169 w170 => ∃ (n171 : Int), v169 = .int .i64 n171 ∧ canStore w170 x2 ∧ wlet (w170.setCell x2 (.int .i64 0)) fun w172 => canStore w172 (x2.add 1) ∧ wlet (w172.setCell (x2.add 1) (.int .i64 0)) fun w173 => canStore w173 (x2.add 2) ∧ wlet (w173.setCell (x2.add 2) (.int .i64 0)) fun w174 => canStore w174 (x2.add 3) ∧ wlet (w174.setCell (x2.add 3) (.slice none 0 0)) fun w175 => canStore w175 (x2.add 4) ∧ wlet (w175.setCell (x2.add 4) (.int .i64 0)) fun w176 => canStore w176 (x2.add 5) ∧ wlet (w176.setCell (x2.add 5) (.slice none 0 0)) fun w177 => canStore w177 (x2.add 6) ∧ wlet (w177.setCell (x2.add 6) (.slice none 0 0)) fun w178 => ∃ (n179 : Int), w178.cell? x2 = some (.int .i64 n179) ∧ ∃ (n180 : Int), w178.cell? (x2.add 1) = some (.int .i64 n180) ∧ ∃ (n181 : Int), w178.cell? (x2.add 2) = some (.int .i64 n181) ∧ ∃ (A182 : Option Addr) (m183 : Nat) (c184 : Nat), w178.cell? (x2.add 3) = some (.slice A182 m183 c184) ∧ ∃ (n185 : Int), w178.cell? (x2.add 4) = some (.int .i64 n185) ∧ ∃ (A186 : Option Addr) (m187 : Nat) (c188 : Nat), w178.cell? (x2.add 5) = some (.slice A186 m187 c188) ∧ ∃ (A189 : Option Addr) (m190 : Nat) (c191 : Nat), w178.cell? (x2.add 6) = some (.slice A189 m190 c191) ∧ K (.tuple #[.agg #[.int .i64 n179, .int .i64 n180, .int .i64 n181, .slice A182 m183 c184, .int .i64 n185, .slice A186 m187 c188, .slice A189 m190 c191], .int .i64 n171]) w178)) (∃ (n192 : Int), w167.cell? x5 = some (.int .i64 n192) ∧ ∃ (n193 : Int), w167.cell? (x5.add 1) = some (.int .i64 n193) ∧ ∃ (n194 : Int), w167.cell? (x5.add 2) = some (.int .i64 n194) ∧ ∃ (A195 : Option Addr) (m196 : Nat) (c197 : Nat), w167.cell? (x5.add 3) = some (.slice A195 m196 c197) ∧ ∃ (n198 : Int), w167.cell? (x5.add 4) = some (.int .i64 n198) ∧ ∃ (A199 : Option Addr) (m200 : Nat) (c201 : Nat), w167.cell? (x5.add 5) = some (.slice A199 m200 c201) ∧ ∃ (A202 : Option Addr) (m203 : Nat) (c204 : Nat), w167.cell? (x5.add 6) = some (.slice A202 m203 c204) ∧ CallsE Tryd.prog 14 #[.agg #[.int .i64 n192, .int .i64 n193, .int .i64 n194, .slice A195 m196 c197, .int .i64 n198, .slice A199 m200 c201, .slice A202 m203 c204]] w167 (fun v205 w206 => ∃ (b207 : Bool), v205 = .bool b207 ∧ condP (!b207) (canStore w206 x2 ∧ wlet (w206.setCell x2 (.int .i64 0)) fun w208 => canStore w208 (x2.add 1) ∧ wlet (w208.setCell (x2.add 1) (.int .i64 0)) fun w209 => canStore w209 (x2.add 2) ∧ wlet (w209.setCell (x2.add 2) (.int .i64 0)) fun w210 => canStore w210 (x2.add 3) ∧ wlet (w210.setCell (x2.add 3) (.slice none 0 0)) fun w211 => canStore w211 (x2.add 4) ∧ wlet (w211.setCell (x2.add 4) (.int .i64 0)) fun w212 => canStore w212 (x2.add 5) ∧ wlet (w212.setCell (x2.add 5) (.slice none 0 0)) fun w213 => canStore w213 (x2.add 6) ∧ wlet (w213.setCell (x2.add 6) (.slice none 0 0)) fun w214 => ∃ (n215 : Int), w214.cell? x2 = some (.int .i64 n215) ∧ ∃ (n216 : Int), w214.cell? (x2.add 1) = some (.int .i64 n216) ∧ ∃ (n217 : Int), w214.cell? (x2.add 2) = some (.int .i64 n217) ∧ ∃ (A218 : Option Addr) (m219 : Nat) (c220 : Nat), w214.cell? (x2.add 3) = some (.slice A218 m219 c220) ∧ ∃ (n221 : Int), w214.cell? (x2.add 4) = some (.int .i64 n221) ∧ ∃ (A222 : Option Addr) (m223 : Nat) (c224 : Nat), w214.cell? (x2.add 5) = some (.slice A222 m223 c224) ∧ ∃ (A225 : Option Addr) (m226 : Nat) (c227 : Nat), w214.cell? (x2.add 6) = some (.slice A225 m226 c227) ∧ K (.tuple #[.agg #[.int .i64 n215, .int .i64 n216, .int .i64 n217, .slice A218 m219 c220, .int .i64 n221, .slice A222 m223 c224, .slice A225 m226 c227], .int .i64 4]) w214) (∃ (n228 : Int), w206.cell? x5 = some (.int .i64 n228) ∧ ∃ (n229 : Int), w206.cell? (x5.add 1) = some (.int .i64 n229) ∧ ∃ (n230 : Int), w206.cell? (x5.add 2) = some (.int .i64 n230) ∧ ∃ (A231 : Option Addr) (m232 : Nat) (c233 : Nat), w206.cell? (x5.add 3) = some (.slice A231 m232 c233) ∧ ∃ (n234 : Int), w206.cell? (x5.add 4) = some (.int .i64 n234) ∧ ∃ (A235 : Option Addr) (m236 : Nat) (c237 : Nat), w206.cell? (x5.add 5) = some (.slice A235 m236 c237) ∧ ∃ (A238 : Option Addr) (m239 : Nat) (c240 : Nat), w206.cell? (x5.add 6) = some (.slice A238 m239 c240) ∧ canStore w206 x2 ∧ wlet (w206.setCell x2 (.int .i64 n228)) fun w241 => canStore w241 (x2.add 1) ∧ wlet (w241.setCell (x2.add 1) (.int .i64 n229)) fun w242 => canStore w242 (x2.add 2) ∧ wlet (w242.setCell (x2.add 2) (.int .i64 n230)) fun w243 => canStore w243 (x2.add 3) ∧ wlet (w243.setCell (x2.add 3) (.slice A231 m232 c233)) fun w244 => canStore w244 (x2.add 4) ∧ wlet (w244.setCell (x2.add 4) (.int .i64 n234)) fun w245 => canStore w245 (x2.add 5) ∧ wlet (w245.setCell (x2.add 5) (.slice A235 m236 c237)) fun w246 => canStore w246 (x2.add 6) ∧ wlet (w246.setCell (x2.add 6) (.slice A238 m239 c240)) fun w247 => ∃ (n248 : Int), w247.cell? x2 = some (.int .i64 n248) ∧ ∃ (n249 : Int), w247.cell? (x2.add 1) = some (.int .i64 n249) ∧ ∃ (n250 : Int), w247.cell? (x2.add 2) = some (.int .i64 n250) ∧ ∃ (A251 : Option Addr) (m252 : Nat) (c253 : Nat), w247.cell? (x2.add 3) = some (.slice A251 m252 c253) ∧ ∃ (n254 : Int), w247.cell? (x2.add 4) = some (.int .i64 n254) ∧ ∃ (A255 : Option Addr) (m256 : Nat) (c257 : Nat), w247.cell? (x2.add 5) = some (.slice A255 m256 c257) ∧ ∃ (A258 : Option Addr) (m259 : Nat) (c260 : Nat), w247.cell? (x2.add 6) = some (.slice A258 m259 c260) ∧ K (.tuple #[.agg #[.int .i64 n248, .int .i64 n249, .int .i64 n250, .slice A251 m252 c253, .int .i64 n254, .slice A255 m256 c257, .slice A258 m259 c260], .int .i64 0]) w247)))))))))))
abbrev ref17_Read.p10 (K : Value → World → Prop) (x2 : Addr) (x4 : Addr) (x5 : Addr) (x8 : Int) (x9A : Option Addr) (x9n : Nat) (x9c : Nat) (x66 : Bool) (w : World) : Prop :=
  condP x66 (∃ (S88 : Array Obj → Prop), S88 w.heap ∧ ∃ (a89 : Addr), some x4 = some a89 ∧ ∃ (n90 : Int), (∀ w' : World, S88 w'.heap → w'.cell? (a89.add 1) = some (.int .i64 n90)) ∧ S88 w.heap ∧ canStore w x2 ∧ wlet (w.setCell x2 (.int .i64 0)) fun w91 => canStore w91 (x2.add 1) ∧ wlet (w91.setCell (x2.add 1) (.int .i64 0)) fun w92 => canStore w92 (x2.add 2) ∧ wlet (w92.setCell (x2.add 2) (.int .i64 0)) fun w93 => canStore w93 (x2.add 3) ∧ wlet (w93.setCell (x2.add 3) (.slice none 0 0)) fun w94 => canStore w94 (x2.add 4) ∧ wlet (w94.setCell (x2.add 4) (.int .i64 0)) fun w95 => canStore w95 (x2.add 5) ∧ wlet (w95.setCell (x2.add 5) (.slice none 0 0)) fun w96 => canStore w96 (x2.add 6) ∧ wlet (w96.setCell (x2.add 6) (.slice none 0 0)) fun w97 => S88 w97.heap ∧ ref17_Read.p11 K x2 n90 w97) (ref17_Read.p12 K x2 x4 x5 x8 x9A x9n x9c w)
abbrev ref17_Read.p9 (K : Value → World → Prop) (x2 : Addr) (x4 : Addr) (x5 : Addr) (x8 : Int) (x9A : Option Addr) (x9n : Nat) (x9c : Nat) (w : World) : Prop :=
  ∃ (a86 : Addr), some x4 = some a86 ∧ ∃ (n87 : Int), w.cell? (a86.add 1) = some (.int .i64 n87) ∧ ref17_Read.p10 K x2 x4 x5 x8 x9A x9n x9c (n87 != (0 : Int)) w
abbrev ref17_Read.p8 (K : Value → World → Prop) (x2 : Addr) (x4 : Addr) (x5 : Addr) (x8 : Int) (w : World) : Prop :=
  (8 : Int) ≠ 0 ∧ CallsE Tryd.prog 54 #[.pointer (some x4), .int .i64 (IntKind.wrap .i64 (Int.tdiv (IntKind.wrap .i64 (x8 + (7 : Int))) 8))] w (fun v81 w82 => ∃ (A83 : Option Addr) (m84 : Nat) (c85 : Nat), v81 = .slice A83 m84 c85 ∧ ref17_Read.p9 K x2 x4 x5 x8 A83 m84 c85 w82)
abbrev ref17_Read.p7 (K : Value → World → Prop) (x2 : Addr) (x4 : Addr) (x5 : Addr) (w : World) : Prop :=
  ∃ (n77 : Int), w.cell? (x5.add 1) = some (.int .i64 n77) ∧ CallsE Tryd.prog 31 #[.int .i64 n77] w (fun v78 w79 => ∃ (n80 : Int), v78 = .int .i64 n80 ∧ ref17_Read.p8 K x2 x4 x5 n80 w79)
abbrev ref17_Read.p6 (K : Value → World → Prop) (x2 : Addr) (x4 : Addr) (x5 : Addr) (x7 : Int) (w : World) : Prop :=
  condP (x7 != (0 : Int)) (canStore w x2 ∧ wlet (w.setCell x2 (.int .i64 0)) fun w57 => canStore w57 (x2.add 1) ∧ wlet (w57.setCell (x2.add 1) (.int .i64 0)) fun w58 => canStore w58 (x2.add 2) ∧ wlet (w58.setCell (x2.add 2) (.int .i64 0)) fun w59 => canStore w59 (x2.add 3) ∧ wlet (w59.setCell (x2.add 3) (.slice none 0 0)) fun w60 => canStore w60 (x2.add 4) ∧ wlet (w60.setCell (x2.add 4) (.int .i64 0)) fun w61 => canStore w61 (x2.add 5) ∧ wlet (w61.setCell (x2.add 5) (.slice none 0 0)) fun w62 => canStore w62 (x2.add 6) ∧ wlet (w62.setCell (x2.add 6) (.slice none 0 0)) fun w63 => ∃ (n64 : Int), w63.cell? x2 = some (.int .i64 n64) ∧ ∃ (n65 : Int), w63.cell? (x2.add 1) = some (.int .i64 n65) ∧ ∃ (n66 : Int), w63.cell? (x2.add 2) = some (.int .i64 n66) ∧ ∃ (A67 : Option Addr) (m68 : Nat) (c69 : Nat), w63.cell? (x2.add 3) = some (.slice A67 m68 c69) ∧ ∃ (n70 : Int), w63.cell? (x2.add 4) = some (.int .i64 n70) ∧ ∃ (A71 : Option Addr) (m72 : Nat) (c73 : Nat), w63.cell? (x2.add 5) = some (.slice A71 m72 c73) ∧ ∃ (A74 : Option Addr) (m75 : Nat) (c76 : Nat), w63.cell? (x2.add 6) = some (.slice A74 m75 c76) ∧ K (.tuple #[.agg #[.int .i64 n64, .int .i64 n65, .int .i64 n66, .slice A67 m68 c69, .int .i64 n70, .slice A71 m72 c73, .slice A74 m75 c76], .int .i64 4]) w63) (ref17_Read.p7 K x2 x4 x5 w)
abbrev ref17_Read.p5 (K : Value → World → Prop) (x2 : Addr) (x4 : Addr) (x5 : Addr) (w : World) : Prop :=
  ∃ (n50 : Int), w.cell? x5 = some (.int .i64 n50) ∧ ∃ (n51 : Int), w.cell? (x5.add 1) = some (.int .i64 n51) ∧ ∃ (n52 : Int), w.cell? (x5.add 2) = some (.int .i64 n52) ∧ CallsE Tryd.prog 53 #[.int .i64 n50, .int .i64 n51, .int .i64 n52] w (fun v53 w54 => ∃ (p55 : Option Addr) (n56 : Int), v53 = .tuple #[.pointer p55, .int .i64 n56] ∧ ref17_Read.p6 K x2 x4 x5 n56 w54)
abbrev ref17_Read.p3 (K : Value → World → Prop) (x2 : Addr) (x4 : Addr) (x5 : Addr) (x31 : Bool) (w : World) : Prop :=
  condP x31 (∃ (S27 : Array Obj → Prop), S27 w.heap ∧ ∃ (a28 : Addr), some x4 = some a28 ∧ ∃ (n29 : Int), (∀ w' : World, S27 w'.heap → w'.cell? (a28.add 1) = some (.int .i64 n29)) ∧ S27 w.heap ∧ canStore w x2 ∧ wlet (w.setCell x2 (.int .i64 0)) fun w30 => canStore w30 (x2.add 1) ∧ wlet (w30.setCell (x2.add 1) (.int .i64 0)) fun w31 => canStore w31 (x2.add 2) ∧ wlet (w31.setCell (x2.add 2) (.int .i64 0)) fun w32 => canStore w32 (x2.add 3) ∧ wlet (w32.setCell (x2.add 3) (.slice none 0 0)) fun w33 => canStore w33 (x2.add 4) ∧ wlet (w33.setCell (x2.add 4) (.int .i64 0)) fun w34 => canStore w34 (x2.add 5) ∧ wlet (w34.setCell (x2.add 5) (.slice none 0 0)) fun w35 => canStore w35 (x2.add 6) ∧ wlet (w35.setCell (x2.add 6) (.slice none 0 0)) fun w36 => S27 w36.heap ∧ ref17_Read.p4 K x2 n29 w36) (ref17_Read.p5 K x2 x4 x5 w)
abbrev ref17_Read.p2 (K : Value → World → Prop) (x2 : Addr) (x4 : Addr) (x5 : Addr) (w : World) : Prop :=
  ∃ (a25 : Addr), some x4 = some a25 ∧ ∃ (n26 : Int), w.cell? (a25.add 1) = some (.int .i64 n26) ∧ ref17_Read.p3 K x2 x4 x5 (n26 != (0 : Int)) w
abbrev ref17_Read.p1 (K : Value → World → Prop) (x2 : Addr) (x4 : Addr) (w : World) : Prop :=
  CallsE Tryd.prog 52 #[.pointer (some x4), .int .u64 4095] w (fun v8 w9 => ∃ (n10 : Int), v8 = .int .u64 n10 ∧ CallsE Tryd.prog 52 #[.pointer (some x4), .int .u64 7] w9 (fun v11 w12 => ∃ (n13 : Int), v11 = .int .u64 n13 ∧ CallsE Tryd.prog 52 #[.pointer (some x4), .int .u64 4096] w12 (fun v14 w15 => ∃ (n16 : Int), v14 = .int .u64 n16 ∧ wlet (w15.alloc (.cells #[.int .i64 0, .int .i64 0, .int .i64 0, .slice none 0 0, .int .i64 0, .slice none 0 0, .slice none 0 0] 36)) fun w17 => canStore w17 (⟨w15.heap.size, 0, none⟩) ∧ wlet (w17.setCell (⟨w15.heap.size, 0, none⟩) (.int .i64 (IntKind.wrap .i64 n10))) fun w18 => canStore w18 (⟨w15.heap.size, 1, none⟩) ∧ wlet (w18.setCell (⟨w15.heap.size, 1, none⟩) (.int .i64 (IntKind.wrap .i64 n13))) fun w19 => canStore w19 (⟨w15.heap.size, 2, none⟩) ∧ wlet (w19.setCell (⟨w15.heap.size, 2, none⟩) (.int .i64 (IntKind.wrap .i64 n16))) fun w20 => canStore w20 (⟨w15.heap.size, 3, none⟩) ∧ wlet (w20.setCell (⟨w15.heap.size, 3, none⟩) (.slice none 0 0)) fun w21 => canStore w21 (⟨w15.heap.size, 4, none⟩) ∧ wlet (w21.setCell (⟨w15.heap.size, 4, none⟩) (.int .i64 0)) fun w22 => canStore w22 (⟨w15.heap.size, 5, none⟩) ∧ wlet (w22.setCell (⟨w15.heap.size, 5, none⟩) (.slice none 0 0)) fun w23 => canStore w23 (⟨w15.heap.size, 6, none⟩) ∧ wlet (w23.setCell (⟨w15.heap.size, 6, none⟩) (.slice none 0 0)) fun w24 => ref17_Read.p2 K x2 x4 (⟨w15.heap.size, 0, none⟩) w24)))
abbrev ref17_Read.p0 (K : Value → World → Prop) (x0A : Option Addr) (x0n : Nat) (x0c : Nat) (x2 : Addr) (w : World) : Prop :=
  CallsE Tryd.prog 20 #[.slice x0A x0n x0c] w (fun v2 w3 => ∃ (A4 : Option Addr) (m5 : Nat) (c6 : Nat), v2 = .slice A4 m5 c6 ∧ wlet (w3.alloc (.cells #[.slice A4 m5 c6, .int .i64 0] 84)) fun w7 => ref17_Read.p1 K x2 (⟨w3.heap.size, 0, none⟩) w7)
abbrev ref17_Read.F (q0A : Option Addr) (q0n : Nat) (q0c : Nat) (K : Value → World → Prop) (w : World) : Prop :=
  wlet (w.alloc (.cells #[.int .i64 0, .int .i64 0, .int .i64 0, .slice none 0 0, .int .i64 0, .slice none 0 0, .slice none 0 0] 36)) fun w1 => ref17_Read.p0 K q0A q0n q0c (⟨w.heap.size, 0, none⟩) w1
theorem ref17_Read.ok {q0A : Option Addr} {q0n : Nat} {q0c : Nat} {K : Value → World → Prop} {w : World} (h : ref17_Read.F q0A q0n q0c K w) :
    CallsE Tryd.prog 21 #[.slice q0A q0n q0c] w K := by
  refine calls_of_J (n := 110) (rs := [.cell 2 36, .tmp 3]) Tryd.func21 rfl rfl rfl rfl ?_
  refine J_seq (fun σ w => vS (σ 0) fun x0A x0n x0c => vPa (σ 2) fun x2 => ref17_Read.p0 K x0A x0n x0c x2 w) ?_ ?_
  ·
    exact sh_sound _ _ _ _ (Eq.mp (by kernel_rfl) h)
  · intro σ w h
    obtain ⟨x0A, x0n, x0c, e0, h⟩ := vS_elim h
    obtain ⟨x2, e2, h⟩ := vPa_elim h
    refine J.sub ?_ (((Sub.base _).upd e0).upd e2)
    clear e0 e2
    refine J_seq (fun σ w => vPa (σ 2) fun x2 => vPa (σ 4) fun x4 => ref17_Read.p1 K x2 x4 w) ?_ ?_
    ·
      exact sh_sound _ _ _ _ (Eq.mp (by kernel_rfl) h)
    · intro σ w h
      obtain ⟨x2, e2, h⟩ := vPa_elim h
      obtain ⟨x4, e4, h⟩ := vPa_elim h
      refine J.sub ?_ (((Sub.base _).upd e2).upd e4)
      clear e2 e4
      refine J_seq (fun σ w => vPa (σ 2) fun x2 => vPa (σ 4) fun x4 => vPa (σ 5) fun x5 => ref17_Read.p2 K x2 x4 x5 w) ?_ ?_
      ·
        exact sh_sound _ _ _ _ (Eq.mp (by kernel_rfl) h)
      · intro σ w h
        obtain ⟨x2, e2, h⟩ := vPa_elim h
        obtain ⟨x4, e4, h⟩ := vPa_elim h
        obtain ⟨x5, e5, h⟩ := vPa_elim h
        refine J.sub ?_ ((((Sub.base _).upd e2).upd e4).upd e5)
        clear e2 e4 e5
        refine J_seq (fun σ w => vPa (σ 2) fun x2 => vPa (σ 4) fun x4 => vPa (σ 5) fun x5 => ref17_Read.p5 K x2 x4 x5 w) ?_ ?_
        ·
          refine J_seq (fun σ w => vPa (σ 2) fun x2 => vPa (σ 4) fun x4 => vPa (σ 5) fun x5 => vB (σ 31) fun x31 => ref17_Read.p3 K x2 x4 x5 x31 w) ?_ ?_
          ·
            exact sh_sound _ _ _ _ (Eq.mp (by kernel_rfl) h)
          · intro σ w h
            obtain ⟨x2, e2, h⟩ := vPa_elim h
            obtain ⟨x4, e4, h⟩ := vPa_elim h
            obtain ⟨x5, e5, h⟩ := vPa_elim h
            obtain ⟨x31, e31, h⟩ := vB_elim h
            refine J.sub ?_ (((((Sub.base _).upd e2).upd e4).upd e5).upd e31)
            clear e2 e4 e5 e31
            refine J_cond' h (by kernel_rfl) (fun h => ?_) (fun h => ?_)
            ·
              refine J_seq (fun σ w => vPa (σ 2) fun x2 => vI .i64 (σ 3) fun x3 => ref17_Read.p4 K x2 x3 w) ?_ ?_
              ·
                exact J_held [] [(1, 0), (2, 0), (3, 0), (4, 1), (0, 2), (5, 2), (6, 0)] (by kernel_rfl) (Eq.mp (by kernel_rfl) h)
              · intro σ w h
                obtain ⟨x2, e2, h⟩ := vPa_elim h
                obtain ⟨x3, e3, h⟩ := vI_elim h
                refine J.sub ?_ (((Sub.base _).upd e2).upd e3)
                clear e2 e3
                exact sh_sound _ _ _ _ (Eq.mp (by kernel_rfl) h)
            ·
              exact sh_sound _ _ _ _ (Eq.mp (by kernel_rfl) h)
        · intro σ w h
          obtain ⟨x2, e2, h⟩ := vPa_elim h
          obtain ⟨x4, e4, h⟩ := vPa_elim h
          obtain ⟨x5, e5, h⟩ := vPa_elim h
          refine J.sub ?_ ((((Sub.base _).upd e2).upd e4).upd e5)
          clear e2 e4 e5
          refine J_seq (fun σ w => vPa (σ 2) fun x2 => vPa (σ 4) fun x4 => vPa (σ 5) fun x5 => vI .i64 (σ 7) fun x7 => ref17_Read.p6 K x2 x4 x5 x7 w) ?_ ?_
          ·
            exact sh_sound _ _ _ _ (Eq.mp (by kernel_rfl) h)
          · intro σ w h
            obtain ⟨x2, e2, h⟩ := vPa_elim h
            obtain ⟨x4, e4, h⟩ := vPa_elim h
            obtain ⟨x5, e5, h⟩ := vPa_elim h
            obtain ⟨x7, e7, h⟩ := vI_elim h
            refine J.sub ?_ (((((Sub.base _).upd e2).upd e4).upd e5).upd e7)
            clear e2 e4 e5 e7
            refine J_seq (fun σ w => vPa (σ 2) fun x2 => vPa (σ 4) fun x4 => vPa (σ 5) fun x5 => ref17_Read.p7 K x2 x4 x5 w) ?_ ?_
            ·
              exact sh_sound _ _ _ _ (Eq.mp (by kernel_rfl) h)
            · intro σ w h
              obtain ⟨x2, e2, h⟩ := vPa_elim h
              obtain ⟨x4, e4, h⟩ := vPa_elim h
              obtain ⟨x5, e5, h⟩ := vPa_elim h
              refine J.sub ?_ ((((Sub.base _).upd e2).upd e4).upd e5)
              clear e2 e4 e5
              refine J_seq (fun σ w => vPa (σ 2) fun x2 => vPa (σ 4) fun x4 => vPa (σ 5) fun x5 => vI .i64 (σ 8) fun x8 => ref17_Read.p8 K x2 x4 x5 x8 w) ?_ ?_
              ·
                exact sh_sound _ _ _ _ (Eq.mp (by kernel_rfl) h)
              · intro σ w h
                obtain ⟨x2, e2, h⟩ := vPa_elim h
                obtain ⟨x4, e4, h⟩ := vPa_elim h
                obtain ⟨x5, e5, h⟩ := vPa_elim h
                obtain ⟨x8, e8, h⟩ := vI_elim h
                refine J.sub ?_ (((((Sub.base _).upd e2).upd e4).upd e5).upd e8)
                clear e2 e4 e5 e8
                refine J_seq (fun σ w => vPa (σ 2) fun x2 => vPa (σ 4) fun x4 => vPa (σ 5) fun x5 => vI .i64 (σ 8) fun x8 => vS (σ 9) fun x9A x9n x9c => ref17_Read.p9 K x2 x4 x5 x8 x9A x9n x9c w) ?_ ?_
                ·
                  exact sh_sound _ _ _ _ (Eq.mp (by kernel_rfl) h)
                · intro σ w h
                  obtain ⟨x2, e2, h⟩ := vPa_elim h
                  obtain ⟨x4, e4, h⟩ := vPa_elim h
                  obtain ⟨x5, e5, h⟩ := vPa_elim h
                  obtain ⟨x8, e8, h⟩ := vI_elim h
                  obtain ⟨x9A, x9n, x9c, e9, h⟩ := vS_elim h
                  refine J.sub ?_ ((((((Sub.base _).upd e2).upd e4).upd e5).upd e8).upd e9)
                  clear e2 e4 e5 e8 e9
                  refine J_seq (fun σ w => vPa (σ 2) fun x2 => vPa (σ 4) fun x4 => vPa (σ 5) fun x5 => vI .i64 (σ 8) fun x8 => vS (σ 9) fun x9A x9n x9c => ref17_Read.p12 K x2 x4 x5 x8 x9A x9n x9c w) ?_ ?_
                  ·
                    refine J_seq (fun σ w => vPa (σ 2) fun x2 => vPa (σ 4) fun x4 => vPa (σ 5) fun x5 => vI .i64 (σ 8) fun x8 => vS (σ 9) fun x9A x9n x9c => vB (σ 66) fun x66 => ref17_Read.p10 K x2 x4 x5 x8 x9A x9n x9c x66 w) ?_ ?_
                    ·
                      exact sh_sound _ _ _ _ (Eq.mp (by kernel_rfl) h)
                    · intro σ w h
                      obtain ⟨x2, e2, h⟩ := vPa_elim h
                      obtain ⟨x4, e4, h⟩ := vPa_elim h
                      obtain ⟨x5, e5, h⟩ := vPa_elim h
                      obtain ⟨x8, e8, h⟩ := vI_elim h
                      obtain ⟨x9A, x9n, x9c, e9, h⟩ := vS_elim h
                      obtain ⟨x66, e66, h⟩ := vB_elim h
                      refine J.sub ?_ (((((((Sub.base _).upd e2).upd e4).upd e5).upd e8).upd e9).upd e66)
                      clear e2 e4 e5 e8 e9 e66
                      refine J_cond' h (by kernel_rfl) (fun h => ?_) (fun h => ?_)
                      ·
                        refine J_seq (fun σ w => vPa (σ 2) fun x2 => vI .i64 (σ 3) fun x3 => ref17_Read.p11 K x2 x3 w) ?_ ?_
                        ·
                          exact J_held [] [(1, 0), (2, 0), (3, 0), (4, 1), (0, 2), (5, 2), (6, 0)] (by kernel_rfl) (Eq.mp (by kernel_rfl) h)
                        · intro σ w h
                          obtain ⟨x2, e2, h⟩ := vPa_elim h
                          obtain ⟨x3, e3, h⟩ := vI_elim h
                          refine J.sub ?_ (((Sub.base _).upd e2).upd e3)
                          clear e2 e3
                          exact sh_sound _ _ _ _ (Eq.mp (by kernel_rfl) h)
                      ·
                        exact sh_sound _ _ _ _ (Eq.mp (by kernel_rfl) h)
                  · intro σ w h
                    obtain ⟨x2, e2, h⟩ := vPa_elim h
                    obtain ⟨x4, e4, h⟩ := vPa_elim h
                    obtain ⟨x5, e5, h⟩ := vPa_elim h
                    obtain ⟨x8, e8, h⟩ := vI_elim h
                    obtain ⟨x9A, x9n, x9c, e9, h⟩ := vS_elim h
                    refine J.sub ?_ ((((((Sub.base _).upd e2).upd e4).upd e5).upd e8).upd e9)
                    clear e2 e4 e5 e8 e9
                    exact sh_sound _ _ _ _ (Eq.mp (by kernel_rfl) h)

/-! ### hayloft/num.Var: function 22 -/
abbrev num_Var.p2 (K : Value → World → Prop) (x0 : Int) (x3A : Option Addr) (x3n : Nat) (x3c : Nat) (w : World) : Prop :=
  wlet (w.alloc (.cells #[.int .u8 (IntKind.wrap .u8 x0)] 5)) fun w7 => SemJ Tryd.prog (Builtin.append_ #[25, 25] 25 #[.slice x3A x3n x3c, .slice (some ⟨w.heap.size, 0, none⟩) 1 1]) (fun v8 w9 => ∃ (A10 : Option Addr) (m11 : Nat) (c12 : Nat), v8 = .slice A10 m11 c12 ∧ K (.slice A10 m11 c12) w9) w7
abbrev num_Var.b0 (L0 : Int → Option Addr → Nat → Nat → World → Prop) (K : Value → World → Prop) (x0 : Int) (x3A : Option Addr) (x3n : Nat) (x3c : Nat) (w : World) : Prop :=
  condP (decide ((128 : Int) ≤ x0)) (wlet (w.alloc (.cells #[.int .u8 (ibits .or .u8 (IntKind.wrap .u8 x0) 128)] 5)) fun w1 => SemJ Tryd.prog (Builtin.append_ #[25, 25] 25 #[.slice x3A x3n x3c, .slice (some ⟨w.heap.size, 0, none⟩) 1 1]) (fun v2 w3 => ∃ (A4 : Option Addr) (m5 : Nat) (c6 : Nat), v2 = .slice A4 m5 c6 ∧ 0 ≤ (7 : Int) ∧ L0 (ishr .u64 x0 7) A4 m5 c6 w3) w1) (num_Var.p2 K x0 x3A x3n x3c w)
def num_Var.l0 (K : Value → World → Prop) (k : Nat) : Int → Option Addr → Nat → Nat → World → Prop :=
  Nat.rec (motive := fun _ => Int → Option Addr → Nat → Nat → World → Prop) (fun _ _ _ _ _ => False) (fun _ ih => num_Var.b0 ih K) k
theorem num_Var.l0_succ (K : Value → World → Prop) (k : Nat) (x0 : Int) (x3A : Option Addr) (x3n : Nat) (x3c : Nat) (w : World) : num_Var.l0 K (k + 1) x0 x3A x3n x3c w = num_Var.b0 (num_Var.l0 K k) K x0 x3A x3n x3c w := rfl
abbrev num_Var.p1 (K : Value → World → Prop) (x0 : Int) (x3A : Option Addr) (x3n : Nat) (x3c : Nat) (w : World) : Prop :=
  ∃ k, num_Var.l0 K k x0 x3A x3n x3c w
abbrev num_Var.p0 (K : Value → World → Prop) (x0 : Int) (w : World) : Prop :=
  num_Var.p1 K x0 none 0 0 w
abbrev num_Var.F (q0 : Int) (K : Value → World → Prop) (w : World) : Prop :=
  num_Var.p0 K q0 w
theorem num_Var.ok {q0 : Int} {K : Value → World → Prop} {w : World} (h : num_Var.F q0 K w) :
    CallsE Tryd.prog 22 #[.int .u64 q0] w K := by
  refine calls_of_J (n := 19) (rs := [.tmp 2]) Tryd.func22 rfl rfl rfl rfl ?_
  refine J_seq (fun σ w => vI .u64 (σ 0) fun x0 => num_Var.p0 K x0 w) ?_ ?_
  ·
    exact sh_sound _ _ _ _ (Eq.mp (by kernel_rfl) h)
  · intro σ w h
    obtain ⟨x0, e0, h⟩ := vI_elim h
    refine J.sub ?_ ((Sub.base _).upd e0)
    clear e0
    refine J_seq (fun σ w => vI .u64 (σ 0) fun x0 => vS (σ 3) fun x3A x3n x3c => num_Var.p1 K x0 x3A x3n x3c w) ?_ ?_
    ·
      exact sh_sound _ _ _ _ (Eq.mp (by kernel_rfl) h)
    · intro σ w h
      obtain ⟨x0, e0, h⟩ := vI_elim h
      obtain ⟨x3A, x3n, x3c, e3, h⟩ := vS_elim h
      refine J.sub ?_ (((Sub.base _).upd e0).upd e3)
      clear e0 e3
      refine J_seq (fun σ w => vI .u64 (σ 0) fun x0 => vS (σ 3) fun x3A x3n x3c => num_Var.p2 K x0 x3A x3n x3c w) ?_ ?_
      ·
        refine J_block ?_
        refine J_loop (fun k σ w => vI .u64 (σ 0) fun x0 => vS (σ 3) fun x3A x3n x3c => num_Var.l0 K k x0 x3A x3n x3c w) (Eq.mp (by kernel_rfl) h) ?_ ?_
        · intro σ w h
          obtain ⟨x0, e0, h⟩ := vI_elim h
          obtain ⟨x3A, x3n, x3c, e3, h⟩ := vS_elim h
          exact h
        · intro k0 σ w h
          obtain ⟨x0, e0, h⟩ := vI_elim h
          obtain ⟨x3A, x3n, x3c, e3, h⟩ := vS_elim h
          refine J.sub ?_ (((Sub.base _).upd e0).upd e3)
          clear e0 e3
          exact sh_sound _ _ _ _ (Eq.mp (by kernel_rfl) h)
      · intro σ w h
        obtain ⟨x0, e0, h⟩ := vI_elim h
        obtain ⟨x3A, x3n, x3c, e3, h⟩ := vS_elim h
        refine J.sub ?_ (((Sub.base _).upd e0).upd e3)
        clear e0 e3
        exact sh_sound _ _ _ _ (Eq.mp (by kernel_rfl) h)

/-! ### hayloft/set.New: function 23 -/
abbrev set_New.F (q0 : Int) (K : Value → World → Prop) (w : World) : Prop :=
  (64 : Int) ≠ 0 ∧ (0 ≤ (IntKind.wrap .i64 (Int.tdiv (IntKind.wrap .i64 ((imax 0 (imin q0 65536)) + (63 : Int))) 64)) ∧ (IntKind.wrap .i64 (Int.tdiv (IntKind.wrap .i64 ((imax 0 (imin q0 65536)) + (63 : Int))) 64)) ≤ (IntKind.wrap .i64 (Int.tdiv (IntKind.wrap .i64 ((imax 0 (imin q0 65536)) + (63 : Int))) 64)) ∧ (8 : Int) * (IntKind.wrap .i64 (Int.tdiv (IntKind.wrap .i64 ((imax 0 (imin q0 65536)) + (63 : Int))) 64)) ≤ 281474976710656 ∧ (IntKind.wrap .i64 (Int.tdiv (IntKind.wrap .i64 ((imax 0 (imin q0 65536)) + (63 : Int))) 64)) ≤ 9223372036854775807) ∧ wlet (w.alloc (.cells (madeCells #[.int .u64 0] ((IntKind.wrap .i64 (Int.tdiv (IntKind.wrap .i64 ((imax 0 (imin q0 65536)) + (63 : Int))) 64)).toNat * 1)) 52)) fun w1 => wlet (w1.alloc (.cells #[.int .i64 (imax 0 (imin q0 65536)), .slice (some ⟨w.heap.size, 0, none⟩) ((IntKind.wrap .i64 (Int.tdiv (IntKind.wrap .i64 ((imax 0 (imin q0 65536)) + (63 : Int))) 64)).toNat) ((IntKind.wrap .i64 (Int.tdiv (IntKind.wrap .i64 ((imax 0 (imin q0 65536)) + (63 : Int))) 64)).toNat)] 93)) fun w2 => K (.pointer (some (⟨w1.heap.size, 0, none⟩))) w2
theorem set_New.ok {q0 : Int} {K : Value → World → Prop} {w : World} (h : set_New.F q0 K w) :
    CallsE Tryd.prog 23 #[.int .i64 q0] w K := by
  refine calls_of_J (n := 13) (rs := [.tmp 2]) Tryd.func23 rfl rfl rfl rfl ?_
  exact sh_sound _ _ _ _ (Eq.mp (by kernel_rfl) h)

/-! ### hayloft/class.Slots: function 24 -/
abbrev class_Slots.F (q0 : Int) (K : Value → World → Prop) (w : World) : Prop :=
  condP (q0 == (7 : Int)) (K (.int .i64 1) w) (CallsE Tryd.prog 59 #[.int .i64 q0] w (fun v1 w2 => ∃ (n3 : Int), v1 = .int .i64 n3 ∧ condP (decide ((0 : Int) < n3)) (n3 ≠ 0 ∧ K (.int .i64 (IntKind.wrap .i64 (Int.tdiv 256 n3))) w2) (K (.int .i64 0) w2)))
theorem class_Slots.ok {q0 : Int} {K : Value → World → Prop} {w : World} (h : class_Slots.F q0 K w) :
    CallsE Tryd.prog 24 #[.int .i64 q0] w K := by
  refine calls_of_J (n := 12) (rs := [.tmp 2]) Tryd.func24 rfl rfl rfl rfl ?_
  exact sh_sound _ _ _ _ (Eq.mp (by kernel_rfl) h)

/-! ### (*hayloft/set.Set).Add: function 25 -/
abbrev set_Set_Add.p3 (K : Value → World → Prop) (w : World) : Prop :=
  K (.bool true) w
abbrev set_Set_Add.p2 (K : Value → World → Prop) (x0 : Option Addr) (x1 : Int) (w : World) : Prop :=
  ∃ (S1 : Array Obj → Prop), S1 w.heap ∧ ∃ (a2 : Addr), x0 = some a2 ∧ (64 : Int) ≠ 0 ∧ (64 : Int) ≠ 0 ∧ 0 ≤ (Int.tmod x1 64) ∧ ∃ (A3 : Option Addr) (m4 : Nat) (c5 : Nat), (∀ w' : World, S1 w'.heap → w'.cell? (a2.add 1) = some (.slice A3 m4 c5)) ∧ (0 ≤ (IntKind.wrap .i64 (Int.tdiv x1 64)) ∧ (IntKind.wrap .i64 (Int.tdiv x1 64)) < ((m4 : Nat) : Int)) ∧ ∃ (a6 : Addr), A3 = some a6 ∧ ∃ (n7 : Int), (∀ w' : World, S1 w'.heap → w'.cell? (a6.add ((IntKind.wrap .i64 (Int.tdiv x1 64)).toNat)) = some (.int .u64 n7)) ∧ (0 ≤ (IntKind.wrap .i64 (Int.tdiv x1 64)) ∧ (IntKind.wrap .i64 (Int.tdiv x1 64)) < ((m4 : Nat) : Int)) ∧ ∃ (a8 : Addr), A3 = some a8 ∧ canStore w (a8.add ((IntKind.wrap .i64 (Int.tdiv x1 64)).toNat)) ∧ wlet (w.setCell (a8.add ((IntKind.wrap .i64 (Int.tdiv x1 64)).toNat)) (.int .u64 (ibits .or .u64 n7 (ishl .u64 1 (Int.tmod x1 64))))) fun w9 => set_Set_Add.p3 K w9
abbrev set_Set_Add.p1 (K : Value → World → Prop) (x0 : Option Addr) (x1 : Int) (x17 : Bool) (w : World) : Prop :=
  condP x17 (K (.bool false) w) (set_Set_Add.p2 K x0 x1 w)
abbrev set_Set_Add.p0 (K : Value → World → Prop) (x0 : Option Addr) (x1 : Int) (w : World) : Prop :=
  condP (decide (x1 < (0 : Int))) (set_Set_Add.p1 K x0 x1 true w) (CallsE Tryd.prog 60 #[.pointer x0] w (fun v10 w11 => ∃ (n12 : Int), v10 = .int .i64 n12 ∧ condP (decide (n12 ≤ x1)) (set_Set_Add.p1 K x0 x1 true w11) (CallsE Tryd.prog 61 #[.pointer x0, .int .i64 x1] w11 (fun v13 w14 => ∃ (b15 : Bool), v13 = .bool b15 ∧ set_Set_Add.p1 K x0 x1 b15 w14))))
abbrev set_Set_Add.F (q0 : Option Addr) (q1 : Int) (K : Value → World → Prop) (w : World) : Prop :=
  set_Set_Add.p0 K q0 q1 w
theorem set_Set_Add.ok {q0 : Option Addr} {q1 : Int} {K : Value → World → Prop} {w : World} (h : set_Set_Add.F q0 q1 K w) :
    CallsE Tryd.prog 25 #[.pointer q0, .int .i64 q1] w K := by
  refine calls_of_J (n := 31) (rs := [.tmp 4]) Tryd.func25 rfl rfl rfl rfl ?_
  refine J_seq (fun σ w => vP (σ 0) fun x0 => vI .i64 (σ 1) fun x1 => set_Set_Add.p0 K x0 x1 w) ?_ ?_
  ·
    exact sh_sound _ _ _ _ (Eq.mp (by kernel_rfl) h)
  · intro σ w h
    obtain ⟨x0, e0, h⟩ := vP_elim h
    obtain ⟨x1, e1, h⟩ := vI_elim h
    refine J.sub ?_ (((Sub.base _).upd e0).upd e1)
    clear e0 e1
    refine J_seq (fun σ w => vP (σ 0) fun x0 => vI .i64 (σ 1) fun x1 => set_Set_Add.p2 K x0 x1 w) ?_ ?_
    ·
      refine J_seq (fun σ w => vP (σ 0) fun x0 => vI .i64 (σ 1) fun x1 => vB (σ 17) fun x17 => set_Set_Add.p1 K x0 x1 x17 w) ?_ ?_
      ·
        exact sh_sound _ _ _ _ (Eq.mp (by kernel_rfl) h)
      · intro σ w h
        obtain ⟨x0, e0, h⟩ := vP_elim h
        obtain ⟨x1, e1, h⟩ := vI_elim h
        obtain ⟨x17, e17, h⟩ := vB_elim h
        refine J.sub ?_ ((((Sub.base _).upd e0).upd e1).upd e17)
        clear e0 e1 e17
        exact sh_sound _ _ _ _ (Eq.mp (by kernel_rfl) h)
    · intro σ w h
      obtain ⟨x0, e0, h⟩ := vP_elim h
      obtain ⟨x1, e1, h⟩ := vI_elim h
      refine J.sub ?_ (((Sub.base _).upd e0).upd e1)
      clear e0 e1
      refine J_seq (fun σ w => set_Set_Add.p3 K w) ?_ ?_
      ·
        exact J_held [13] [(0, 0), (1, 0), (2, 0), (4, 0), (5, 0), (8, 0), (9, 0), (10, 0), (3, 1), (6, 0), (7, 1), (11, 0), (12, 0), (13, 3)] (by kernel_rfl) (Eq.mp (by kernel_rfl) h)
      · intro σ w h
        refine J.sub ?_ (Sub.base _)
        exact sh_sound _ _ _ _ (Eq.mp (by kernel_rfl) h)

/-! ### (*hayloft/set.Set).Bytes: function 26 -/
abbrev set_Set_Bytes.p3 (K : Value → World → Prop) (x3A : Option Addr) (x3n : Nat) (x3c : Nat) (w : World) : Prop :=
  K (.slice x3A x3n x3c) w
abbrev set_Set_Bytes.b0 (L0 : Option Addr → Option Addr → Nat → Nat → Int → Int → World → Prop) (K : Value → World → Prop) (x0 : Option Addr) (x3A : Option Addr) (x3n : Nat) (x3c : Nat) (x11 : Int) (x12 : Int) (w : World) : Prop :=
  condP (decide (x12 < x11)) (∃ (a5 : Addr), x0 = some a5 ∧ ∃ (A6 : Option Addr) (m7 : Nat) (c8 : Nat), w.cell? (a5.add 1) = some (.slice A6 m7 c8) ∧ (8 : Int) ≠ 0 ∧ (0 ≤ (IntKind.wrap .i64 (Int.tdiv x12 8)) ∧ (IntKind.wrap .i64 (Int.tdiv x12 8)) < ((m7 : Nat) : Int)) ∧ ∃ (a9 : Addr), A6 = some a9 ∧ ∃ (n10 : Int), w.cell? (a9.add ((IntKind.wrap .i64 (Int.tdiv x12 8)).toNat)) = some (.int .u64 n10) ∧ (8 : Int) ≠ 0 ∧ 0 ≤ (IntKind.wrap .i64 ((8 : Int) * (Int.tmod x12 8))) ∧ (0 ≤ x12 ∧ x12 < ((x3n : Nat) : Int)) ∧ ∃ (a11 : Addr), x3A = some a11 ∧ canStore w (a11.add x12.toNat) ∧ wlet (w.setCell (a11.add x12.toNat) (.int .u8 (IntKind.wrap .u8 (ishr .u64 n10 (IntKind.wrap .i64 ((8 : Int) * (Int.tmod x12 8))))))) fun w12 => L0 x0 x3A x3n x3c x11 (IntKind.wrap .i64 (x12 + (1 : Int))) w12) (set_Set_Bytes.p3 K x3A x3n x3c w)
def set_Set_Bytes.l0 (K : Value → World → Prop) (k : Nat) : Option Addr → Option Addr → Nat → Nat → Int → Int → World → Prop :=
  Nat.rec (motive := fun _ => Option Addr → Option Addr → Nat → Nat → Int → Int → World → Prop) (fun _ _ _ _ _ _ _ => False) (fun _ ih => set_Set_Bytes.b0 ih K) k
theorem set_Set_Bytes.l0_succ (K : Value → World → Prop) (k : Nat) (x0 : Option Addr) (x3A : Option Addr) (x3n : Nat) (x3c : Nat) (x11 : Int) (x12 : Int) (w : World) : set_Set_Bytes.l0 K (k + 1) x0 x3A x3n x3c x11 x12 w = set_Set_Bytes.b0 (set_Set_Bytes.l0 K k) K x0 x3A x3n x3c x11 x12 w := rfl
abbrev set_Set_Bytes.p2 (K : Value → World → Prop) (x0 : Option Addr) (x3A : Option Addr) (x3n : Nat) (x3c : Nat) (x11 : Int) (x12 : Int) (w : World) : Prop :=
  ∃ k, set_Set_Bytes.l0 K k x0 x3A x3n x3c x11 x12 w
abbrev set_Set_Bytes.p1 (K : Value → World → Prop) (x0 : Option Addr) (x3A : Option Addr) (x3n : Nat) (x3c : Nat) (w : World) : Prop :=
  set_Set_Bytes.p2 K x0 x3A x3n x3c ((x3n : Nat) : Int) 0 w
abbrev set_Set_Bytes.p0 (K : Value → World → Prop) (x0 : Option Addr) (w : World) : Prop :=
  CallsE Tryd.prog 60 #[.pointer x0] w (fun v1 w2 => ∃ (n3 : Int), v1 = .int .i64 n3 ∧ (8 : Int) ≠ 0 ∧ (0 ≤ (IntKind.wrap .i64 (Int.tdiv (IntKind.wrap .i64 (n3 + (7 : Int))) 8)) ∧ (IntKind.wrap .i64 (Int.tdiv (IntKind.wrap .i64 (n3 + (7 : Int))) 8)) ≤ (IntKind.wrap .i64 (Int.tdiv (IntKind.wrap .i64 (n3 + (7 : Int))) 8)) ∧ (1 : Int) * (IntKind.wrap .i64 (Int.tdiv (IntKind.wrap .i64 (n3 + (7 : Int))) 8)) ≤ 281474976710656 ∧ (IntKind.wrap .i64 (Int.tdiv (IntKind.wrap .i64 (n3 + (7 : Int))) 8)) ≤ 9223372036854775807) ∧ wlet (w2.alloc (.cells (madeCells #[.int .u8 0] ((IntKind.wrap .i64 (Int.tdiv (IntKind.wrap .i64 (n3 + (7 : Int))) 8)).toNat * 1)) 5)) fun w4 => set_Set_Bytes.p1 K x0 (some ⟨w2.heap.size, 0, none⟩) ((IntKind.wrap .i64 (Int.tdiv (IntKind.wrap .i64 (n3 + (7 : Int))) 8)).toNat) ((IntKind.wrap .i64 (Int.tdiv (IntKind.wrap .i64 (n3 + (7 : Int))) 8)).toNat) w4)
abbrev set_Set_Bytes.F (q0 : Option Addr) (K : Value → World → Prop) (w : World) : Prop :=
  set_Set_Bytes.p0 K q0 w
theorem set_Set_Bytes.ok {q0 : Option Addr} {K : Value → World → Prop} {w : World} (h : set_Set_Bytes.F q0 K w) :
    CallsE Tryd.prog 26 #[.pointer q0] w K := by
  refine calls_of_J (n := 33) (rs := [.tmp 2]) Tryd.func26 rfl rfl rfl rfl ?_
  refine J_seq (fun σ w => vP (σ 0) fun x0 => set_Set_Bytes.p0 K x0 w) ?_ ?_
  ·
    exact sh_sound _ _ _ _ (Eq.mp (by kernel_rfl) h)
  · intro σ w h
    obtain ⟨x0, e0, h⟩ := vP_elim h
    refine J.sub ?_ ((Sub.base _).upd e0)
    clear e0
    refine J_seq (fun σ w => vP (σ 0) fun x0 => vS (σ 3) fun x3A x3n x3c => set_Set_Bytes.p1 K x0 x3A x3n x3c w) ?_ ?_
    ·
      exact sh_sound _ _ _ _ (Eq.mp (by kernel_rfl) h)
    · intro σ w h
      obtain ⟨x0, e0, h⟩ := vP_elim h
      obtain ⟨x3A, x3n, x3c, e3, h⟩ := vS_elim h
      refine J.sub ?_ (((Sub.base _).upd e0).upd e3)
      clear e0 e3
      refine J_seq (fun σ w => vS (σ 3) fun x3A x3n x3c => set_Set_Bytes.p3 K x3A x3n x3c w) ?_ ?_
      ·
        refine J_seq (fun σ w => vP (σ 0) fun x0 => vS (σ 3) fun x3A x3n x3c => vI .i64 (σ 11) fun x11 => vI .i64 (σ 12) fun x12 => set_Set_Bytes.p2 K x0 x3A x3n x3c x11 x12 w) ?_ ?_
        ·
          exact sh_sound _ _ _ _ (Eq.mp (by kernel_rfl) h)
        · intro σ w h
          obtain ⟨x0, e0, h⟩ := vP_elim h
          obtain ⟨x3A, x3n, x3c, e3, h⟩ := vS_elim h
          obtain ⟨x11, e11, h⟩ := vI_elim h
          obtain ⟨x12, e12, h⟩ := vI_elim h
          refine J.sub ?_ (((((Sub.base _).upd e0).upd e3).upd e11).upd e12)
          clear e0 e3 e11 e12
          refine J_block ?_
          refine J_loop (fun k σ w => vP (σ 0) fun x0 => vS (σ 3) fun x3A x3n x3c => vI .i64 (σ 11) fun x11 => vI .i64 (σ 12) fun x12 => set_Set_Bytes.l0 K k x0 x3A x3n x3c x11 x12 w) (Eq.mp (by kernel_rfl) h) ?_ ?_
          · intro σ w h
            obtain ⟨x0, e0, h⟩ := vP_elim h
            obtain ⟨x3A, x3n, x3c, e3, h⟩ := vS_elim h
            obtain ⟨x11, e11, h⟩ := vI_elim h
            obtain ⟨x12, e12, h⟩ := vI_elim h
            exact h
          · intro k0 σ w h
            obtain ⟨x0, e0, h⟩ := vP_elim h
            obtain ⟨x3A, x3n, x3c, e3, h⟩ := vS_elim h
            obtain ⟨x11, e11, h⟩ := vI_elim h
            obtain ⟨x12, e12, h⟩ := vI_elim h
            refine J.sub ?_ (((((Sub.base _).upd e0).upd e3).upd e11).upd e12)
            clear e0 e3 e11 e12
            exact sh_sound _ _ _ _ (Eq.mp (by kernel_rfl) h)
      · intro σ w h
        obtain ⟨x3A, x3n, x3c, e3, h⟩ := vS_elim h
        refine J.sub ?_ ((Sub.base _).upd e3)
        clear e3
        exact sh_sound _ _ _ _ (Eq.mp (by kernel_rfl) h)

/-! ### hayloft/reloc.Bytes: function 27 -/
abbrev reloc_Bytes.p5 (K : Value → World → Prop) (x4A : Option Addr) (x4n : Nat) (x4c : Nat) (w : World) : Prop :=
  K (.tuple #[.slice x4A x4n x4c, .int .i64 0]) w
abbrev reloc_Bytes.b0 (L0 : Option Addr → Nat → Nat → Int → Option Addr → Nat → Nat → Int → Int → World → Prop) (K : Value → World → Prop) (x4A : Option Addr) (x4n : Nat) (x4c : Nat) (x5 : Int) (x15A : Option Addr) (x15n : Nat) (x15c : Nat) (x16 : Int) (x17 : Int) (w : World) : Prop :=
  condP (decide (x17 < x16)) ((0 ≤ x17 ∧ x17 < ((x15n : Nat) : Int)) ∧ ∃ (a9 : Addr), x15A = some a9 ∧ ∃ (n10 : Int), w.cell? (a9.add x17.toNat) = some (.int .i64 n10) ∧ (8 : Int) ≠ 0 ∧ CallsE Tryd.prog 22 #[.int .u64 (IntKind.wrap .u64 (IntKind.wrap .i64 (Int.tdiv (IntKind.wrap .i64 (n10 - x5)) 8)))] w (fun v11 w12 => ∃ (A13 : Option Addr) (m14 : Nat) (c15 : Nat), v11 = .slice A13 m14 c15 ∧ SemJ Tryd.prog (Builtin.append_ #[25, 25] 25 #[.slice x4A x4n x4c, .slice A13 m14 c15]) (fun v16 w17 => ∃ (A18 : Option Addr) (m19 : Nat) (c20 : Nat), v16 = .slice A18 m19 c20 ∧ L0 A18 m19 c20 (IntKind.wrap .i64 (n10 + (8 : Int))) x15A x15n x15c x16 (IntKind.wrap .i64 (x17 + (1 : Int))) w17) w12)) (reloc_Bytes.p5 K x4A x4n x4c w)
def reloc_Bytes.l0 (K : Value → World → Prop) (k : Nat) : Option Addr → Nat → Nat → Int → Option Addr → Nat → Nat → Int → Int → World → Prop :=
  Nat.rec (motive := fun _ => Option Addr → Nat → Nat → Int → Option Addr → Nat → Nat → Int → Int → World → Prop) (fun _ _ _ _ _ _ _ _ _ _ => False) (fun _ ih => reloc_Bytes.b0 ih K) k
theorem reloc_Bytes.l0_succ (K : Value → World → Prop) (k : Nat) (x4A : Option Addr) (x4n : Nat) (x4c : Nat) (x5 : Int) (x15A : Option Addr) (x15n : Nat) (x15c : Nat) (x16 : Int) (x17 : Int) (w : World) : reloc_Bytes.l0 K (k + 1) x4A x4n x4c x5 x15A x15n x15c x16 x17 w = reloc_Bytes.b0 (reloc_Bytes.l0 K k) K x4A x4n x4c x5 x15A x15n x15c x16 x17 w := rfl
abbrev reloc_Bytes.p4 (K : Value → World → Prop) (x4A : Option Addr) (x4n : Nat) (x4c : Nat) (x5 : Int) (x15A : Option Addr) (x15n : Nat) (x15c : Nat) (x16 : Int) (x17 : Int) (w : World) : Prop :=
  ∃ k, reloc_Bytes.l0 K k x4A x4n x4c x5 x15A x15n x15c x16 x17 w
abbrev reloc_Bytes.p3 (K : Value → World → Prop) (x0A : Option Addr) (x0n : Nat) (x0c : Nat) (x4A : Option Addr) (x4n : Nat) (x4c : Nat) (x5 : Int) (w : World) : Prop :=
  reloc_Bytes.p4 K x4A x4n x4c x5 x0A x0n x0c ((x0n : Nat) : Int) 0 w
abbrev reloc_Bytes.p2 (K : Value → World → Prop) (x0A : Option Addr) (x0n : Nat) (x0c : Nat) (x4A : Option Addr) (x4n : Nat) (x4c : Nat) (w : World) : Prop :=
  reloc_Bytes.p3 K x0A x0n x0c x4A x4n x4c 0 w
abbrev reloc_Bytes.p1 (K : Value → World → Prop) (x0A : Option Addr) (x0n : Nat) (x0c : Nat) (w : World) : Prop :=
  CallsE Tryd.prog 22 #[.int .u64 (IntKind.wrap .u64 ((x0n : Nat) : Int))] w (fun v4 w5 => ∃ (A6 : Option Addr) (m7 : Nat) (c8 : Nat), v4 = .slice A6 m7 c8 ∧ reloc_Bytes.p2 K x0A x0n x0c A6 m7 c8 w5)
abbrev reloc_Bytes.p0 (K : Value → World → Prop) (x0A : Option Addr) (x0n : Nat) (x0c : Nat) (w : World) : Prop :=
  CallsE Tryd.prog 36 #[.slice x0A x0n x0c, .int .i64 65535] w (fun v1 w2 => ∃ (b3 : Bool), v1 = .bool b3 ∧ condP (!b3) (K (.tuple #[.slice none 0 0, .int .i64 4]) w2) (reloc_Bytes.p1 K x0A x0n x0c w2))
abbrev reloc_Bytes.F (q0A : Option Addr) (q0n : Nat) (q0c : Nat) (K : Value → World → Prop) (w : World) : Prop :=
  reloc_Bytes.p0 K q0A q0n q0c w
theorem reloc_Bytes.ok {q0A : Option Addr} {q0n : Nat} {q0c : Nat} {K : Value → World → Prop} {w : World} (h : reloc_Bytes.F q0A q0n q0c K w) :
    CallsE Tryd.prog 27 #[.slice q0A q0n q0c] w K := by
  refine calls_of_J (n := 33) (rs := [.tmp 2, .tmp 3]) Tryd.func27 rfl rfl rfl rfl ?_
  refine J_seq (fun σ w => vS (σ 0) fun x0A x0n x0c => reloc_Bytes.p0 K x0A x0n x0c w) ?_ ?_
  ·
    exact sh_sound _ _ _ _ (Eq.mp (by kernel_rfl) h)
  · intro σ w h
    obtain ⟨x0A, x0n, x0c, e0, h⟩ := vS_elim h
    refine J.sub ?_ ((Sub.base _).upd e0)
    clear e0
    refine J_seq (fun σ w => vS (σ 0) fun x0A x0n x0c => reloc_Bytes.p1 K x0A x0n x0c w) ?_ ?_
    ·
      exact sh_sound _ _ _ _ (Eq.mp (by kernel_rfl) h)
    · intro σ w h
      obtain ⟨x0A, x0n, x0c, e0, h⟩ := vS_elim h
      refine J.sub ?_ ((Sub.base _).upd e0)
      clear e0
      refine J_seq (fun σ w => vS (σ 0) fun x0A x0n x0c => vS (σ 4) fun x4A x4n x4c => reloc_Bytes.p2 K x0A x0n x0c x4A x4n x4c w) ?_ ?_
      ·
        exact sh_sound _ _ _ _ (Eq.mp (by kernel_rfl) h)
      · intro σ w h
        obtain ⟨x0A, x0n, x0c, e0, h⟩ := vS_elim h
        obtain ⟨x4A, x4n, x4c, e4, h⟩ := vS_elim h
        refine J.sub ?_ (((Sub.base _).upd e0).upd e4)
        clear e0 e4
        refine J_seq (fun σ w => vS (σ 0) fun x0A x0n x0c => vS (σ 4) fun x4A x4n x4c => vI .i64 (σ 5) fun x5 => reloc_Bytes.p3 K x0A x0n x0c x4A x4n x4c x5 w) ?_ ?_
        ·
          exact sh_sound _ _ _ _ (Eq.mp (by kernel_rfl) h)
        · intro σ w h
          obtain ⟨x0A, x0n, x0c, e0, h⟩ := vS_elim h
          obtain ⟨x4A, x4n, x4c, e4, h⟩ := vS_elim h
          obtain ⟨x5, e5, h⟩ := vI_elim h
          refine J.sub ?_ ((((Sub.base _).upd e0).upd e4).upd e5)
          clear e0 e4 e5
          refine J_seq (fun σ w => vS (σ 4) fun x4A x4n x4c => reloc_Bytes.p5 K x4A x4n x4c w) ?_ ?_
          ·
            refine J_seq (fun σ w => vS (σ 4) fun x4A x4n x4c => vI .i64 (σ 5) fun x5 => vS (σ 15) fun x15A x15n x15c => vI .i64 (σ 16) fun x16 => vI .i64 (σ 17) fun x17 => reloc_Bytes.p4 K x4A x4n x4c x5 x15A x15n x15c x16 x17 w) ?_ ?_
            ·
              exact sh_sound _ _ _ _ (Eq.mp (by kernel_rfl) h)
            · intro σ w h
              obtain ⟨x4A, x4n, x4c, e4, h⟩ := vS_elim h
              obtain ⟨x5, e5, h⟩ := vI_elim h
              obtain ⟨x15A, x15n, x15c, e15, h⟩ := vS_elim h
              obtain ⟨x16, e16, h⟩ := vI_elim h
              obtain ⟨x17, e17, h⟩ := vI_elim h
              refine J.sub ?_ ((((((Sub.base _).upd e4).upd e5).upd e15).upd e16).upd e17)
              clear e4 e5 e15 e16 e17
              refine J_block ?_
              refine J_loop (fun k σ w => vS (σ 4) fun x4A x4n x4c => vI .i64 (σ 5) fun x5 => vS (σ 15) fun x15A x15n x15c => vI .i64 (σ 16) fun x16 => vI .i64 (σ 17) fun x17 => reloc_Bytes.l0 K k x4A x4n x4c x5 x15A x15n x15c x16 x17 w) (Eq.mp (by kernel_rfl) h) ?_ ?_
              · intro σ w h
                obtain ⟨x4A, x4n, x4c, e4, h⟩ := vS_elim h
                obtain ⟨x5, e5, h⟩ := vI_elim h
                obtain ⟨x15A, x15n, x15c, e15, h⟩ := vS_elim h
                obtain ⟨x16, e16, h⟩ := vI_elim h
                obtain ⟨x17, e17, h⟩ := vI_elim h
                exact h
              · intro k0 σ w h
                obtain ⟨x4A, x4n, x4c, e4, h⟩ := vS_elim h
                obtain ⟨x5, e5, h⟩ := vI_elim h
                obtain ⟨x15A, x15n, x15c, e15, h⟩ := vS_elim h
                obtain ⟨x16, e16, h⟩ := vI_elim h
                obtain ⟨x17, e17, h⟩ := vI_elim h
                refine J.sub ?_ ((((((Sub.base _).upd e4).upd e5).upd e15).upd e16).upd e17)
                clear e4 e5 e15 e16 e17
                exact sh_sound _ _ _ _ (Eq.mp (by kernel_rfl) h)
          · intro σ w h
            obtain ⟨x4A, x4n, x4c, e4, h⟩ := vS_elim h
            refine J.sub ?_ ((Sub.base _).upd e4)
            clear e4
            exact sh_sound _ _ _ _ (Eq.mp (by kernel_rfl) h)

/-! ### hayloft/hayloftref10.Copy: function 28 -/
abbrev ref10_Copy.p3 (K : Value → World → Prop) (x3A : Option Addr) (x3n : Nat) (x3c : Nat) (w : World) : Prop :=
  K (.slice x3A x3n x3c) w
abbrev ref10_Copy.b0 (L0 : Option Addr → Nat → Nat → Option Addr → Nat → Nat → Int → Int → World → Prop) (K : Value → World → Prop) (x3A : Option Addr) (x3n : Nat) (x3c : Nat) (x6A : Option Addr) (x6n : Nat) (x6c : Nat) (x7 : Int) (x8 : Int) (w : World) : Prop :=
  condP (decide (x8 < x7)) ((0 ≤ x8 ∧ x8 < ((x6n : Nat) : Int)) ∧ ∃ (a1 : Addr), x6A = some a1 ∧ ∃ (n2 : Int), w.cell? (a1.add (x8.toNat * 4)) = some (.int .i64 n2) ∧ ∃ (n3 : Int), w.cell? ((a1.add (x8.toNat * 4)).add 1) = some (.int .i64 n3) ∧ ∃ (n4 : Int), w.cell? ((a1.add (x8.toNat * 4)).add 2) = some (.int .i64 n4) ∧ ∃ (A5 : Option Addr) (m6 : Nat) (c7 : Nat), w.cell? ((a1.add (x8.toNat * 4)).add 3) = some (.slice A5 m6 c7) ∧ wlet (w.alloc (.cells #[.int .i64 0, .int .i64 0, .int .i64 0, .slice none 0 0] 24)) fun w8 => canStore w8 (⟨w.heap.size, 0, none⟩) ∧ wlet (w8.setCell (⟨w.heap.size, 0, none⟩) (.int .i64 n2)) fun w9 => canStore w9 (⟨w.heap.size, 1, none⟩) ∧ wlet (w9.setCell (⟨w.heap.size, 1, none⟩) (.int .i64 n3)) fun w10 => canStore w10 (⟨w.heap.size, 2, none⟩) ∧ wlet (w10.setCell (⟨w.heap.size, 2, none⟩) (.int .i64 n4)) fun w11 => canStore w11 (⟨w.heap.size, 3, none⟩) ∧ wlet (w11.setCell (⟨w.heap.size, 3, none⟩) (.slice A5 m6 c7)) fun w12 => wlet (w12.alloc (.cells #[] 3)) fun w13 => ∃ (A14 : Option Addr) (m15 : Nat) (c16 : Nat), w13.cell? (⟨w.heap.size, 3, none⟩) = some (.slice A14 m15 c16) ∧ SemJ Tryd.prog (Builtin.append_ #[22, 22] 22 #[.slice (some ⟨w12.heap.size, 0, none⟩) 0 0, .slice A14 m15 c16]) (fun v17 w18 => ∃ (A19 : Option Addr) (m20 : Nat) (c21 : Nat), v17 = .slice A19 m20 c21 ∧ canStore w18 (⟨w.heap.size, 3, none⟩) ∧ wlet (w18.setCell (⟨w.heap.size, 3, none⟩) (.slice A19 m20 c21)) fun w22 => ∃ (n23 : Int), w22.cell? (⟨w.heap.size, 0, none⟩) = some (.int .i64 n23) ∧ ∃ (n24 : Int), w22.cell? (⟨w.heap.size, 1, none⟩) = some (.int .i64 n24) ∧ ∃ (n25 : Int), w22.cell? (⟨w.heap.size, 2, none⟩) = some (.int .i64 n25) ∧ ∃ (A26 : Option Addr) (m27 : Nat) (c28 : Nat), w22.cell? (⟨w.heap.size, 3, none⟩) = some (.slice A26 m27 c28) ∧ wlet (w22.alloc (.cells #[.int .i64 n23, .int .i64 n24, .int .i64 n25, .slice A26 m27 c28] 24)) fun w29 => SemJ Tryd.prog (Builtin.append_ #[59, 59] 59 #[.slice x3A x3n x3c, .slice (some ⟨w22.heap.size, 0, none⟩) 1 1]) (fun v30 w31 => ∃ (A32 : Option Addr) (m33 : Nat) (c34 : Nat), v30 = .slice A32 m33 c34 ∧ L0 A32 m33 c34 x6A x6n x6c x7 (IntKind.wrap .i64 (x8 + (1 : Int))) w31) w29) w13) (ref10_Copy.p3 K x3A x3n x3c w)
def ref10_Copy.l0 (K : Value → World → Prop) (k : Nat) : Option Addr → Nat → Nat → Option Addr → Nat → Nat → Int → Int → World → Prop :=
  Nat.rec (motive := fun _ => Option Addr → Nat → Nat → Option Addr → Nat → Nat → Int → Int → World → Prop) (fun _ _ _ _ _ _ _ _ _ => False) (fun _ ih => ref10_Copy.b0 ih K) k
theorem ref10_Copy.l0_succ (K : Value → World → Prop) (k : Nat) (x3A : Option Addr) (x3n : Nat) (x3c : Nat) (x6A : Option Addr) (x6n : Nat) (x6c : Nat) (x7 : Int) (x8 : Int) (w : World) : ref10_Copy.l0 K (k + 1) x3A x3n x3c x6A x6n x6c x7 x8 w = ref10_Copy.b0 (ref10_Copy.l0 K k) K x3A x3n x3c x6A x6n x6c x7 x8 w := rfl
abbrev ref10_Copy.p2 (K : Value → World → Prop) (x3A : Option Addr) (x3n : Nat) (x3c : Nat) (x6A : Option Addr) (x6n : Nat) (x6c : Nat) (x7 : Int) (x8 : Int) (w : World) : Prop :=
  ∃ k, ref10_Copy.l0 K k x3A x3n x3c x6A x6n x6c x7 x8 w
abbrev ref10_Copy.p1 (K : Value → World → Prop) (x0A : Option Addr) (x0n : Nat) (x0c : Nat) (x3A : Option Addr) (x3n : Nat) (x3c : Nat) (w : World) : Prop :=
  ref10_Copy.p2 K x3A x3n x3c x0A x0n x0c ((x0n : Nat) : Int) 0 w
abbrev ref10_Copy.p0 (K : Value → World → Prop) (x0A : Option Addr) (x0n : Nat) (x0c : Nat) (w : World) : Prop :=
  ref10_Copy.p1 K x0A x0n x0c none 0 0 w
abbrev ref10_Copy.F (q0A : Option Addr) (q0n : Nat) (q0c : Nat) (K : Value → World → Prop) (w : World) : Prop :=
  ref10_Copy.p0 K q0A q0n q0c w
theorem ref10_Copy.ok {q0A : Option Addr} {q0n : Nat} {q0c : Nat} {K : Value → World → Prop} {w : World} (h : ref10_Copy.F q0A q0n q0c K w) :
    CallsE Tryd.prog 28 #[.slice q0A q0n q0c] w K := by
  refine calls_of_J (n := 23) (rs := [.tmp 2]) Tryd.func28 rfl rfl rfl rfl ?_
  refine J_seq (fun σ w => vS (σ 0) fun x0A x0n x0c => ref10_Copy.p0 K x0A x0n x0c w) ?_ ?_
  ·
    exact sh_sound _ _ _ _ (Eq.mp (by kernel_rfl) h)
  · intro σ w h
    obtain ⟨x0A, x0n, x0c, e0, h⟩ := vS_elim h
    refine J.sub ?_ ((Sub.base _).upd e0)
    clear e0
    refine J_seq (fun σ w => vS (σ 0) fun x0A x0n x0c => vS (σ 3) fun x3A x3n x3c => ref10_Copy.p1 K x0A x0n x0c x3A x3n x3c w) ?_ ?_
    ·
      exact sh_sound _ _ _ _ (Eq.mp (by kernel_rfl) h)
    · intro σ w h
      obtain ⟨x0A, x0n, x0c, e0, h⟩ := vS_elim h
      obtain ⟨x3A, x3n, x3c, e3, h⟩ := vS_elim h
      refine J.sub ?_ (((Sub.base _).upd e0).upd e3)
      clear e0 e3
      refine J_seq (fun σ w => vS (σ 3) fun x3A x3n x3c => ref10_Copy.p3 K x3A x3n x3c w) ?_ ?_
      ·
        refine J_seq (fun σ w => vS (σ 3) fun x3A x3n x3c => vS (σ 6) fun x6A x6n x6c => vI .i64 (σ 7) fun x7 => vI .i64 (σ 8) fun x8 => ref10_Copy.p2 K x3A x3n x3c x6A x6n x6c x7 x8 w) ?_ ?_
        ·
          exact sh_sound _ _ _ _ (Eq.mp (by kernel_rfl) h)
        · intro σ w h
          obtain ⟨x3A, x3n, x3c, e3, h⟩ := vS_elim h
          obtain ⟨x6A, x6n, x6c, e6, h⟩ := vS_elim h
          obtain ⟨x7, e7, h⟩ := vI_elim h
          obtain ⟨x8, e8, h⟩ := vI_elim h
          refine J.sub ?_ (((((Sub.base _).upd e3).upd e6).upd e7).upd e8)
          clear e3 e6 e7 e8
          refine J_block ?_
          refine J_loop (fun k σ w => vS (σ 3) fun x3A x3n x3c => vS (σ 6) fun x6A x6n x6c => vI .i64 (σ 7) fun x7 => vI .i64 (σ 8) fun x8 => ref10_Copy.l0 K k x3A x3n x3c x6A x6n x6c x7 x8 w) (Eq.mp (by kernel_rfl) h) ?_ ?_
          · intro σ w h
            obtain ⟨x3A, x3n, x3c, e3, h⟩ := vS_elim h
            obtain ⟨x6A, x6n, x6c, e6, h⟩ := vS_elim h
            obtain ⟨x7, e7, h⟩ := vI_elim h
            obtain ⟨x8, e8, h⟩ := vI_elim h
            exact h
          · intro k0 σ w h
            obtain ⟨x3A, x3n, x3c, e3, h⟩ := vS_elim h
            obtain ⟨x6A, x6n, x6c, e6, h⟩ := vS_elim h
            obtain ⟨x7, e7, h⟩ := vI_elim h
            obtain ⟨x8, e8, h⟩ := vI_elim h
            refine J.sub ?_ (((((Sub.base _).upd e3).upd e6).upd e7).upd e8)
            clear e3 e6 e7 e8
            exact sh_sound _ _ _ _ (Eq.mp (by kernel_rfl) h)
      · intro σ w h
        obtain ⟨x3A, x3n, x3c, e3, h⟩ := vS_elim h
        refine J.sub ?_ ((Sub.base _).upd e3)
        clear e3
        exact sh_sound _ _ _ _ (Eq.mp (by kernel_rfl) h)

/-! ### hayloft/hayloftref01.Var: function 29 -/
abbrev ref01_Var.p2 (K : Value → World → Prop) (x0 : Int) (x3A : Option Addr) (x3n : Nat) (x3c : Nat) (w : World) : Prop :=
  wlet (w.alloc (.cells #[.int .u8 (IntKind.wrap .u8 x0)] 5)) fun w7 => SemJ Tryd.prog (Builtin.append_ #[25, 25] 25 #[.slice x3A x3n x3c, .slice (some ⟨w.heap.size, 0, none⟩) 1 1]) (fun v8 w9 => ∃ (A10 : Option Addr) (m11 : Nat) (c12 : Nat), v8 = .slice A10 m11 c12 ∧ K (.slice A10 m11 c12) w9) w7
abbrev ref01_Var.b0 (L0 : Int → Option Addr → Nat → Nat → World → Prop) (K : Value → World → Prop) (x0 : Int) (x3A : Option Addr) (x3n : Nat) (x3c : Nat) (w : World) : Prop :=
  condP (decide ((127 : Int) < x0)) ((128 : Int) ≠ 0 ∧ wlet (w.alloc (.cells #[.int .u8 (IntKind.wrap .u8 ((IntKind.wrap .u8 (Int.tmod x0 128)) + (128 : Int)))] 5)) fun w1 => SemJ Tryd.prog (Builtin.append_ #[25, 25] 25 #[.slice x3A x3n x3c, .slice (some ⟨w.heap.size, 0, none⟩) 1 1]) (fun v2 w3 => ∃ (A4 : Option Addr) (m5 : Nat) (c6 : Nat), v2 = .slice A4 m5 c6 ∧ (128 : Int) ≠ 0 ∧ L0 (IntKind.wrap .u64 (Int.tdiv x0 128)) A4 m5 c6 w3) w1) (ref01_Var.p2 K x0 x3A x3n x3c w)
def ref01_Var.l0 (K : Value → World → Prop) (k : Nat) : Int → Option Addr → Nat → Nat → World → Prop :=
  Nat.rec (motive := fun _ => Int → Option Addr → Nat → Nat → World → Prop) (fun _ _ _ _ _ => False) (fun _ ih => ref01_Var.b0 ih K) k
theorem ref01_Var.l0_succ (K : Value → World → Prop) (k : Nat) (x0 : Int) (x3A : Option Addr) (x3n : Nat) (x3c : Nat) (w : World) : ref01_Var.l0 K (k + 1) x0 x3A x3n x3c w = ref01_Var.b0 (ref01_Var.l0 K k) K x0 x3A x3n x3c w := rfl
abbrev ref01_Var.p1 (K : Value → World → Prop) (x0 : Int) (x3A : Option Addr) (x3n : Nat) (x3c : Nat) (w : World) : Prop :=
  ∃ k, ref01_Var.l0 K k x0 x3A x3n x3c w
abbrev ref01_Var.p0 (K : Value → World → Prop) (x0 : Int) (w : World) : Prop :=
  ref01_Var.p1 K x0 none 0 0 w
abbrev ref01_Var.F (q0 : Int) (K : Value → World → Prop) (w : World) : Prop :=
  ref01_Var.p0 K q0 w
theorem ref01_Var.ok {q0 : Int} {K : Value → World → Prop} {w : World} (h : ref01_Var.F q0 K w) :
    CallsE Tryd.prog 29 #[.int .u64 q0] w K := by
  refine calls_of_J (n := 20) (rs := [.tmp 2]) Tryd.func29 rfl rfl rfl rfl ?_
  refine J_seq (fun σ w => vI .u64 (σ 0) fun x0 => ref01_Var.p0 K x0 w) ?_ ?_
  ·
    exact sh_sound _ _ _ _ (Eq.mp (by kernel_rfl) h)
  · intro σ w h
    obtain ⟨x0, e0, h⟩ := vI_elim h
    refine J.sub ?_ ((Sub.base _).upd e0)
    clear e0
    refine J_seq (fun σ w => vI .u64 (σ 0) fun x0 => vS (σ 3) fun x3A x3n x3c => ref01_Var.p1 K x0 x3A x3n x3c w) ?_ ?_
    ·
      exact sh_sound _ _ _ _ (Eq.mp (by kernel_rfl) h)
    · intro σ w h
      obtain ⟨x0, e0, h⟩ := vI_elim h
      obtain ⟨x3A, x3n, x3c, e3, h⟩ := vS_elim h
      refine J.sub ?_ (((Sub.base _).upd e0).upd e3)
      clear e0 e3
      refine J_seq (fun σ w => vI .u64 (σ 0) fun x0 => vS (σ 3) fun x3A x3n x3c => ref01_Var.p2 K x0 x3A x3n x3c w) ?_ ?_
      ·
        refine J_block ?_
        refine J_loop (fun k σ w => vI .u64 (σ 0) fun x0 => vS (σ 3) fun x3A x3n x3c => ref01_Var.l0 K k x0 x3A x3n x3c w) (Eq.mp (by kernel_rfl) h) ?_ ?_
        · intro σ w h
          obtain ⟨x0, e0, h⟩ := vI_elim h
          obtain ⟨x3A, x3n, x3c, e3, h⟩ := vS_elim h
          exact h
        · intro k0 σ w h
          obtain ⟨x0, e0, h⟩ := vI_elim h
          obtain ⟨x3A, x3n, x3c, e3, h⟩ := vS_elim h
          refine J.sub ?_ (((Sub.base _).upd e0).upd e3)
          clear e0 e3
          exact sh_sound _ _ _ _ (Eq.mp (by kernel_rfl) h)
      · intro σ w h
        obtain ⟨x0, e0, h⟩ := vI_elim h
        obtain ⟨x3A, x3n, x3c, e3, h⟩ := vS_elim h
        refine J.sub ?_ (((Sub.base _).upd e0).upd e3)
        clear e0 e3
        exact sh_sound _ _ _ _ (Eq.mp (by kernel_rfl) h)

/-! ### hayloft/hayloftref03.New: function 30 -/
abbrev ref03_New.F (q0 : Int) (K : Value → World → Prop) (w : World) : Prop :=
  (0 ≤ (imax 0 (imin q0 65536)) ∧ (imax 0 (imin q0 65536)) ≤ (imax 0 (imin q0 65536)) ∧ (1 : Int) * (imax 0 (imin q0 65536)) ≤ 281474976710656 ∧ (imax 0 (imin q0 65536)) ≤ 9223372036854775807) ∧ wlet (w.alloc (.cells (madeCells #[.bool false] ((imax 0 (imin q0 65536)).toNat * 1)) 4)) fun w1 => wlet (w1.alloc (.cells #[.slice (some ⟨w.heap.size, 0, none⟩) ((imax 0 (imin q0 65536)).toNat) ((imax 0 (imin q0 65536)).toNat)] 96)) fun w2 => K (.pointer (some (⟨w1.heap.size, 0, none⟩))) w2
theorem ref03_New.ok {q0 : Int} {K : Value → World → Prop} {w : World} (h : ref03_New.F q0 K w) :
    CallsE Tryd.prog 30 #[.int .i64 q0] w K := by
  refine calls_of_J (n := 9) (rs := [.tmp 2]) Tryd.func30 rfl rfl rfl rfl ?_
  exact sh_sound _ _ _ _ (Eq.mp (by kernel_rfl) h)

/-! ### hayloft/hayloftref06.Slots: function 31 -/
abbrev ref06_Slots.F (q0 : Int) (K : Value → World → Prop) (w : World) : Prop :=
  condP (q0 == (7 : Int)) (K (.int .i64 1) w) (CallsE Tryd.prog 62 #[.int .i64 q0] w (fun v1 w2 => ∃ (n3 : Int), v1 = .int .i64 n3 ∧ condP (n3 == (0 : Int)) (K (.int .i64 0) w2) (CallsE Tryd.prog 62 #[.int .i64 q0] w2 (fun v4 w5 => ∃ (n6 : Int), v4 = .int .i64 n6 ∧ n6 ≠ 0 ∧ K (.int .i64 (IntKind.wrap .i64 (Int.tdiv 256 n6))) w5))))
theorem ref06_Slots.ok {q0 : Int} {K : Value → World → Prop} {w : World} (h : ref06_Slots.F q0 K w) :
    CallsE Tryd.prog 31 #[.int .i64 q0] w K := by
  refine calls_of_J (n := 11) (rs := [.tmp 2]) Tryd.func31 rfl rfl rfl rfl ?_
  exact sh_sound _ _ _ _ (Eq.mp (by kernel_rfl) h)

/-! ### (*hayloft/hayloftref03.Set).Put: function 32 -/
abbrev ref03_Set_Put.p2 (K : Value → World → Prop) (x0 : Option Addr) (x1 : Int) (x2 : Bool) (w : World) : Prop :=
  ∃ (a1 : Addr), x0 = some a1 ∧ ∃ (A2 : Option Addr) (m3 : Nat) (c4 : Nat), w.cell? a1 = some (.slice A2 m3 c4) ∧ (0 ≤ x1 ∧ x1 < ((m3 : Nat) : Int)) ∧ ∃ (a5 : Addr), A2 = some a5 ∧ canStore w (a5.add x1.toNat) ∧ wlet (w.setCell (a5.add x1.toNat) (.bool x2)) fun w6 => K (.bool true) w6
abbrev ref03_Set_Put.p1 (K : Value → World → Prop) (x0 : Option Addr) (x1 : Int) (x2 : Bool) (x28 : Bool) (w : World) : Prop :=
  condP x28 (K (.bool false) w) (ref03_Set_Put.p2 K x0 x1 x2 w)
abbrev ref03_Set_Put.p0 (K : Value → World → Prop) (x0 : Option Addr) (x1 : Int) (x2 : Bool) (w : World) : Prop :=
  condP (decide (x1 < (0 : Int))) (ref03_Set_Put.p1 K x0 x1 x2 true w) (∃ (a7 : Addr), x0 = some a7 ∧ ∃ (A8 : Option Addr) (m9 : Nat) (c10 : Nat), w.cell? a7 = some (.slice A8 m9 c10) ∧ condP (decide (((m9 : Nat) : Int) ≤ x1)) (ref03_Set_Put.p1 K x0 x1 x2 true w) (∃ (a11 : Addr), x0 = some a11 ∧ ∃ (A12 : Option Addr) (m13 : Nat) (c14 : Nat), w.cell? a11 = some (.slice A12 m13 c14) ∧ (0 ≤ x1 ∧ x1 < ((m13 : Nat) : Int)) ∧ ∃ (a15 : Addr), A12 = some a15 ∧ ∃ (b16 : Bool), w.cell? (a15.add x1.toNat) = some (.bool b16) ∧ ref03_Set_Put.p1 K x0 x1 x2 (b16 == x2) w))
abbrev ref03_Set_Put.F (q0 : Option Addr) (q1 : Int) (q2 : Bool) (K : Value → World → Prop) (w : World) : Prop :=
  ref03_Set_Put.p0 K q0 q1 q2 w
theorem ref03_Set_Put.ok {q0 : Option Addr} {q1 : Int} {q2 : Bool} {K : Value → World → Prop} {w : World} (h : ref03_Set_Put.F q0 q1 q2 K w) :
    CallsE Tryd.prog 32 #[.pointer q0, .int .i64 q1, .bool q2] w K := by
  refine calls_of_J (n := 36) (rs := [.tmp 6]) Tryd.func32 rfl rfl rfl rfl ?_
  refine J_seq (fun σ w => vP (σ 0) fun x0 => vI .i64 (σ 1) fun x1 => vB (σ 2) fun x2 => ref03_Set_Put.p0 K x0 x1 x2 w) ?_ ?_
  ·
    exact sh_sound _ _ _ _ (Eq.mp (by kernel_rfl) h)
  · intro σ w h
    obtain ⟨x0, e0, h⟩ := vP_elim h
    obtain ⟨x1, e1, h⟩ := vI_elim h
    obtain ⟨x2, e2, h⟩ := vB_elim h
    refine J.sub ?_ ((((Sub.base _).upd e0).upd e1).upd e2)
    clear e0 e1 e2
    refine J_seq (fun σ w => vP (σ 0) fun x0 => vI .i64 (σ 1) fun x1 => vB (σ 2) fun x2 => ref03_Set_Put.p2 K x0 x1 x2 w) ?_ ?_
    ·
      refine J_seq (fun σ w => vP (σ 0) fun x0 => vI .i64 (σ 1) fun x1 => vB (σ 2) fun x2 => vB (σ 28) fun x28 => ref03_Set_Put.p1 K x0 x1 x2 x28 w) ?_ ?_
      ·
        exact sh_sound _ _ _ _ (Eq.mp (by kernel_rfl) h)
      · intro σ w h
        obtain ⟨x0, e0, h⟩ := vP_elim h
        obtain ⟨x1, e1, h⟩ := vI_elim h
        obtain ⟨x2, e2, h⟩ := vB_elim h
        obtain ⟨x28, e28, h⟩ := vB_elim h
        refine J.sub ?_ (((((Sub.base _).upd e0).upd e1).upd e2).upd e28)
        clear e0 e1 e2 e28
        exact sh_sound _ _ _ _ (Eq.mp (by kernel_rfl) h)
    · intro σ w h
      obtain ⟨x0, e0, h⟩ := vP_elim h
      obtain ⟨x1, e1, h⟩ := vI_elim h
      obtain ⟨x2, e2, h⟩ := vB_elim h
      refine J.sub ?_ ((((Sub.base _).upd e0).upd e1).upd e2)
      clear e0 e1 e2
      exact sh_sound _ _ _ _ (Eq.mp (by kernel_rfl) h)

/-! ### (*hayloft/hayloftref03.Set).Bytes: function 33 -/
abbrev ref03_Set_Bytes.p9 (L1 : Option Addr → Option Addr → Nat → Nat → Int → Int → Int → Int → World → Prop) (L0 : Option Addr → Option Addr → Nat → Nat → Int → World → Prop) (K : Value → World → Prop) (x0 : Option Addr) (x3A : Option Addr) (x3n : Nat) (x3c : Nat) (x4 : Int) (x5 : Int) (x6 : Int) (x7 : Int) (w : World) : Prop :=
  L1 x0 x3A x3n x3c x4 x5 x6 (IntKind.wrap .i64 (x7 + (1 : Int))) w
abbrev ref03_Set_Bytes.p8 (L1 : Option Addr → Option Addr → Nat → Nat → Int → Int → Int → Int → World → Prop) (L0 : Option Addr → Option Addr → Nat → Nat → Int → World → Prop) (K : Value → World → Prop) (x0 : Option Addr) (x3A : Option Addr) (x3n : Nat) (x3c : Nat) (x4 : Int) (x5 : Int) (x6 : Int) (x7 : Int) (w : World) : Prop :=
  ref03_Set_Bytes.p9 L1 L0 K x0 x3A x3n x3c x4 x5 (IntKind.wrap .i64 (x6 * (2 : Int))) x7 w
abbrev ref03_Set_Bytes.p7 (L1 : Option Addr → Option Addr → Nat → Nat → Int → Int → Int → Int → World → Prop) (L0 : Option Addr → Option Addr → Nat → Nat → Int → World → Prop) (K : Value → World → Prop) (x0 : Option Addr) (x3A : Option Addr) (x3n : Nat) (x3c : Nat) (x4 : Int) (x5 : Int) (x6 : Int) (x7 : Int) (w : World) : Prop :=
  ∃ (a9 : Addr), x0 = some a9 ∧ ∃ (A10 : Option Addr) (m11 : Nat) (c12 : Nat), w.cell? a9 = some (.slice A10 m11 c12) ∧ (0 ≤ x7 ∧ x7 < ((m11 : Nat) : Int)) ∧ ∃ (a13 : Addr), A10 = some a13 ∧ ∃ (b14 : Bool), w.cell? (a13.add x7.toNat) = some (.bool b14) ∧ condP b14 (ref03_Set_Bytes.p8 L1 L0 K x0 x3A x3n x3c x4 (IntKind.wrap .i64 (x5 + x6)) x6 x7 w) (ref03_Set_Bytes.p8 L1 L0 K x0 x3A x3n x3c x4 x5 x6 x7 w)
abbrev ref03_Set_Bytes.p11 (L0 : Option Addr → Option Addr → Nat → Nat → Int → World → Prop) (K : Value → World → Prop) (x0 : Option Addr) (x3A : Option Addr) (x3n : Nat) (x3c : Nat) (x4 : Int) (w : World) : Prop :=
  L0 x0 x3A x3n x3c (IntKind.wrap .i64 (x4 + (8 : Int))) w
abbrev ref03_Set_Bytes.p10 (L0 : Option Addr → Option Addr → Nat → Nat → Int → World → Prop) (K : Value → World → Prop) (x0 : Option Addr) (x3A : Option Addr) (x3n : Nat) (x3c : Nat) (x4 : Int) (x5 : Int) (w : World) : Prop :=
  wlet (w.alloc (.cells #[.int .u8 (IntKind.wrap .u8 x5)] 5)) fun w15 => SemJ Tryd.prog (Builtin.append_ #[25, 25] 25 #[.slice x3A x3n x3c, .slice (some ⟨w.heap.size, 0, none⟩) 1 1]) (fun v16 w17 => ∃ (A18 : Option Addr) (m19 : Nat) (c20 : Nat), v16 = .slice A18 m19 c20 ∧ ref03_Set_Bytes.p11 L0 K x0 A18 m19 c20 x4 w17) w15
abbrev ref03_Set_Bytes.p6 (L1 : Option Addr → Option Addr → Nat → Nat → Int → Int → Int → Int → World → Prop) (L0 : Option Addr → Option Addr → Nat → Nat → Int → World → Prop) (K : Value → World → Prop) (x0 : Option Addr) (x3A : Option Addr) (x3n : Nat) (x3c : Nat) (x4 : Int) (x5 : Int) (x6 : Int) (x7 : Int) (x30 : Bool) (w : World) : Prop :=
  condP x30 (ref03_Set_Bytes.p7 L1 L0 K x0 x3A x3n x3c x4 x5 x6 x7 w) (ref03_Set_Bytes.p10 L0 K x0 x3A x3n x3c x4 x5 w)
abbrev ref03_Set_Bytes.b1 (L1 : Option Addr → Option Addr → Nat → Nat → Int → Int → Int → Int → World → Prop) (L0 : Option Addr → Option Addr → Nat → Nat → Int → World → Prop) (K : Value → World → Prop) (x0 : Option Addr) (x3A : Option Addr) (x3n : Nat) (x3c : Nat) (x4 : Int) (x5 : Int) (x6 : Int) (x7 : Int) (w : World) : Prop :=
  condP (decide (x7 < (IntKind.wrap .i64 (x4 + (8 : Int))))) (∃ (a5 : Addr), x0 = some a5 ∧ ∃ (A6 : Option Addr) (m7 : Nat) (c8 : Nat), w.cell? a5 = some (.slice A6 m7 c8) ∧ ref03_Set_Bytes.p6 L1 L0 K x0 x3A x3n x3c x4 x5 x6 x7 (decide (x7 < ((m7 : Nat) : Int))) w) (ref03_Set_Bytes.p6 L1 L0 K x0 x3A x3n x3c x4 x5 x6 x7 false w)
def ref03_Set_Bytes.l1 (L0 : Option Addr → Option Addr → Nat → Nat → Int → World → Prop) (K : Value → World → Prop) (k : Nat) : Option Addr → Option Addr → Nat → Nat → Int → Int → Int → Int → World → Prop :=
  Nat.rec (motive := fun _ => Option Addr → Option Addr → Nat → Nat → Int → Int → Int → Int → World → Prop) (fun _ _ _ _ _ _ _ _ _ => False) (fun _ ih => ref03_Set_Bytes.b1 ih L0 K) k
theorem ref03_Set_Bytes.l1_succ (L0 : Option Addr → Option Addr → Nat → Nat → Int → World → Prop) (K : Value → World → Prop) (k : Nat) (x0 : Option Addr) (x3A : Option Addr) (x3n : Nat) (x3c : Nat) (x4 : Int) (x5 : Int) (x6 : Int) (x7 : Int) (w : World) : ref03_Set_Bytes.l1 L0 K (k + 1) x0 x3A x3n x3c x4 x5 x6 x7 w = ref03_Set_Bytes.b1 (ref03_Set_Bytes.l1 L0 K k) L0 K x0 x3A x3n x3c x4 x5 x6 x7 w := rfl
abbrev ref03_Set_Bytes.p5 (L0 : Option Addr → Option Addr → Nat → Nat → Int → World → Prop) (K : Value → World → Prop) (x0 : Option Addr) (x3A : Option Addr) (x3n : Nat) (x3c : Nat) (x4 : Int) (x5 : Int) (x6 : Int) (x7 : Int) (w : World) : Prop :=
  ∃ k, ref03_Set_Bytes.l1 L0 K k x0 x3A x3n x3c x4 x5 x6 x7 w
abbrev ref03_Set_Bytes.p4 (L0 : Option Addr → Option Addr → Nat → Nat → Int → World → Prop) (K : Value → World → Prop) (x0 : Option Addr) (x3A : Option Addr) (x3n : Nat) (x3c : Nat) (x4 : Int) (x5 : Int) (x6 : Int) (w : World) : Prop :=
  ref03_Set_Bytes.p5 L0 K x0 x3A x3n x3c x4 x5 x6 x4 w
abbrev ref03_Set_Bytes.p3 (L0 : Option Addr → Option Addr → Nat → Nat → Int → World → Prop) (K : Value → World → Prop) (x0 : Option Addr) (x3A : Option Addr) (x3n : Nat) (x3c : Nat) (x4 : Int) (w : World) : Prop :=
  ref03_Set_Bytes.p4 L0 K x0 x3A x3n x3c x4 0 1 w
abbrev ref03_Set_Bytes.p12 (K : Value → World → Prop) (x3A : Option Addr) (x3n : Nat) (x3c : Nat) (w : World) : Prop :=
  K (.slice x3A x3n x3c) w
abbrev ref03_Set_Bytes.b0 (L0 : Option Addr → Option Addr → Nat → Nat → Int → World → Prop) (K : Value → World → Prop) (x0 : Option Addr) (x3A : Option Addr) (x3n : Nat) (x3c : Nat) (x4 : Int) (w : World) : Prop :=
  ∃ (a1 : Addr), x0 = some a1 ∧ ∃ (A2 : Option Addr) (m3 : Nat) (c4 : Nat), w.cell? a1 = some (.slice A2 m3 c4) ∧ condP (decide (x4 < ((m3 : Nat) : Int))) (ref03_Set_Bytes.p3 L0 K x0 x3A x3n x3c x4 w) (ref03_Set_Bytes.p12 K x3A x3n x3c w)
def ref03_Set_Bytes.l0 (K : Value → World → Prop) (k : Nat) : Option Addr → Option Addr → Nat → Nat → Int → World → Prop :=
  Nat.rec (motive := fun _ => Option Addr → Option Addr → Nat → Nat → Int → World → Prop) (fun _ _ _ _ _ _ => False) (fun _ ih => ref03_Set_Bytes.b0 ih K) k
theorem ref03_Set_Bytes.l0_succ (K : Value → World → Prop) (k : Nat) (x0 : Option Addr) (x3A : Option Addr) (x3n : Nat) (x3c : Nat) (x4 : Int) (w : World) : ref03_Set_Bytes.l0 K (k + 1) x0 x3A x3n x3c x4 w = ref03_Set_Bytes.b0 (ref03_Set_Bytes.l0 K k) K x0 x3A x3n x3c x4 w := rfl
abbrev ref03_Set_Bytes.p2 (K : Value → World → Prop) (x0 : Option Addr) (x3A : Option Addr) (x3n : Nat) (x3c : Nat) (x4 : Int) (w : World) : Prop :=
  ∃ k, ref03_Set_Bytes.l0 K k x0 x3A x3n x3c x4 w
abbrev ref03_Set_Bytes.p1 (K : Value → World → Prop) (x0 : Option Addr) (x3A : Option Addr) (x3n : Nat) (x3c : Nat) (w : World) : Prop :=
  ref03_Set_Bytes.p2 K x0 x3A x3n x3c 0 w
abbrev ref03_Set_Bytes.p0 (K : Value → World → Prop) (x0 : Option Addr) (w : World) : Prop :=
  ref03_Set_Bytes.p1 K x0 none 0 0 w
abbrev ref03_Set_Bytes.F (q0 : Option Addr) (K : Value → World → Prop) (w : World) : Prop :=
  ref03_Set_Bytes.p0 K q0 w
theorem ref03_Set_Bytes.ok {q0 : Option Addr} {K : Value → World → Prop} {w : World} (h : ref03_Set_Bytes.F q0 K w) :
    CallsE Tryd.prog 33 #[.pointer q0] w K := by
  refine calls_of_J (n := 51) (rs := [.tmp 2]) Tryd.func33 rfl rfl rfl rfl ?_
  refine J_seq (fun σ w => vP (σ 0) fun x0 => ref03_Set_Bytes.p0 K x0 w) ?_ ?_
  ·
    exact sh_sound _ _ _ _ (Eq.mp (by kernel_rfl) h)
  · intro σ w h
    obtain ⟨x0, e0, h⟩ := vP_elim h
    refine J.sub ?_ ((Sub.base _).upd e0)
    clear e0
    refine J_seq (fun σ w => vP (σ 0) fun x0 => vS (σ 3) fun x3A x3n x3c => ref03_Set_Bytes.p1 K x0 x3A x3n x3c w) ?_ ?_
    ·
      exact sh_sound _ _ _ _ (Eq.mp (by kernel_rfl) h)
    · intro σ w h
      obtain ⟨x0, e0, h⟩ := vP_elim h
      obtain ⟨x3A, x3n, x3c, e3, h⟩ := vS_elim h
      refine J.sub ?_ (((Sub.base _).upd e0).upd e3)
      clear e0 e3
      refine J_seq (fun σ w => vS (σ 3) fun x3A x3n x3c => ref03_Set_Bytes.p12 K x3A x3n x3c w) ?_ ?_
      ·
        refine J_seq (fun σ w => vP (σ 0) fun x0 => vS (σ 3) fun x3A x3n x3c => vI .i64 (σ 4) fun x4 => ref03_Set_Bytes.p2 K x0 x3A x3n x3c x4 w) ?_ ?_
        ·
          exact sh_sound _ _ _ _ (Eq.mp (by kernel_rfl) h)
        · intro σ w h
          obtain ⟨x0, e0, h⟩ := vP_elim h
          obtain ⟨x3A, x3n, x3c, e3, h⟩ := vS_elim h
          obtain ⟨x4, e4, h⟩ := vI_elim h
          refine J.sub ?_ ((((Sub.base _).upd e0).upd e3).upd e4)
          clear e0 e3 e4
          refine J_block ?_
          refine J_loop (fun k σ w => vP (σ 0) fun x0 => vS (σ 3) fun x3A x3n x3c => vI .i64 (σ 4) fun x4 => ref03_Set_Bytes.l0 K k x0 x3A x3n x3c x4 w) (Eq.mp (by kernel_rfl) h) ?_ ?_
          · intro σ w h
            obtain ⟨x0, e0, h⟩ := vP_elim h
            obtain ⟨x3A, x3n, x3c, e3, h⟩ := vS_elim h
            obtain ⟨x4, e4, h⟩ := vI_elim h
            exact h
          · intro k0 σ w h
            obtain ⟨x0, e0, h⟩ := vP_elim h
            obtain ⟨x3A, x3n, x3c, e3, h⟩ := vS_elim h
            obtain ⟨x4, e4, h⟩ := vI_elim h
            refine J.sub ?_ ((((Sub.base _).upd e0).upd e3).upd e4)
            clear e0 e3 e4
            refine J_seq (fun σ w => vP (σ 0) fun x0 => vS (σ 3) fun x3A x3n x3c => vI .i64 (σ 4) fun x4 => ref03_Set_Bytes.p3 (ref03_Set_Bytes.l0 K k0) K x0 x3A x3n x3c x4 w) ?_ ?_
            ·
              exact sh_sound _ _ _ _ (Eq.mp (by kernel_rfl) h)
            · intro σ w h
              obtain ⟨x0, e0, h⟩ := vP_elim h
              obtain ⟨x3A, x3n, x3c, e3, h⟩ := vS_elim h
              obtain ⟨x4, e4, h⟩ := vI_elim h
              refine J.sub ?_ ((((Sub.base _).upd e0).upd e3).upd e4)
              clear e0 e3 e4
              refine J_seq (fun σ w => vP (σ 0) fun x0 => vS (σ 3) fun x3A x3n x3c => vI .i64 (σ 4) fun x4 => ref03_Set_Bytes.p11 (ref03_Set_Bytes.l0 K k0) K x0 x3A x3n x3c x4 w) ?_ ?_
              ·
                refine J_block ?_
                refine J_seq (fun σ w => vP (σ 0) fun x0 => vS (σ 3) fun x3A x3n x3c => vI .i64 (σ 4) fun x4 => vI .i64 (σ 5) fun x5 => vI .i64 (σ 6) fun x6 => ref03_Set_Bytes.p4 (ref03_Set_Bytes.l0 K k0) K x0 x3A x3n x3c x4 x5 x6 w) ?_ ?_
                ·
                  exact sh_sound _ _ _ _ (Eq.mp (by kernel_rfl) h)
                · intro σ w h
                  obtain ⟨x0, e0, h⟩ := vP_elim h
                  obtain ⟨x3A, x3n, x3c, e3, h⟩ := vS_elim h
                  obtain ⟨x4, e4, h⟩ := vI_elim h
                  obtain ⟨x5, e5, h⟩ := vI_elim h
                  obtain ⟨x6, e6, h⟩ := vI_elim h
                  refine J.sub ?_ ((((((Sub.base _).upd e0).upd e3).upd e4).upd e5).upd e6)
                  clear e0 e3 e4 e5 e6
                  refine J_seq (fun σ w => vP (σ 0) fun x0 => vS (σ 3) fun x3A x3n x3c => vI .i64 (σ 4) fun x4 => vI .i64 (σ 5) fun x5 => ref03_Set_Bytes.p10 (ref03_Set_Bytes.l0 K k0) K x0 x3A x3n x3c x4 x5 w) ?_ ?_
                  ·
                    refine J_seq (fun σ w => vP (σ 0) fun x0 => vS (σ 3) fun x3A x3n x3c => vI .i64 (σ 4) fun x4 => vI .i64 (σ 5) fun x5 => vI .i64 (σ 6) fun x6 => vI .i64 (σ 7) fun x7 => ref03_Set_Bytes.p5 (ref03_Set_Bytes.l0 K k0) K x0 x3A x3n x3c x4 x5 x6 x7 w) ?_ ?_
                    ·
                      exact sh_sound _ _ _ _ (Eq.mp (by kernel_rfl) h)
                    · intro σ w h
                      obtain ⟨x0, e0, h⟩ := vP_elim h
                      obtain ⟨x3A, x3n, x3c, e3, h⟩ := vS_elim h
                      obtain ⟨x4, e4, h⟩ := vI_elim h
                      obtain ⟨x5, e5, h⟩ := vI_elim h
                      obtain ⟨x6, e6, h⟩ := vI_elim h
                      obtain ⟨x7, e7, h⟩ := vI_elim h
                      refine J.sub ?_ (((((((Sub.base _).upd e0).upd e3).upd e4).upd e5).upd e6).upd e7)
                      clear e0 e3 e4 e5 e6 e7
                      refine J_block ?_
                      refine J_loop (fun k σ w => vP (σ 0) fun x0 => vS (σ 3) fun x3A x3n x3c => vI .i64 (σ 4) fun x4 => vI .i64 (σ 5) fun x5 => vI .i64 (σ 6) fun x6 => vI .i64 (σ 7) fun x7 => ref03_Set_Bytes.l1 (ref03_Set_Bytes.l0 K k0) K k x0 x3A x3n x3c x4 x5 x6 x7 w) (Eq.mp (by kernel_rfl) h) ?_ ?_
                      · intro σ w h
                        obtain ⟨x0, e0, h⟩ := vP_elim h
                        obtain ⟨x3A, x3n, x3c, e3, h⟩ := vS_elim h
                        obtain ⟨x4, e4, h⟩ := vI_elim h
                        obtain ⟨x5, e5, h⟩ := vI_elim h
                        obtain ⟨x6, e6, h⟩ := vI_elim h
                        obtain ⟨x7, e7, h⟩ := vI_elim h
                        exact h
                      · intro k1 σ w h
                        obtain ⟨x0, e0, h⟩ := vP_elim h
                        obtain ⟨x3A, x3n, x3c, e3, h⟩ := vS_elim h
                        obtain ⟨x4, e4, h⟩ := vI_elim h
                        obtain ⟨x5, e5, h⟩ := vI_elim h
                        obtain ⟨x6, e6, h⟩ := vI_elim h
                        obtain ⟨x7, e7, h⟩ := vI_elim h
                        refine J.sub ?_ (((((((Sub.base _).upd e0).upd e3).upd e4).upd e5).upd e6).upd e7)
                        clear e0 e3 e4 e5 e6 e7
                        refine J_seq (fun σ w => vP (σ 0) fun x0 => vS (σ 3) fun x3A x3n x3c => vI .i64 (σ 4) fun x4 => vI .i64 (σ 5) fun x5 => vI .i64 (σ 6) fun x6 => vI .i64 (σ 7) fun x7 => ref03_Set_Bytes.p7 (ref03_Set_Bytes.l1 (ref03_Set_Bytes.l0 K k0) K k1) (ref03_Set_Bytes.l0 K k0) K x0 x3A x3n x3c x4 x5 x6 x7 w) ?_ ?_
                        ·
                          refine J_seq (fun σ w => vP (σ 0) fun x0 => vS (σ 3) fun x3A x3n x3c => vI .i64 (σ 4) fun x4 => vI .i64 (σ 5) fun x5 => vI .i64 (σ 6) fun x6 => vI .i64 (σ 7) fun x7 => vB (σ 30) fun x30 => ref03_Set_Bytes.p6 (ref03_Set_Bytes.l1 (ref03_Set_Bytes.l0 K k0) K k1) (ref03_Set_Bytes.l0 K k0) K x0 x3A x3n x3c x4 x5 x6 x7 x30 w) ?_ ?_
                          ·
                            exact sh_sound _ _ _ _ (Eq.mp (by kernel_rfl) h)
                          · intro σ w h
                            obtain ⟨x0, e0, h⟩ := vP_elim h
                            obtain ⟨x3A, x3n, x3c, e3, h⟩ := vS_elim h
                            obtain ⟨x4, e4, h⟩ := vI_elim h
                            obtain ⟨x5, e5, h⟩ := vI_elim h
                            obtain ⟨x6, e6, h⟩ := vI_elim h
                            obtain ⟨x7, e7, h⟩ := vI_elim h
                            obtain ⟨x30, e30, h⟩ := vB_elim h
                            refine J.sub ?_ ((((((((Sub.base _).upd e0).upd e3).upd e4).upd e5).upd e6).upd e7).upd e30)
                            clear e0 e3 e4 e5 e6 e7 e30
                            exact sh_sound _ _ _ _ (Eq.mp (by kernel_rfl) h)
                        · intro σ w h
                          obtain ⟨x0, e0, h⟩ := vP_elim h
                          obtain ⟨x3A, x3n, x3c, e3, h⟩ := vS_elim h
                          obtain ⟨x4, e4, h⟩ := vI_elim h
                          obtain ⟨x5, e5, h⟩ := vI_elim h
                          obtain ⟨x6, e6, h⟩ := vI_elim h
                          obtain ⟨x7, e7, h⟩ := vI_elim h
                          refine J.sub ?_ (((((((Sub.base _).upd e0).upd e3).upd e4).upd e5).upd e6).upd e7)
                          clear e0 e3 e4 e5 e6 e7
                          refine J_seq (fun σ w => vP (σ 0) fun x0 => vS (σ 3) fun x3A x3n x3c => vI .i64 (σ 4) fun x4 => vI .i64 (σ 5) fun x5 => vI .i64 (σ 6) fun x6 => vI .i64 (σ 7) fun x7 => ref03_Set_Bytes.p9 (ref03_Set_Bytes.l1 (ref03_Set_Bytes.l0 K k0) K k1) (ref03_Set_Bytes.l0 K k0) K x0 x3A x3n x3c x4 x5 x6 x7 w) ?_ ?_
                          ·
                            refine J_block ?_
                            refine J_seq (fun σ w => vP (σ 0) fun x0 => vS (σ 3) fun x3A x3n x3c => vI .i64 (σ 4) fun x4 => vI .i64 (σ 5) fun x5 => vI .i64 (σ 6) fun x6 => vI .i64 (σ 7) fun x7 => ref03_Set_Bytes.p8 (ref03_Set_Bytes.l1 (ref03_Set_Bytes.l0 K k0) K k1) (ref03_Set_Bytes.l0 K k0) K x0 x3A x3n x3c x4 x5 x6 x7 w) ?_ ?_
                            ·
                              exact sh_sound _ _ _ _ (Eq.mp (by kernel_rfl) h)
                            · intro σ w h
                              obtain ⟨x0, e0, h⟩ := vP_elim h
                              obtain ⟨x3A, x3n, x3c, e3, h⟩ := vS_elim h
                              obtain ⟨x4, e4, h⟩ := vI_elim h
                              obtain ⟨x5, e5, h⟩ := vI_elim h
                              obtain ⟨x6, e6, h⟩ := vI_elim h
                              obtain ⟨x7, e7, h⟩ := vI_elim h
                              refine J.sub ?_ (((((((Sub.base _).upd e0).upd e3).upd e4).upd e5).upd e6).upd e7)
                              clear e0 e3 e4 e5 e6 e7
                              exact sh_sound _ _ _ _ (Eq.mp (by kernel_rfl) h)
                          · intro σ w h
                            obtain ⟨x0, e0, h⟩ := vP_elim h
                            obtain ⟨x3A, x3n, x3c, e3, h⟩ := vS_elim h
                            obtain ⟨x4, e4, h⟩ := vI_elim h
                            obtain ⟨x5, e5, h⟩ := vI_elim h
                            obtain ⟨x6, e6, h⟩ := vI_elim h
                            obtain ⟨x7, e7, h⟩ := vI_elim h
                            refine J.sub ?_ (((((((Sub.base _).upd e0).upd e3).upd e4).upd e5).upd e6).upd e7)
                            clear e0 e3 e4 e5 e6 e7
                            exact sh_sound _ _ _ _ (Eq.mp (by kernel_rfl) h)
                  · intro σ w h
                    obtain ⟨x0, e0, h⟩ := vP_elim h
                    obtain ⟨x3A, x3n, x3c, e3, h⟩ := vS_elim h
                    obtain ⟨x4, e4, h⟩ := vI_elim h
                    obtain ⟨x5, e5, h⟩ := vI_elim h
                    refine J.sub ?_ (((((Sub.base _).upd e0).upd e3).upd e4).upd e5)
                    clear e0 e3 e4 e5
                    exact sh_sound _ _ _ _ (Eq.mp (by kernel_rfl) h)
              · intro σ w h
                obtain ⟨x0, e0, h⟩ := vP_elim h
                obtain ⟨x3A, x3n, x3c, e3, h⟩ := vS_elim h
                obtain ⟨x4, e4, h⟩ := vI_elim h
                refine J.sub ?_ ((((Sub.base _).upd e0).upd e3).upd e4)
                clear e0 e3 e4
                exact sh_sound _ _ _ _ (Eq.mp (by kernel_rfl) h)
      · intro σ w h
        obtain ⟨x3A, x3n, x3c, e3, h⟩ := vS_elim h
        refine J.sub ?_ ((Sub.base _).upd e3)
        clear e3
        exact sh_sound _ _ _ _ (Eq.mp (by kernel_rfl) h)

/-! ### hayloft/hayloftref16.Bytes: function 34 -/
abbrev ref16_Bytes.p5 (K : Value → World → Prop) (x4A : Option Addr) (x4n : Nat) (x4c : Nat) (w : World) : Prop :=
  K (.tuple #[.slice x4A x4n x4c, .int .i64 0]) w
abbrev ref16_Bytes.b0 (L0 : Option Addr → Nat → Nat → Int → Option Addr → Nat → Nat → Int → Int → World → Prop) (K : Value → World → Prop) (x4A : Option Addr) (x4n : Nat) (x4c : Nat) (x5 : Int) (x15A : Option Addr) (x15n : Nat) (x15c : Nat) (x16 : Int) (x17 : Int) (w : World) : Prop :=
  condP (decide (x17 < x16)) ((0 ≤ x17 ∧ x17 < ((x15n : Nat) : Int)) ∧ ∃ (a9 : Addr), x15A = some a9 ∧ ∃ (n10 : Int), w.cell? (a9.add x17.toNat) = some (.int .i64 n10) ∧ (8 : Int) ≠ 0 ∧ CallsE Tryd.prog 29 #[.int .u64 (IntKind.wrap .u64 (IntKind.wrap .i64 ((IntKind.wrap .i64 (Int.tdiv n10 8)) - x5)))] w (fun v11 w12 => ∃ (A13 : Option Addr) (m14 : Nat) (c15 : Nat), v11 = .slice A13 m14 c15 ∧ SemJ Tryd.prog (Builtin.append_ #[25, 25] 25 #[.slice x4A x4n x4c, .slice A13 m14 c15]) (fun v16 w17 => ∃ (A18 : Option Addr) (m19 : Nat) (c20 : Nat), v16 = .slice A18 m19 c20 ∧ (8 : Int) ≠ 0 ∧ L0 A18 m19 c20 (IntKind.wrap .i64 ((IntKind.wrap .i64 (Int.tdiv n10 8)) + (1 : Int))) x15A x15n x15c x16 (IntKind.wrap .i64 (x17 + (1 : Int))) w17) w12)) (ref16_Bytes.p5 K x4A x4n x4c w)
def ref16_Bytes.l0 (K : Value → World → Prop) (k : Nat) : Option Addr → Nat → Nat → Int → Option Addr → Nat → Nat → Int → Int → World → Prop :=
  Nat.rec (motive := fun _ => Option Addr → Nat → Nat → Int → Option Addr → Nat → Nat → Int → Int → World → Prop) (fun _ _ _ _ _ _ _ _ _ _ => False) (fun _ ih => ref16_Bytes.b0 ih K) k
theorem ref16_Bytes.l0_succ (K : Value → World → Prop) (k : Nat) (x4A : Option Addr) (x4n : Nat) (x4c : Nat) (x5 : Int) (x15A : Option Addr) (x15n : Nat) (x15c : Nat) (x16 : Int) (x17 : Int) (w : World) : ref16_Bytes.l0 K (k + 1) x4A x4n x4c x5 x15A x15n x15c x16 x17 w = ref16_Bytes.b0 (ref16_Bytes.l0 K k) K x4A x4n x4c x5 x15A x15n x15c x16 x17 w := rfl
abbrev ref16_Bytes.p4 (K : Value → World → Prop) (x4A : Option Addr) (x4n : Nat) (x4c : Nat) (x5 : Int) (x15A : Option Addr) (x15n : Nat) (x15c : Nat) (x16 : Int) (x17 : Int) (w : World) : Prop :=
  ∃ k, ref16_Bytes.l0 K k x4A x4n x4c x5 x15A x15n x15c x16 x17 w
abbrev ref16_Bytes.p3 (K : Value → World → Prop) (x0A : Option Addr) (x0n : Nat) (x0c : Nat) (x4A : Option Addr) (x4n : Nat) (x4c : Nat) (x5 : Int) (w : World) : Prop :=
  ref16_Bytes.p4 K x4A x4n x4c x5 x0A x0n x0c ((x0n : Nat) : Int) 0 w
abbrev ref16_Bytes.p2 (K : Value → World → Prop) (x0A : Option Addr) (x0n : Nat) (x0c : Nat) (x4A : Option Addr) (x4n : Nat) (x4c : Nat) (w : World) : Prop :=
  ref16_Bytes.p3 K x0A x0n x0c x4A x4n x4c 0 w
abbrev ref16_Bytes.p1 (K : Value → World → Prop) (x0A : Option Addr) (x0n : Nat) (x0c : Nat) (w : World) : Prop :=
  CallsE Tryd.prog 29 #[.int .u64 (IntKind.wrap .u64 ((x0n : Nat) : Int))] w (fun v4 w5 => ∃ (A6 : Option Addr) (m7 : Nat) (c8 : Nat), v4 = .slice A6 m7 c8 ∧ ref16_Bytes.p2 K x0A x0n x0c A6 m7 c8 w5)
abbrev ref16_Bytes.p0 (K : Value → World → Prop) (x0A : Option Addr) (x0n : Nat) (x0c : Nat) (w : World) : Prop :=
  CallsE Tryd.prog 39 #[.slice x0A x0n x0c, .int .i64 65535] w (fun v1 w2 => ∃ (b3 : Bool), v1 = .bool b3 ∧ condP (!b3) (K (.tuple #[.slice none 0 0, .int .i64 4]) w2) (ref16_Bytes.p1 K x0A x0n x0c w2))
abbrev ref16_Bytes.F (q0A : Option Addr) (q0n : Nat) (q0c : Nat) (K : Value → World → Prop) (w : World) : Prop :=
  ref16_Bytes.p0 K q0A q0n q0c w
theorem ref16_Bytes.ok {q0A : Option Addr} {q0n : Nat} {q0c : Nat} {K : Value → World → Prop} {w : World} (h : ref16_Bytes.F q0A q0n q0c K w) :
    CallsE Tryd.prog 34 #[.slice q0A q0n q0c] w K := by
  refine calls_of_J (n := 34) (rs := [.tmp 2, .tmp 3]) Tryd.func34 rfl rfl rfl rfl ?_
  refine J_seq (fun σ w => vS (σ 0) fun x0A x0n x0c => ref16_Bytes.p0 K x0A x0n x0c w) ?_ ?_
  ·
    exact sh_sound _ _ _ _ (Eq.mp (by kernel_rfl) h)
  · intro σ w h
    obtain ⟨x0A, x0n, x0c, e0, h⟩ := vS_elim h
    refine J.sub ?_ ((Sub.base _).upd e0)
    clear e0
    refine J_seq (fun σ w => vS (σ 0) fun x0A x0n x0c => ref16_Bytes.p1 K x0A x0n x0c w) ?_ ?_
    ·
      exact sh_sound _ _ _ _ (Eq.mp (by kernel_rfl) h)
    · intro σ w h
      obtain ⟨x0A, x0n, x0c, e0, h⟩ := vS_elim h
      refine J.sub ?_ ((Sub.base _).upd e0)
      clear e0
      refine J_seq (fun σ w => vS (σ 0) fun x0A x0n x0c => vS (σ 4) fun x4A x4n x4c => ref16_Bytes.p2 K x0A x0n x0c x4A x4n x4c w) ?_ ?_
      ·
        exact sh_sound _ _ _ _ (Eq.mp (by kernel_rfl) h)
      · intro σ w h
        obtain ⟨x0A, x0n, x0c, e0, h⟩ := vS_elim h
        obtain ⟨x4A, x4n, x4c, e4, h⟩ := vS_elim h
        refine J.sub ?_ (((Sub.base _).upd e0).upd e4)
        clear e0 e4
        refine J_seq (fun σ w => vS (σ 0) fun x0A x0n x0c => vS (σ 4) fun x4A x4n x4c => vI .i64 (σ 5) fun x5 => ref16_Bytes.p3 K x0A x0n x0c x4A x4n x4c x5 w) ?_ ?_
        ·
          exact sh_sound _ _ _ _ (Eq.mp (by kernel_rfl) h)
        · intro σ w h
          obtain ⟨x0A, x0n, x0c, e0, h⟩ := vS_elim h
          obtain ⟨x4A, x4n, x4c, e4, h⟩ := vS_elim h
          obtain ⟨x5, e5, h⟩ := vI_elim h
          refine J.sub ?_ ((((Sub.base _).upd e0).upd e4).upd e5)
          clear e0 e4 e5
          refine J_seq (fun σ w => vS (σ 4) fun x4A x4n x4c => ref16_Bytes.p5 K x4A x4n x4c w) ?_ ?_
          ·
            refine J_seq (fun σ w => vS (σ 4) fun x4A x4n x4c => vI .i64 (σ 5) fun x5 => vS (σ 15) fun x15A x15n x15c => vI .i64 (σ 16) fun x16 => vI .i64 (σ 17) fun x17 => ref16_Bytes.p4 K x4A x4n x4c x5 x15A x15n x15c x16 x17 w) ?_ ?_
            ·
              exact sh_sound _ _ _ _ (Eq.mp (by kernel_rfl) h)
            · intro σ w h
              obtain ⟨x4A, x4n, x4c, e4, h⟩ := vS_elim h
              obtain ⟨x5, e5, h⟩ := vI_elim h
              obtain ⟨x15A, x15n, x15c, e15, h⟩ := vS_elim h
              obtain ⟨x16, e16, h⟩ := vI_elim h
              obtain ⟨x17, e17, h⟩ := vI_elim h
              refine J.sub ?_ ((((((Sub.base _).upd e4).upd e5).upd e15).upd e16).upd e17)
              clear e4 e5 e15 e16 e17
              refine J_block ?_
              refine J_loop (fun k σ w => vS (σ 4) fun x4A x4n x4c => vI .i64 (σ 5) fun x5 => vS (σ 15) fun x15A x15n x15c => vI .i64 (σ 16) fun x16 => vI .i64 (σ 17) fun x17 => ref16_Bytes.l0 K k x4A x4n x4c x5 x15A x15n x15c x16 x17 w) (Eq.mp (by kernel_rfl) h) ?_ ?_
              · intro σ w h
                obtain ⟨x4A, x4n, x4c, e4, h⟩ := vS_elim h
                obtain ⟨x5, e5, h⟩ := vI_elim h
                obtain ⟨x15A, x15n, x15c, e15, h⟩ := vS_elim h
                obtain ⟨x16, e16, h⟩ := vI_elim h
                obtain ⟨x17, e17, h⟩ := vI_elim h
                exact h
              · intro k0 σ w h
                obtain ⟨x4A, x4n, x4c, e4, h⟩ := vS_elim h
                obtain ⟨x5, e5, h⟩ := vI_elim h
                obtain ⟨x15A, x15n, x15c, e15, h⟩ := vS_elim h
                obtain ⟨x16, e16, h⟩ := vI_elim h
                obtain ⟨x17, e17, h⟩ := vI_elim h
                refine J.sub ?_ ((((((Sub.base _).upd e4).upd e5).upd e15).upd e16).upd e17)
                clear e4 e5 e15 e16 e17
                exact sh_sound _ _ _ _ (Eq.mp (by kernel_rfl) h)
          · intro σ w h
            obtain ⟨x4A, x4n, x4c, e4, h⟩ := vS_elim h
            refine J.sub ?_ ((Sub.base _).upd e4)
            clear e4
            exact sh_sound _ _ _ _ (Eq.mp (by kernel_rfl) h)

/-! ### hayloft/span.Of: function 35 -/
abbrev span_Of.p10 (L0 : Option Addr → Int → Option Addr → Nat → Nat → Int → Int → World → Prop) (K : Value → World → Prop) (x4 : Option Addr) (x6 : Int) (x23A : Option Addr) (x23n : Nat) (x23c : Nat) (x24 : Int) (x25 : Int) (w : World) : Prop :=
  L0 x4 x6 x23A x23n x23c x24 (IntKind.wrap .i64 (x25 + (1 : Int))) w
abbrev span_Of.p9 (L0 : Option Addr → Int → Option Addr → Nat → Nat → Int → Int → World → Prop) (K : Value → World → Prop) (x4 : Option Addr) (x8 : Int) (x23A : Option Addr) (x23n : Nat) (x23c : Nat) (x24 : Int) (x25 : Int) (w : World) : Prop :=
  span_Of.p10 L0 K x4 x8 x23A x23n x23c x24 x25 w
abbrev span_Of.p8 (L0 : Option Addr → Int → Option Addr → Nat → Nat → Int → Int → World → Prop) (K : Value → World → Prop) (x4 : Option Addr) (x8 : Int) (x23A : Option Addr) (x23n : Nat) (x23c : Nat) (x24 : Int) (x25 : Int) (x41 : Bool) (w : World) : Prop :=
  condP x41 (K (.tuple #[.pointer none, .int .i64 4]) w) (span_Of.p9 L0 K x4 x8 x23A x23n x23c x24 x25 w)
abbrev span_Of.p7 (L0 : Option Addr → Int → Option Addr → Nat → Nat → Int → Int → World → Prop) (K : Value → World → Prop) (x4 : Option Addr) (x6 : Int) (x8 : Int) (x23A : Option Addr) (x23n : Nat) (x23c : Nat) (x24 : Int) (x25 : Int) (w : World) : Prop :=
  condP (decide (x8 ≤ x6)) (span_Of.p8 L0 K x4 x8 x23A x23n x23c x24 x25 true w) (∃ (a14 : Addr), x4 = some a14 ∧ ∃ (p15 : Option Addr), w.cell? a14 = some (.pointer p15) ∧ CallsE Tryd.prog 25 #[.pointer p15, .int .i64 x8] w (fun v16 w17 => ∃ (b18 : Bool), v16 = .bool b18 ∧ span_Of.p8 L0 K x4 x8 x23A x23n x23c x24 x25 (!b18) w17))
abbrev span_Of.p6 (L0 : Option Addr → Int → Option Addr → Nat → Nat → Int → Int → World → Prop) (K : Value → World → Prop) (x4 : Option Addr) (x6 : Int) (x23A : Option Addr) (x23n : Nat) (x23c : Nat) (x24 : Int) (x25 : Int) (w : World) : Prop :=
  (0 ≤ x25 ∧ x25 < ((x23n : Nat) : Int)) ∧ ∃ (a12 : Addr), x23A = some a12 ∧ ∃ (n13 : Int), w.cell? (a12.add x25.toNat) = some (.int .i64 n13) ∧ span_Of.p7 L0 K x4 x6 n13 x23A x23n x23c x24 x25 w
abbrev span_Of.p11 (K : Value → World → Prop) (x4 : Option Addr) (w : World) : Prop :=
  K (.tuple #[.pointer x4, .int .i64 0]) w
abbrev span_Of.p5 (L0 : Option Addr → Int → Option Addr → Nat → Nat → Int → Int → World → Prop) (K : Value → World → Prop) (x4 : Option Addr) (x6 : Int) (x23A : Option Addr) (x23n : Nat) (x23c : Nat) (x24 : Int) (x25 : Int) (x26 : Bool) (w : World) : Prop :=
  condP x26 (span_Of.p6 L0 K x4 x6 x23A x23n x23c x24 x25 w) (span_Of.p11 K x4 w)
abbrev span_Of.b0 (L0 : Option Addr → Int → Option Addr → Nat → Nat → Int → Int → World → Prop) (K : Value → World → Prop) (x4 : Option Addr) (x6 : Int) (x23A : Option Addr) (x23n : Nat) (x23c : Nat) (x24 : Int) (x25 : Int) (w : World) : Prop :=
  span_Of.p5 L0 K x4 x6 x23A x23n x23c x24 x25 (decide (x25 < x24)) w
def span_Of.l0 (K : Value → World → Prop) (k : Nat) : Option Addr → Int → Option Addr → Nat → Nat → Int → Int → World → Prop :=
  Nat.rec (motive := fun _ => Option Addr → Int → Option Addr → Nat → Nat → Int → Int → World → Prop) (fun _ _ _ _ _ _ _ _ => False) (fun _ ih => span_Of.b0 ih K) k
theorem span_Of.l0_succ (K : Value → World → Prop) (k : Nat) (x4 : Option Addr) (x6 : Int) (x23A : Option Addr) (x23n : Nat) (x23c : Nat) (x24 : Int) (x25 : Int) (w : World) : span_Of.l0 K (k + 1) x4 x6 x23A x23n x23c x24 x25 w = span_Of.b0 (span_Of.l0 K k) K x4 x6 x23A x23n x23c x24 x25 w := rfl
abbrev span_Of.p4 (K : Value → World → Prop) (x4 : Option Addr) (x6 : Int) (x23A : Option Addr) (x23n : Nat) (x23c : Nat) (x24 : Int) (x25 : Int) (w : World) : Prop :=
  ∃ k, span_Of.l0 K k x4 x6 x23A x23n x23c x24 x25 w
abbrev span_Of.p3 (K : Value → World → Prop) (x1 : Addr) (x4 : Option Addr) (x6 : Int) (w : World) : Prop :=
  ∃ (A9 : Option Addr) (m10 : Nat) (c11 : Nat), w.cell? (x1.add 3) = some (.slice A9 m10 c11) ∧ span_Of.p4 K x4 x6 A9 m10 c11 ((m10 : Nat) : Int) 0 w
abbrev span_Of.p2 (K : Value → World → Prop) (x1 : Addr) (x4 : Option Addr) (w : World) : Prop :=
  span_Of.p3 K x1 x4 (-1) w
abbrev span_Of.p1 (K : Value → World → Prop) (x1 : Addr) (x4 : Option Addr) (x5 : Int) (w : World) : Prop :=
  condP (x5 != (0 : Int)) (K (.tuple #[.pointer none, .int .i64 x5]) w) (span_Of.p2 K x1 x4 w)
abbrev span_Of.p0 (K : Value → World → Prop) (x1 : Addr) (w : World) : Prop :=
  ∃ (n2 : Int), w.cell? x1 = some (.int .i64 n2) ∧ ∃ (n3 : Int), w.cell? (x1.add 1) = some (.int .i64 n3) ∧ ∃ (n4 : Int), w.cell? (x1.add 2) = some (.int .i64 n4) ∧ CallsE Tryd.prog 63 #[.int .i64 n2, .int .i64 n3, .int .i64 n4] w (fun v5 w6 => ∃ (p7 : Option Addr) (n8 : Int), v5 = .tuple #[.pointer p7, .int .i64 n8] ∧ span_Of.p1 K x1 p7 n8 w6)
abbrev span_Of.F (q0_0 : Int) (q0_1 : Int) (q0_2 : Int) (q0_3A : Option Addr) (q0_3n : Nat) (q0_3c : Nat) (K : Value → World → Prop) (w : World) : Prop :=
  wlet (w.alloc (.cells #[.int .i64 q0_0, .int .i64 q0_1, .int .i64 q0_2, .slice q0_3A q0_3n q0_3c] 24)) fun w1 => span_Of.p0 K (⟨w.heap.size, 0, none⟩) w1
theorem span_Of.ok {q0_0 : Int} {q0_1 : Int} {q0_2 : Int} {q0_3A : Option Addr} {q0_3n : Nat} {q0_3c : Nat} {K : Value → World → Prop} {w : World} (h : span_Of.F q0_0 q0_1 q0_2 q0_3A q0_3n q0_3c K w) :
    CallsE Tryd.prog 35 #[.agg #[.int .i64 q0_0, .int .i64 q0_1, .int .i64 q0_2, .slice q0_3A q0_3n q0_3c]] w K := by
  refine calls_of_J (n := 45) (rs := [.tmp 2, .tmp 3]) Tryd.func35 rfl rfl rfl rfl ?_
  refine J_seq (fun σ w => vPa (σ 1) fun x1 => span_Of.p0 K x1 w) ?_ ?_
  ·
    exact sh_sound _ _ _ _ (Eq.mp (by kernel_rfl) h)
  · intro σ w h
    obtain ⟨x1, e1, h⟩ := vPa_elim h
    refine J.sub ?_ ((Sub.base _).upd e1)
    clear e1
    refine J_seq (fun σ w => vPa (σ 1) fun x1 => vP (σ 4) fun x4 => vI .i64 (σ 5) fun x5 => span_Of.p1 K x1 x4 x5 w) ?_ ?_
    ·
      exact sh_sound _ _ _ _ (Eq.mp (by kernel_rfl) h)
    · intro σ w h
      obtain ⟨x1, e1, h⟩ := vPa_elim h
      obtain ⟨x4, e4, h⟩ := vP_elim h
      obtain ⟨x5, e5, h⟩ := vI_elim h
      refine J.sub ?_ ((((Sub.base _).upd e1).upd e4).upd e5)
      clear e1 e4 e5
      refine J_seq (fun σ w => vPa (σ 1) fun x1 => vP (σ 4) fun x4 => span_Of.p2 K x1 x4 w) ?_ ?_
      ·
        exact sh_sound _ _ _ _ (Eq.mp (by kernel_rfl) h)
      · intro σ w h
        obtain ⟨x1, e1, h⟩ := vPa_elim h
        obtain ⟨x4, e4, h⟩ := vP_elim h
        refine J.sub ?_ (((Sub.base _).upd e1).upd e4)
        clear e1 e4
        refine J_seq (fun σ w => vPa (σ 1) fun x1 => vP (σ 4) fun x4 => vI .i64 (σ 6) fun x6 => span_Of.p3 K x1 x4 x6 w) ?_ ?_
        ·
          exact sh_sound _ _ _ _ (Eq.mp (by kernel_rfl) h)
        · intro σ w h
          obtain ⟨x1, e1, h⟩ := vPa_elim h
          obtain ⟨x4, e4, h⟩ := vP_elim h
          obtain ⟨x6, e6, h⟩ := vI_elim h
          refine J.sub ?_ ((((Sub.base _).upd e1).upd e4).upd e6)
          clear e1 e4 e6
          refine J_seq (fun σ w => vP (σ 4) fun x4 => span_Of.p11 K x4 w) ?_ ?_
          ·
            refine J_seq (fun σ w => vP (σ 4) fun x4 => vI .i64 (σ 6) fun x6 => vS (σ 23) fun x23A x23n x23c => vI .i64 (σ 24) fun x24 => vI .i64 (σ 25) fun x25 => span_Of.p4 K x4 x6 x23A x23n x23c x24 x25 w) ?_ ?_
            ·
              exact sh_sound _ _ _ _ (Eq.mp (by kernel_rfl) h)
            · intro σ w h
              obtain ⟨x4, e4, h⟩ := vP_elim h
              obtain ⟨x6, e6, h⟩ := vI_elim h
              obtain ⟨x23A, x23n, x23c, e23, h⟩ := vS_elim h
              obtain ⟨x24, e24, h⟩ := vI_elim h
              obtain ⟨x25, e25, h⟩ := vI_elim h
              refine J.sub ?_ ((((((Sub.base _).upd e4).upd e6).upd e23).upd e24).upd e25)
              clear e4 e6 e23 e24 e25
              refine J_block ?_
              refine J_loop (fun k σ w => vP (σ 4) fun x4 => vI .i64 (σ 6) fun x6 => vS (σ 23) fun x23A x23n x23c => vI .i64 (σ 24) fun x24 => vI .i64 (σ 25) fun x25 => span_Of.l0 K k x4 x6 x23A x23n x23c x24 x25 w) (Eq.mp (by kernel_rfl) h) ?_ ?_
              · intro σ w h
                obtain ⟨x4, e4, h⟩ := vP_elim h
                obtain ⟨x6, e6, h⟩ := vI_elim h
                obtain ⟨x23A, x23n, x23c, e23, h⟩ := vS_elim h
                obtain ⟨x24, e24, h⟩ := vI_elim h
                obtain ⟨x25, e25, h⟩ := vI_elim h
                exact h
              · intro k0 σ w h
                obtain ⟨x4, e4, h⟩ := vP_elim h
                obtain ⟨x6, e6, h⟩ := vI_elim h
                obtain ⟨x23A, x23n, x23c, e23, h⟩ := vS_elim h
                obtain ⟨x24, e24, h⟩ := vI_elim h
                obtain ⟨x25, e25, h⟩ := vI_elim h
                refine J.sub ?_ ((((((Sub.base _).upd e4).upd e6).upd e23).upd e24).upd e25)
                clear e4 e6 e23 e24 e25
                refine J_seq (fun σ w => vP (σ 4) fun x4 => vI .i64 (σ 6) fun x6 => vS (σ 23) fun x23A x23n x23c => vI .i64 (σ 24) fun x24 => vI .i64 (σ 25) fun x25 => vB (σ 26) fun x26 => span_Of.p5 (span_Of.l0 K k0) K x4 x6 x23A x23n x23c x24 x25 x26 w) ?_ ?_
                ·
                  exact sh_sound _ _ _ _ (Eq.mp (by kernel_rfl) h)
                · intro σ w h
                  obtain ⟨x4, e4, h⟩ := vP_elim h
                  obtain ⟨x6, e6, h⟩ := vI_elim h
                  obtain ⟨x23A, x23n, x23c, e23, h⟩ := vS_elim h
                  obtain ⟨x24, e24, h⟩ := vI_elim h
                  obtain ⟨x25, e25, h⟩ := vI_elim h
                  obtain ⟨x26, e26, h⟩ := vB_elim h
                  refine J.sub ?_ (((((((Sub.base _).upd e4).upd e6).upd e23).upd e24).upd e25).upd e26)
                  clear e4 e6 e23 e24 e25 e26
                  refine J_seq (fun σ w => vP (σ 4) fun x4 => vI .i64 (σ 6) fun x6 => vS (σ 23) fun x23A x23n x23c => vI .i64 (σ 24) fun x24 => vI .i64 (σ 25) fun x25 => span_Of.p6 (span_Of.l0 K k0) K x4 x6 x23A x23n x23c x24 x25 w) ?_ ?_
                  ·
                    exact sh_sound _ _ _ _ (Eq.mp (by kernel_rfl) h)
                  · intro σ w h
                    obtain ⟨x4, e4, h⟩ := vP_elim h
                    obtain ⟨x6, e6, h⟩ := vI_elim h
                    obtain ⟨x23A, x23n, x23c, e23, h⟩ := vS_elim h
                    obtain ⟨x24, e24, h⟩ := vI_elim h
                    obtain ⟨x25, e25, h⟩ := vI_elim h
                    refine J.sub ?_ ((((((Sub.base _).upd e4).upd e6).upd e23).upd e24).upd e25)
                    clear e4 e6 e23 e24 e25
                    refine J_seq (fun σ w => vP (σ 4) fun x4 => vI .i64 (σ 6) fun x6 => vS (σ 23) fun x23A x23n x23c => vI .i64 (σ 24) fun x24 => vI .i64 (σ 25) fun x25 => span_Of.p10 (span_Of.l0 K k0) K x4 x6 x23A x23n x23c x24 x25 w) ?_ ?_
                    ·
                      refine J_block ?_
                      refine J_seq (fun σ w => vP (σ 4) fun x4 => vI .i64 (σ 6) fun x6 => vI .i64 (σ 8) fun x8 => vS (σ 23) fun x23A x23n x23c => vI .i64 (σ 24) fun x24 => vI .i64 (σ 25) fun x25 => span_Of.p7 (span_Of.l0 K k0) K x4 x6 x8 x23A x23n x23c x24 x25 w) ?_ ?_
                      ·
                        exact sh_sound _ _ _ _ (Eq.mp (by kernel_rfl) h)
                      · intro σ w h
                        obtain ⟨x4, e4, h⟩ := vP_elim h
                        obtain ⟨x6, e6, h⟩ := vI_elim h
                        obtain ⟨x8, e8, h⟩ := vI_elim h
                        obtain ⟨x23A, x23n, x23c, e23, h⟩ := vS_elim h
                        obtain ⟨x24, e24, h⟩ := vI_elim h
                        obtain ⟨x25, e25, h⟩ := vI_elim h
                        refine J.sub ?_ (((((((Sub.base _).upd e4).upd e6).upd e8).upd e23).upd e24).upd e25)
                        clear e4 e6 e8 e23 e24 e25
                        refine J_seq (fun σ w => vP (σ 4) fun x4 => vI .i64 (σ 8) fun x8 => vS (σ 23) fun x23A x23n x23c => vI .i64 (σ 24) fun x24 => vI .i64 (σ 25) fun x25 => span_Of.p9 (span_Of.l0 K k0) K x4 x8 x23A x23n x23c x24 x25 w) ?_ ?_
                        ·
                          refine J_seq (fun σ w => vP (σ 4) fun x4 => vI .i64 (σ 8) fun x8 => vS (σ 23) fun x23A x23n x23c => vI .i64 (σ 24) fun x24 => vI .i64 (σ 25) fun x25 => vB (σ 41) fun x41 => span_Of.p8 (span_Of.l0 K k0) K x4 x8 x23A x23n x23c x24 x25 x41 w) ?_ ?_
                          ·
                            exact sh_sound _ _ _ _ (Eq.mp (by kernel_rfl) h)
                          · intro σ w h
                            obtain ⟨x4, e4, h⟩ := vP_elim h
                            obtain ⟨x8, e8, h⟩ := vI_elim h
                            obtain ⟨x23A, x23n, x23c, e23, h⟩ := vS_elim h
                            obtain ⟨x24, e24, h⟩ := vI_elim h
                            obtain ⟨x25, e25, h⟩ := vI_elim h
                            obtain ⟨x41, e41, h⟩ := vB_elim h
                            refine J.sub ?_ (((((((Sub.base _).upd e4).upd e8).upd e23).upd e24).upd e25).upd e41)
                            clear e4 e8 e23 e24 e25 e41
                            exact sh_sound _ _ _ _ (Eq.mp (by kernel_rfl) h)
                        · intro σ w h
                          obtain ⟨x4, e4, h⟩ := vP_elim h
                          obtain ⟨x8, e8, h⟩ := vI_elim h
                          obtain ⟨x23A, x23n, x23c, e23, h⟩ := vS_elim h
                          obtain ⟨x24, e24, h⟩ := vI_elim h
                          obtain ⟨x25, e25, h⟩ := vI_elim h
                          refine J.sub ?_ ((((((Sub.base _).upd e4).upd e8).upd e23).upd e24).upd e25)
                          clear e4 e8 e23 e24 e25
                          exact sh_sound _ _ _ _ (Eq.mp (by kernel_rfl) h)
                    · intro σ w h
                      obtain ⟨x4, e4, h⟩ := vP_elim h
                      obtain ⟨x6, e6, h⟩ := vI_elim h
                      obtain ⟨x23A, x23n, x23c, e23, h⟩ := vS_elim h
                      obtain ⟨x24, e24, h⟩ := vI_elim h
                      obtain ⟨x25, e25, h⟩ := vI_elim h
                      refine J.sub ?_ ((((((Sub.base _).upd e4).upd e6).upd e23).upd e24).upd e25)
                      clear e4 e6 e23 e24 e25
                      exact sh_sound _ _ _ _ (Eq.mp (by kernel_rfl) h)
          · intro σ w h
            obtain ⟨x4, e4, h⟩ := vP_elim h
            refine J.sub ?_ ((Sub.base _).upd e4)
            clear e4
            exact sh_sound _ _ _ _ (Eq.mp (by kernel_rfl) h)

end Go.Proofs.YtogmnhdadggnbaaDoor.F
