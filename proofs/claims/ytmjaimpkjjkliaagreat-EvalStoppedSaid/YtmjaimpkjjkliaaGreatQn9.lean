/- My texts, put together (9). -/
import Derived.Test.YtmjaimpkjjkliaaGreatQn8
import Derived.Test.YtmjaimpkjjkliaaGreatProg
set_option maxRecDepth 100000
set_option linter.unusedVariables false
namespace Go.Am.YtmjaimpkjjkliaaGreat
open Go.Proofs
noncomputable abbrev Pg : Program := Tryz.prog
abbrev F.l9_EvalExamples : Nat := 8
abbrev F.l9_EvalStopped : Nat := 10
abbrev F.l9_EvalLaziness : Nat := 12
abbrev F.l9_EvalStoreLoad : Nat := 13
abbrev F.r7_Lower : Nat := 20
abbrev F.r7_Valid : Nat := 24
abbrev F.fk_Nodes : Nat := 26
abbrev F.fk_Mutate : Nat := 27
abbrev F.fk_Pick : Nat := 28
abbrev F.r7_Sorts : Nat := 29
abbrev F.ir_Sort : Nat := 30
abbrev F.r7_Sort : Nat := 31
abbrev F.ir_Dependencies : Nat := 33
abbrev F.r7_Dependencies : Nat := 34
abbrev F.ir_Arity : Nat := 35
abbrev F.r7_Arity : Nat := 36
abbrev F.ir_Valid : Nat := 39
abbrev F.r3_Parse : Nat := 41
abbrev F.r3_SameOutcome : Nat := 42
abbrev F.eval_Run : Nat := 43
abbrev F.l9_contains : Nat := 46
abbrev F.fk_Word : Nat := 48
abbrev F.fk_Reader_Next : Nat := 52
abbrev F.checker_Check : Nat := 57
abbrev F.r3_ValidName : Nat := 63
abbrev F.r7_validGraph : Nat := 64
abbrev F.fk_of : Nat := 65
abbrev F.r15_OperandSort : Nat := 66
abbrev F.fk_contains : Nat := 67
abbrev F.r7_nodeSort : Nat := 68
abbrev F.ir_sorts : Nat := 69
abbrev F.ir_validGraph : Nat := 70
abbrev F.eval_loopDeps : Nat := 83
abbrev F.eval_enter : Nat := 84
abbrev F.eval_frame_state : Nat := 85
abbrev F.eval_values : Nat := 86
abbrev F.eval_frame_value : Nat := 87
abbrev F.r7_SameNode : Nat := 88
abbrev F.word_Unary : Nat := 89
abbrev F.word_Binary : Nat := 90
abbrev F.r1_Binary : Nat := 91
abbrev F.r1_Unary : Nat := 92
abbrev F.r1_IsName : Nat := 109
abbrev F.r3_Reserved : Nat := 110
abbrev F.r7_LoopVars : Nat := 111
abbrev F.r7_LoopDependencies : Nat := 112
abbrev F.r15_Sort : Nat := 113
abbrev F.r7_ValidImm : Nat := 114
abbrev F.r7_sortIf : Nat := 115
abbrev F.r7_allValues : Nat := 116
abbrev F.ir_sortOf : Nat := 117
abbrev F.ir_validReference : Nat := 118
abbrev F.ir_allDistinct : Nat := 119
abbrev F.ir_validLoops : Nat := 120
abbrev F.ir_loopDeps : Nat := 121
abbrev F.eval_loopVars : Nat := 138
abbrev F.eval_frame_eval : Nat := 139
abbrev F.word_quotient : Nat := 140
abbrev F.word_shiftOrCompare : Nat := 141
abbrev F.r1_Div : Nat := 142
abbrev F.r1_boolWord : Nat := 143
abbrev F.r7_maxImm : Nat := 166
abbrev F.ir_validOperands : Nat := 167
abbrev F.ir_validImm : Nat := 168
abbrev F.ir_key : Nat := 169
abbrev F.ir_loopVars : Nat := 170
abbrev F.eval_frame_missing : Nat := 177
abbrev F.eval_frame_nodes : Nat := 178
abbrev F.eval_frame_compute : Nat := 179
abbrev F.word_truth : Nat := 180
abbrev F.ir_match : Nat := 193
abbrev F.ir_loopSorts : Nat := 194
abbrev F.ir_operandSorts : Nat := 195
abbrev F.ir_appendUint64 : Nat := 196
abbrev F.eval_frame_ifUnknown : Nat := 201
abbrev F.eval_frame_selected : Nat := 202
abbrev F.eval_load : Nat := 203
abbrev F.eval_frame_loop : Nat := 204
abbrev F.eval_frame_next : Nat := 205
abbrev F.eval_tick : Nat := 215
abbrev F.eval_frame_invalidate : Nat := 216
abbrev F.eval_store : Nat := 217
abbrev F.eval_frame_call : Nat := 218
theorem mixedV : Pg.follows .mixedOrders = true := by kernel_rfl
noncomputable section
def c8 := cOf Pg Tryz.f8 []
theorem k8 : Compiled Pg 8 c8 := ⟨_, Tryz.func8, by kernel_rfl⟩
def c12 := cOf Pg Tryz.f12 [([], [(8, [1, 0])])]
theorem k12 : Compiled Pg 12 c12 := ⟨_, Tryz.func12, by kernel_rfl⟩
def c15 := cOf Pg Tryz.f15 []
theorem k15 : Compiled Pg 15 c15 := ⟨_, Tryz.func15, by kernel_rfl⟩
def c20 := cOf Pg Tryz.f20 [([1, 2, 3, 4, 5, 6, 7, 8, 9, 10, 11, 0, 12, 13, 14], []), ([5, 6, 7, 1, 2, 3, 4, 8, 9, 0, 10, 11, 12], [(6, [3])]), ([1, 2, 3, 4, 5, 6, 7, 8, 9, 10, 11, 0, 12, 13, 14], []), ([5, 6, 1, 2, 3, 4, 7, 8, 0, 9, 10, 11], [(5, [3])])]
theorem k20 : Compiled Pg 20 c20 := ⟨_, Tryz.func20, by kernel_rfl⟩
def c24 := cOf Pg Tryz.f24 []
theorem k24 : Compiled Pg 24 c24 := ⟨_, Tryz.func24, by kernel_rfl⟩
def c26 := cOf Pg Tryz.f26 [([], []), ([], []), ([3, 4, 5, 6, 7, 8, 2, 9, 0, 1, 10, 11, 12, 13], [(9, [5, 3, 1])])]
def c27 := cOf Pg Tryz.f27 [([2, 3, 4, 5, 6, 7, 0, 1, 8, 9, 10, 11, 12], [(7, [1])]), ([2, 3, 4, 5, 6, 7, 8, 9, 10, 11, 12, 13, 0, 1, 14, 15, 16], [(13, [7, 1])])]
def c28 := cOf Pg Tryz.f28 []
theorem k28 : Compiled Pg 28 c28 := ⟨_, Tryz.func28, by kernel_rfl⟩
def c29 := cOf Pg Tryz.f29 []
theorem k29 : Compiled Pg 29 c29 := ⟨_, Tryz.func29, by kernel_rfl⟩
def c30 := cOf Pg Tryz.f30 []
def c31 := cOf Pg Tryz.f31 []
theorem k31 : Compiled Pg 31 c31 := ⟨_, Tryz.func31, by kernel_rfl⟩
def c33 := cOf Pg Tryz.f33 []
def c34 := cOf Pg Tryz.f34 []
def c35 := cOf Pg Tryz.f35 []
theorem k35 : Compiled Pg 35 c35 := ⟨_, Tryz.func35, by kernel_rfl⟩
def c36 := cOf Pg Tryz.f36 []
theorem k36 : Compiled Pg 36 c36 := ⟨_, Tryz.func36, by kernel_rfl⟩
def c39 := cOf Pg Tryz.f39 []
theorem k39 : Compiled Pg 39 c39 := ⟨_, Tryz.func39, by kernel_rfl⟩
def c40 := cOf Pg Tryz.f40 [([], [(2, [1]), (5, [4, 1]), (7, [6, 3, 0])])]
theorem k40 : Compiled Pg 40 c40 := ⟨_, Tryz.func40, by kernel_rfl⟩
def c41 := cOf Pg Tryz.f41 [([], []), ([2, 3, 0, 1, 4, 5, 6, 7], [(3, [1])]), ([0, 5, 1, 2, 3, 4, 6], [(5, [3])])]
theorem k41 : Compiled Pg 41 c41 := ⟨_, Tryz.func41, by kernel_rfl⟩
def c42 := cOf Pg Tryz.f42 []
theorem k42 : Compiled Pg 42 c42 := ⟨_, Tryz.func42, by kernel_rfl⟩
def c43 := cOf Pg Tryz.f43 [([1, 2, 3, 4, 5, 6, 7, 8, 9, 0, 10, 11, 12], []), ([4, 5, 6, 7, 8, 0, 1, 2, 3, 9, 10, 11], [(8, [3])])]
theorem k43 : Compiled Pg 43 c43 := ⟨_, Tryz.func43, by kernel_rfl⟩
def c48 := cOf Pg Tryz.f48 []
def c52 := cOf Pg Tryz.f52 []
def c57 := cOf Pg Tryz.f57 []
theorem k57 : Compiled Pg 57 c57 := ⟨_, Tryz.func57, by kernel_rfl⟩
def c59 := cOf Pg Tryz.f59 [([], []), ([1, 2, 3, 4, 5, 6, 7, 0, 8, 9, 10], [])]
theorem k59 : Compiled Pg 59 c59 := ⟨_, Tryz.func59, by kernel_rfl⟩
def c60 := cOf Pg Tryz.f60 []
theorem k60 : Compiled Pg 60 c60 := ⟨_, Tryz.func60, by kernel_rfl⟩
def c61 := cOf Pg Tryz.f61 [([4, 5, 6, 7, 0, 1, 2, 3, 8, 9, 10], [(7, [3])])]
theorem k61 : Compiled Pg 61 c61 := ⟨_, Tryz.func61, by kernel_rfl⟩
def c63 := cOf Pg Tryz.f63 []
theorem k63 : Compiled Pg 63 c63 := ⟨_, Tryz.func63, by kernel_rfl⟩
def c64 := cOf Pg Tryz.f64 []
theorem k64 : Compiled Pg 64 c64 := ⟨_, Tryz.func64, by kernel_rfl⟩
def c65 := cOf Pg Tryz.f65 []
def c66 := cOf Pg Tryz.f66 []
def c67 := cOf Pg Tryz.f67 []
def c68 := cOf Pg Tryz.f68 []
theorem k68 : Compiled Pg 68 c68 := ⟨_, Tryz.func68, by kernel_rfl⟩
def c69 := cOf Pg Tryz.f69 []
theorem k69 : Compiled Pg 69 c69 := ⟨_, Tryz.func69, by kernel_rfl⟩
def c70 := cOf Pg Tryz.f70 []
theorem k70 : Compiled Pg 70 c70 := ⟨_, Tryz.func70, by kernel_rfl⟩
def c71 := cOf Pg Tryz.f71 []
theorem k71 : Compiled Pg 71 c71 := ⟨_, Tryz.func71, by kernel_rfl⟩
def c72 := cOf Pg Tryz.f72 [([], [(4, [1]), (7, [4, 1])])]
theorem k72 : Compiled Pg 72 c72 := ⟨_, Tryz.func72, by kernel_rfl⟩
def c73 := cOf Pg Tryz.f73 [([], [(2, [1]), (5, [4, 1])])]
theorem k73 : Compiled Pg 73 c73 := ⟨_, Tryz.func73, by kernel_rfl⟩
def c74 := cOf Pg Tryz.f74 [([0, 1, 2, 3, 10, 11, 12, 13, 14, 4, 5, 6, 7, 8, 9, 15, 16, 17, 18, 19, 20], [(10, [1]), (14, [5])])]
theorem k74 : Compiled Pg 74 c74 := ⟨_, Tryz.func74, by kernel_rfl⟩
def c75 := cOf Pg Tryz.f75 []
theorem k75 : Compiled Pg 75 c75 := ⟨_, Tryz.func75, by kernel_rfl⟩
def c76 := cOf Pg Tryz.f76 []
theorem k76 : Compiled Pg 76 c76 := ⟨_, Tryz.func76, by kernel_rfl⟩
def c77 := cOf Pg Tryz.f77 []
theorem k77 : Compiled Pg 77 c77 := ⟨_, Tryz.func77, by kernel_rfl⟩
def c78 := cOf Pg Tryz.f78 []
theorem k78 : Compiled Pg 78 c78 := ⟨_, Tryz.func78, by kernel_rfl⟩
def c79 := cOf Pg Tryz.f79 []
theorem k79 : Compiled Pg 79 c79 := ⟨_, Tryz.func79, by kernel_rfl⟩
def c80 := cOf Pg Tryz.f80 []
theorem k80 : Compiled Pg 80 c80 := ⟨_, Tryz.func80, by kernel_rfl⟩
def c81 := cOf Pg Tryz.f81 []
theorem k81 : Compiled Pg 81 c81 := ⟨_, Tryz.func81, by kernel_rfl⟩
def c82 := cOf Pg Tryz.f82 [([2, 3, 0, 1, 4, 5, 6, 7], [(3, [1])]), ([2, 3, 0, 1, 4, 5, 6, 7], [(3, [1])]), ([2, 3, 0, 1, 4, 5, 6, 7], [(3, [1])]), ([2, 3, 0, 1, 4, 5, 6, 7], [(3, [1])])]
theorem k82 : Compiled Pg 82 c82 := ⟨_, Tryz.func82, by kernel_rfl⟩
def c83 := cOf Pg Tryz.f83 []
theorem k83 : Compiled Pg 83 c83 := ⟨_, Tryz.func83, by kernel_rfl⟩
def c84 := cOf Pg Tryz.f84 []
theorem k84 : Compiled Pg 84 c84 := ⟨_, Tryz.func84, by kernel_rfl⟩
def c85 := cOf Pg Tryz.f85 []
theorem k85 : Compiled Pg 85 c85 := ⟨_, Tryz.func85, by kernel_rfl⟩
def c86 := cOf Pg Tryz.f86 []
theorem k86 : Compiled Pg 86 c86 := ⟨_, Tryz.func86, by kernel_rfl⟩
def c87 := cOf Pg Tryz.f87 []
theorem k87 : Compiled Pg 87 c87 := ⟨_, Tryz.func87, by kernel_rfl⟩
def c88 := cOf Pg Tryz.f88 []
theorem k88 : Compiled Pg 88 c88 := ⟨_, Tryz.func88, by kernel_rfl⟩
def c89 := cOf Pg Tryz.f89 []
theorem k89 : Compiled Pg 89 c89 := ⟨_, Tryz.func89, by kernel_rfl⟩
def c90 := cOf Pg Tryz.f90 []
theorem k90 : Compiled Pg 90 c90 := ⟨_, Tryz.func90, by kernel_rfl⟩
def c91 := cOf Pg Tryz.f91 []
def c92 := cOf Pg Tryz.f92 []
def c96 := cOf Pg Tryz.f96 []
theorem k96 : Compiled Pg 96 c96 := ⟨_, Tryz.func96, by kernel_rfl⟩
def c97 := cOf Pg Tryz.f97 []
theorem k97 : Compiled Pg 97 c97 := ⟨_, Tryz.func97, by kernel_rfl⟩
def c98 := cOf Pg Tryz.f98 []
theorem k98 : Compiled Pg 98 c98 := ⟨_, Tryz.func98, by kernel_rfl⟩
def c99 := cOf Pg Tryz.f99 []
theorem k99 : Compiled Pg 99 c99 := ⟨_, Tryz.func99, by kernel_rfl⟩
def c104 := cOf Pg Tryz.f104 [([4, 5, 6, 7, 0, 1, 2, 3, 8, 9, 10], [(7, [3])]), ([1, 2, 3, 4, 5, 6, 7, 8, 9, 10, 11, 0, 12, 13, 14], []), ([2, 3, 4, 5, 6, 7, 8, 9, 10, 11, 12, 13, 14, 15, 1, 16, 0, 17, 18, 19], [(10, [3])]), ([4, 5, 6, 7, 8, 9, 10, 11, 12, 13, 14, 0, 1, 2, 3, 15, 16], [(8, [4]), (14, [10, 4, 3])]), ([5, 6, 7, 8, 9, 10, 11, 12, 13, 14, 15, 16, 17, 18, 0, 1, 2, 3, 4, 19, 20], [(17, [3])])]
theorem k104 : Compiled Pg 104 c104 := ⟨_, Tryz.func104, by kernel_rfl⟩
def c105 := cOf Pg Tryz.f105 []
theorem k105 : Compiled Pg 105 c105 := ⟨_, Tryz.func105, by kernel_rfl⟩
def c106 := cOf Pg Tryz.f106 []
theorem k106 : Compiled Pg 106 c106 := ⟨_, Tryz.func106, by kernel_rfl⟩
def c107 := cOf Pg Tryz.f107 []
theorem k107 : Compiled Pg 107 c107 := ⟨_, Tryz.func107, by kernel_rfl⟩
def c108 := cOf Pg Tryz.f108 []
theorem k108 : Compiled Pg 108 c108 := ⟨_, Tryz.func108, by kernel_rfl⟩
def c109 := cOf Pg Tryz.f109 []
theorem k109 : Compiled Pg 109 c109 := ⟨_, Tryz.func109, by kernel_rfl⟩
def c110 := cOf Pg Tryz.f110 []
theorem k110 : Compiled Pg 110 c110 := ⟨_, Tryz.func110, by kernel_rfl⟩
def c111 := cOf Pg Tryz.f111 []
theorem k111 : Compiled Pg 111 c111 := ⟨_, Tryz.func111, by kernel_rfl⟩
def c112 := cOf Pg Tryz.f112 []
theorem k112 : Compiled Pg 112 c112 := ⟨_, Tryz.func112, by kernel_rfl⟩
def c113 := cOf Pg Tryz.f113 []
def c114 := cOf Pg Tryz.f114 []
theorem k114 : Compiled Pg 114 c114 := ⟨_, Tryz.func114, by kernel_rfl⟩
def c115 := cOf Pg Tryz.f115 []
theorem k115 : Compiled Pg 115 c115 := ⟨_, Tryz.func115, by kernel_rfl⟩
def c116 := cOf Pg Tryz.f116 []
theorem k116 : Compiled Pg 116 c116 := ⟨_, Tryz.func116, by kernel_rfl⟩
def c117 := cOf Pg Tryz.f117 []
theorem k117 : Compiled Pg 117 c117 := ⟨_, Tryz.func117, by kernel_rfl⟩
def c118 := cOf Pg Tryz.f118 []
theorem k118 : Compiled Pg 118 c118 := ⟨_, Tryz.func118, by kernel_rfl⟩
def c119 := cOf Pg Tryz.f119 []
theorem k119 : Compiled Pg 119 c119 := ⟨_, Tryz.func119, by kernel_rfl⟩
def c120 := cOf Pg Tryz.f120 [([2, 3, 4, 5, 0, 1, 6, 7], [(5, [1])])]
theorem k120 : Compiled Pg 120 c120 := ⟨_, Tryz.func120, by kernel_rfl⟩
def c121 := cOf Pg Tryz.f121 []
theorem k121 : Compiled Pg 121 c121 := ⟨_, Tryz.func121, by kernel_rfl⟩
def c122 := cOf Pg Tryz.f122 []
theorem k122 : Compiled Pg 122 c122 := ⟨_, Tryz.func122, by kernel_rfl⟩
def c123 := cOf Pg Tryz.f123 []
theorem k123 : Compiled Pg 123 c123 := ⟨_, Tryz.func123, by kernel_rfl⟩
def c124 := cOf Pg Tryz.f124 []
theorem k124 : Compiled Pg 124 c124 := ⟨_, Tryz.func124, by kernel_rfl⟩
def c125 := cOf Pg Tryz.f125 []
theorem k125 : Compiled Pg 125 c125 := ⟨_, Tryz.func125, by kernel_rfl⟩
def c126 := cOf Pg Tryz.f126 []
theorem k126 : Compiled Pg 126 c126 := ⟨_, Tryz.func126, by kernel_rfl⟩
def c127 := cOf Pg Tryz.f127 []
theorem k127 : Compiled Pg 127 c127 := ⟨_, Tryz.func127, by kernel_rfl⟩
def c128 := cOf Pg Tryz.f128 []
theorem k128 : Compiled Pg 128 c128 := ⟨_, Tryz.func128, by kernel_rfl⟩
def c129 := cOf Pg Tryz.f129 []
theorem k129 : Compiled Pg 129 c129 := ⟨_, Tryz.func129, by kernel_rfl⟩
def c130 := cOf Pg Tryz.f130 []
theorem k130 : Compiled Pg 130 c130 := ⟨_, Tryz.func130, by kernel_rfl⟩
def c131 := cOf Pg Tryz.f131 []
theorem k131 : Compiled Pg 131 c131 := ⟨_, Tryz.func131, by kernel_rfl⟩
def c132 := cOf Pg Tryz.f132 []
theorem k132 : Compiled Pg 132 c132 := ⟨_, Tryz.func132, by kernel_rfl⟩
def c133 := cOf Pg Tryz.f133 []
theorem k133 : Compiled Pg 133 c133 := ⟨_, Tryz.func133, by kernel_rfl⟩
def c134 := cOf Pg Tryz.f134 []
theorem k134 : Compiled Pg 134 c134 := ⟨_, Tryz.func134, by kernel_rfl⟩
def c135 := cOf Pg Tryz.f135 []
theorem k135 : Compiled Pg 135 c135 := ⟨_, Tryz.func135, by kernel_rfl⟩
def c136 := cOf Pg Tryz.f136 []
theorem k136 : Compiled Pg 136 c136 := ⟨_, Tryz.func136, by kernel_rfl⟩
def c137 := cOf Pg Tryz.f137 []
theorem k137 : Compiled Pg 137 c137 := ⟨_, Tryz.func137, by kernel_rfl⟩
def c138 := cOf Pg Tryz.f138 []
theorem k138 : Compiled Pg 138 c138 := ⟨_, Tryz.func138, by kernel_rfl⟩
def c139 := cOf Pg Tryz.f139 []
theorem k139 : Compiled Pg 139 c139 := ⟨_, Tryz.func139, by kernel_rfl⟩
def c140 := cOf Pg Tryz.f140 []
theorem k140 : Compiled Pg 140 c140 := ⟨_, Tryz.func140, by kernel_rfl⟩
def c141 := cOf Pg Tryz.f141 []
theorem k141 : Compiled Pg 141 c141 := ⟨_, Tryz.func141, by kernel_rfl⟩
def c142 := cOf Pg Tryz.f142 []
def c143 := cOf Pg Tryz.f143 []
def c146 := cOf Pg Tryz.f146 []
theorem k146 : Compiled Pg 146 c146 := ⟨_, Tryz.func146, by kernel_rfl⟩
def c147 := cOf Pg Tryz.f147 []
theorem k147 : Compiled Pg 147 c147 := ⟨_, Tryz.func147, by kernel_rfl⟩
def c148 := cOf Pg Tryz.f148 []
theorem k148 : Compiled Pg 148 c148 := ⟨_, Tryz.func148, by kernel_rfl⟩
def c149 := cOf Pg Tryz.f149 []
theorem k149 : Compiled Pg 149 c149 := ⟨_, Tryz.func149, by kernel_rfl⟩
def c150 := cOf Pg Tryz.f150 []
theorem k150 : Compiled Pg 150 c150 := ⟨_, Tryz.func150, by kernel_rfl⟩
def c151 := cOf Pg Tryz.f151 []
theorem k151 : Compiled Pg 151 c151 := ⟨_, Tryz.func151, by kernel_rfl⟩
def c152 := cOf Pg Tryz.f152 []
theorem k152 : Compiled Pg 152 c152 := ⟨_, Tryz.func152, by kernel_rfl⟩
def c153 := cOf Pg Tryz.f153 []
theorem k153 : Compiled Pg 153 c153 := ⟨_, Tryz.func153, by kernel_rfl⟩
def c154 := cOf Pg Tryz.f154 []
theorem k154 : Compiled Pg 154 c154 := ⟨_, Tryz.func154, by kernel_rfl⟩
def c155 := cOf Pg Tryz.f155 []
theorem k155 : Compiled Pg 155 c155 := ⟨_, Tryz.func155, by kernel_rfl⟩
def c156 := cOf Pg Tryz.f156 []
theorem k156 : Compiled Pg 156 c156 := ⟨_, Tryz.func156, by kernel_rfl⟩
def c157 := cOf Pg Tryz.f157 []
theorem k157 : Compiled Pg 157 c157 := ⟨_, Tryz.func157, by kernel_rfl⟩
def c158 := cOf Pg Tryz.f158 []
theorem k158 : Compiled Pg 158 c158 := ⟨_, Tryz.func158, by kernel_rfl⟩
def c159 := cOf Pg Tryz.f159 []
theorem k159 : Compiled Pg 159 c159 := ⟨_, Tryz.func159, by kernel_rfl⟩
def c165 := cOf Pg Tryz.f165 [([8, 9, 10, 11, 12, 13, 14, 0, 1, 2, 3, 4, 5, 6, 7, 15, 16], [(10, [3]), (14, [7])]), ([], []), ([8, 9, 10, 11, 12, 13, 14, 15, 16, 17, 18, 0, 1, 2, 3, 4, 5, 6, 7, 19, 20], [(14, [3]), (18, [7])])]
theorem k165 : Compiled Pg 165 c165 := ⟨_, Tryz.func165, by kernel_rfl⟩
def c166 := cOf Pg Tryz.f166 []
theorem k166 : Compiled Pg 166 c166 := ⟨_, Tryz.func166, by kernel_rfl⟩
def c167 := cOf Pg Tryz.f167 []
theorem k167 : Compiled Pg 167 c167 := ⟨_, Tryz.func167, by kernel_rfl⟩
def c168 := cOf Pg Tryz.f168 []
theorem k168 : Compiled Pg 168 c168 := ⟨_, Tryz.func168, by kernel_rfl⟩
def c169 := cOf Pg Tryz.f169 []
theorem k169 : Compiled Pg 169 c169 := ⟨_, Tryz.func169, by kernel_rfl⟩
def c170 := cOf Pg Tryz.f170 []
theorem k170 : Compiled Pg 170 c170 := ⟨_, Tryz.func170, by kernel_rfl⟩
def c171 := cOf Pg Tryz.f171 []
theorem k171 : Compiled Pg 171 c171 := ⟨_, Tryz.func171, by kernel_rfl⟩
def c172 := cOf Pg Tryz.f172 []
theorem k172 : Compiled Pg 172 c172 := ⟨_, Tryz.func172, by kernel_rfl⟩
def c173 := cOf Pg Tryz.f173 []
theorem k173 : Compiled Pg 173 c173 := ⟨_, Tryz.func173, by kernel_rfl⟩
def c174 := cOf Pg Tryz.f174 []
theorem k174 : Compiled Pg 174 c174 := ⟨_, Tryz.func174, by kernel_rfl⟩
def c175 := cOf Pg Tryz.f175 [([2, 3, 0, 1, 4, 5, 6, 7], [(3, [1])])]
theorem k175 : Compiled Pg 175 c175 := ⟨_, Tryz.func175, by kernel_rfl⟩
def c176 := cOf Pg Tryz.f176 []
theorem k176 : Compiled Pg 176 c176 := ⟨_, Tryz.func176, by kernel_rfl⟩
def c177 := cOf Pg Tryz.f177 []
theorem k177 : Compiled Pg 177 c177 := ⟨_, Tryz.func177, by kernel_rfl⟩
def c178 := cOf Pg Tryz.f178 []
theorem k178 : Compiled Pg 178 c178 := ⟨_, Tryz.func178, by kernel_rfl⟩
def c179 := cOf Pg Tryz.f179 [([], []), ([], []), ([], []), ([4, 5, 6, 0, 1, 2, 3, 7, 8, 9], [(6, [3])])]
theorem k179 : Compiled Pg 179 c179 := ⟨_, Tryz.func179, by kernel_rfl⟩
def c180 := cOf Pg Tryz.f180 []
theorem k180 : Compiled Pg 180 c180 := ⟨_, Tryz.func180, by kernel_rfl⟩
def c183 := cOf Pg Tryz.f183 []
theorem k183 : Compiled Pg 183 c183 := ⟨_, Tryz.func183, by kernel_rfl⟩
def c184 := cOf Pg Tryz.f184 []
theorem k184 : Compiled Pg 184 c184 := ⟨_, Tryz.func184, by kernel_rfl⟩
def c185 := cOf Pg Tryz.f185 []
theorem k185 : Compiled Pg 185 c185 := ⟨_, Tryz.func185, by kernel_rfl⟩
def c186 := cOf Pg Tryz.f186 []
theorem k186 : Compiled Pg 186 c186 := ⟨_, Tryz.func186, by kernel_rfl⟩
def c187 := cOf Pg Tryz.f187 []
theorem k187 : Compiled Pg 187 c187 := ⟨_, Tryz.func187, by kernel_rfl⟩
def c188 := cOf Pg Tryz.f188 []
theorem k188 : Compiled Pg 188 c188 := ⟨_, Tryz.func188, by kernel_rfl⟩
def c192 := cOf Pg Tryz.f192 []
theorem k192 : Compiled Pg 192 c192 := ⟨_, Tryz.func192, by kernel_rfl⟩
def c193 := cOf Pg Tryz.f193 []
theorem k193 : Compiled Pg 193 c193 := ⟨_, Tryz.func193, by kernel_rfl⟩
def c194 := cOf Pg Tryz.f194 []
theorem k194 : Compiled Pg 194 c194 := ⟨_, Tryz.func194, by kernel_rfl⟩
def c195 := cOf Pg Tryz.f195 []
theorem k195 : Compiled Pg 195 c195 := ⟨_, Tryz.func195, by kernel_rfl⟩
def c196 := cOf Pg Tryz.f196 []
theorem k196 : Compiled Pg 196 c196 := ⟨_, Tryz.func196, by kernel_rfl⟩
def c197 := cOf Pg Tryz.f197 []
theorem k197 : Compiled Pg 197 c197 := ⟨_, Tryz.func197, by kernel_rfl⟩
def c198 := cOf Pg Tryz.f198 []
theorem k198 : Compiled Pg 198 c198 := ⟨_, Tryz.func198, by kernel_rfl⟩
def c199 := cOf Pg Tryz.f199 []
theorem k199 : Compiled Pg 199 c199 := ⟨_, Tryz.func199, by kernel_rfl⟩
def c200 := cOf Pg Tryz.f200 []
theorem k200 : Compiled Pg 200 c200 := ⟨_, Tryz.func200, by kernel_rfl⟩
def c201 := cOf Pg Tryz.f201 []
theorem k201 : Compiled Pg 201 c201 := ⟨_, Tryz.func201, by kernel_rfl⟩
def c202 := cOf Pg Tryz.f202 []
theorem k202 : Compiled Pg 202 c202 := ⟨_, Tryz.func202, by kernel_rfl⟩
def c203 := cOf Pg Tryz.f203 []
theorem k203 : Compiled Pg 203 c203 := ⟨_, Tryz.func203, by kernel_rfl⟩
def c204 := cOf Pg Tryz.f204 [([], []), ([], []), ([], []), ([], []), ([5, 6, 7, 8, 9, 10, 11, 12, 13, 14, 0, 1, 2, 3, 4, 15, 16], [(13, [3])])]
theorem k204 : Compiled Pg 204 c204 := ⟨_, Tryz.func204, by kernel_rfl⟩
def c205 := cOf Pg Tryz.f205 [([], []), ([], []), ([], []), ([2, 3, 0, 1, 4, 5], [(3, [1])])]
theorem k205 : Compiled Pg 205 c205 := ⟨_, Tryz.func205, by kernel_rfl⟩
def c208 := cOf Pg Tryz.f208 []
theorem k208 : Compiled Pg 208 c208 := ⟨_, Tryz.func208, by kernel_rfl⟩
def c209 := cOf Pg Tryz.f209 []
theorem k209 : Compiled Pg 209 c209 := ⟨_, Tryz.func209, by kernel_rfl⟩
def c210 := cOf Pg Tryz.f210 []
theorem k210 : Compiled Pg 210 c210 := ⟨_, Tryz.func210, by kernel_rfl⟩
def c212 := cOf Pg Tryz.f212 []
theorem k212 : Compiled Pg 212 c212 := ⟨_, Tryz.func212, by kernel_rfl⟩
def c213 := cOf Pg Tryz.f213 []
theorem k213 : Compiled Pg 213 c213 := ⟨_, Tryz.func213, by kernel_rfl⟩
def c214 := cOf Pg Tryz.f214 []
theorem k214 : Compiled Pg 214 c214 := ⟨_, Tryz.func214, by kernel_rfl⟩
def c215 := cOf Pg Tryz.f215 []
theorem k215 : Compiled Pg 215 c215 := ⟨_, Tryz.func215, by kernel_rfl⟩
def c216 := cOf Pg Tryz.f216 []
theorem k216 : Compiled Pg 216 c216 := ⟨_, Tryz.func216, by kernel_rfl⟩
def c217 := cOf Pg Tryz.f217 []
theorem k217 : Compiled Pg 217 c217 := ⟨_, Tryz.func217, by kernel_rfl⟩
def c218 := cOf Pg Tryz.f218 []
theorem k218 : Compiled Pg 218 c218 := ⟨_, Tryz.func218, by kernel_rfl⟩
def c219 := cOf Pg Tryz.f219 []
theorem k219 : Compiled Pg 219 c219 := ⟨_, Tryz.func219, by kernel_rfl⟩
def c220 := cOf Pg Tryz.f220 []
theorem k220 : Compiled Pg 220 c220 := ⟨_, Tryz.func220, by kernel_rfl⟩
def c221 := cOf Pg Tryz.f221 []
theorem k221 : Compiled Pg 221 c221 := ⟨_, Tryz.func221, by kernel_rfl⟩
def c222 := cOf Pg Tryz.f222 []
theorem k222 : Compiled Pg 222 c222 := ⟨_, Tryz.func222, by kernel_rfl⟩
def c223 := cOf Pg Tryz.f223 []
theorem k223 : Compiled Pg 223 c223 := ⟨_, Tryz.func223, by kernel_rfl⟩
def c224 := cOf Pg Tryz.f224 []
theorem k224 : Compiled Pg 224 c224 := ⟨_, Tryz.func224, by kernel_rfl⟩
end
theorem stC {fn : CFn} {R : V → S → Prop} (st : Stops) {p : Nat} {L : List (Nat × V)} {s : S} {F : Prop} (h : ∀ e, vcC Pg fn R st p (setL e L) s = F) (H : WF s → F) : PtC Pg fn p R L s := .step mixedV st h H
theorem stO {fn : CFn} {R : V → S → Prop} (st : Stops) {p i : Nat} {L : List (Nat × V)} {s : S} {F : Prop} (h : ∀ e, vcO Pg fn R st p i (setL e L) s = F) (H : WF s → F) : PtO Pg fn p i R L s := .step mixedV st h H
end Go.Am.YtmjaimpkjjkliaaGreat
namespace Go.Am.YtmjaimpkjjkliaaGreat
open Go.Proofs
variable {R : V → S → Prop} {s : S} {x0 x1 x2 x3 x4 x5 x6 x7 x8 x9 x10 x12 x14 x15 x16 x17 x18 x19 x20 x22 x24 x26 x28 x30 x35 x38 x39 x40 x45 x51 x52 x53 x55 x58 x64 x70 x72 x73 x74 x90 : V}
namespace ir_Arity
def st : Stops := ⟨[(1, [0]), (53, [0, 4, 5]), (215, [0, 4, 10]), (863, [0, 4, 15]), (3455, [0, 4, 19]), (13823, [0, 22]), (29, [30])], []⟩
def p0 R x0 s := PtC Pg c35 1 R [(0, x0)] s
def p1 R x0 x4 x5 s := PtC Pg c35 53 R [(0, x0), (4, x4), (5, x5)] s
def p2 R x0 x4 x10 s := PtC Pg c35 215 R [(0, x0), (4, x4), (10, x10)] s
def p3 R x0 x4 x15 s := PtC Pg c35 863 R [(0, x0), (4, x4), (15, x15)] s
def p4 R x0 x4 x19 s := PtC Pg c35 3455 R [(0, x0), (4, x4), (19, x19)] s
def p5 R x0 x22 s := PtC Pg c35 13823 R [(0, x0), (22, x22)] s
def p6 R x30 s := PtC Pg c35 29 R [(30, x30)] s
theorem p0_s (H : WF s → bo (Am.bin .eql x0 (.int .i64 1)) fun y1 => br y1 (p1 R x0 x0 y1 s) (bo (Am.bin .eql x0 (.int .i64 2)) fun y2 => br y2 (p1 R x0 x0 y2 s) (bo (Am.bin .eql x0 (.int .i64 3)) fun y3 => br y3 (p1 R x0 x0 y3 s) (bo (Am.bin .eql x0 (.int .i64 26)) fun y4 => p1 R x0 x0 y4 s)))) : p0 R x0 s := stC st (fun _ => by kernel_rfl) H
theorem p1_s (H : WF s → br x5 (R (.tup [(.int .i64 0), (.bool true)]) s) (bo (Am.bin .eql x4 (.int .i64 20)) fun y1 => br y1 (p2 R x0 x4 y1 s) (bo (Am.bin .eql x4 (.int .i64 21)) fun y2 => br y2 (p2 R x0 x4 y2 s) (bo (Am.bin .eql x4 (.int .i64 24)) fun y3 => br y3 (p2 R x0 x4 y3 s) (bo (Am.bin .eql x4 (.int .i64 25)) fun y4 => p2 R x0 x4 y4 s))))) : p1 R x0 x4 x5 s := stC st (fun _ => by kernel_rfl) H
theorem p2_s (H : WF s → br x10 (R (.tup [(.int .i64 1), (.bool true)]) s) (bo (Am.bin .eql x4 (.int .i64 23)) fun y1 => br y1 (p3 R x0 x4 y1 s) (bo (Am.bin .eql x4 (.int .i64 27)) fun y2 => br y2 (p3 R x0 x4 y2 s) (bo (Am.bin .eql x4 (.int .i64 29)) fun y3 => p3 R x0 x4 y3 s)))) : p2 R x0 x4 x10 s := stC st (fun _ => by kernel_rfl) H
theorem p3_s (H : WF s → br x15 (R (.tup [(.int .i64 2), (.bool true)]) s) (bo (Am.bin .eql x4 (.int .i64 22)) fun y1 => br y1 (p4 R x0 x4 y1 s) (bo (Am.bin .eql x4 (.int .i64 28)) fun y2 => p4 R x0 x4 y2 s))) : p3 R x0 x4 x15 s := stC st (fun _ => by kernel_rfl) H
theorem p4_s (H : WF s → br x19 (R (.tup [(.int .i64 3), (.bool true)]) s) (bo (Am.bin .eql x4 (.int .i64 30)) fun y1 => br y1 (p5 R x0 y1 s) (bo (Am.bin .eql x4 (.int .i64 31)) fun y2 => p5 R x0 y2 s))) : p4 R x0 x4 x19 s := stC st (fun _ => by kernel_rfl) H
theorem p5_s (H : WF s → br x22 (R (.tup [(.int .i64 (-1)), (.bool true)]) s) (bo (Am.bin .geq x0 (.int .i64 4)) fun y1 => br y1 (bo (Am.bin .leq x0 (.int .i64 19)) fun y2 => p6 R y2 s) (p6 R (.bool false) s))) : p5 R x0 x22 s := stC st (fun _ => by kernel_rfl) H
theorem p6_s (H : WF s → br x30 (R (.tup [(.int .i64 2), (.bool true)]) s) (R (.tup [(.int .i64 0), (.bool false)]) s)) : p6 R x30 s := stC st (fun _ => by kernel_rfl) H
end ir_Arity
theorem ir_Arity_k : Compiled Pg F.ir_Arity c35 := k35
theorem ir_Arity_c (H : ir_Arity.p0 R x0 s) : C Pg F.ir_Arity [x0] s R := PtC.c H k35 ⟨rfl, trivial⟩
namespace ir_loopVars
def st : Stops := ⟨[(1, [0])], []⟩
def p0 R x0 s := PtC Pg c170 1 R [(0, x0)] s
theorem p0_s (H : WF s → bo (Am.bin .sub x0 (.int .i64 1)) fun y1 => bo (Am.bin .quo y1 (.int .i64 2)) fun y2 => R y2 s) : p0 R x0 s := stC st (fun _ => by kernel_rfl) H
end ir_loopVars
theorem ir_loopVars_k : Compiled Pg F.ir_loopVars c170 := k170
theorem ir_loopVars_c (H : ir_loopVars.p0 R x0 s) : C Pg F.ir_loopVars [x0] s R := PtC.c H k170 ⟨rfl, trivial⟩
namespace ir_validImm
def st : Stops := ⟨[(1, [0, 1]), (15, [3, 5]), (7551, [0, 3, 5, 7, 14])], []⟩
def p0 R x0 x1 s := PtC Pg c168 1 R [(0, x0), (1, x1)] s
def p1 R x3 x5 s := PtC Pg c168 15 R [(3, x3), (5, x5)] s
def p2 R x0 x3 x5 x7 x14 s := PtC Pg c168 7551 R [(0, x0), (3, x3), (5, x5), (7, x7), (14, x14)] s
theorem p0_s (H : WF s → bn s (nBox x1) fun y1 s2 => bo (vFaddr 0 y1) fun y3 => bo (loadAt s2.h none y3) fun y4 => bo (Am.bin .eql y4 (.int .i64 1)) fun y5 => br y5 (R (.bool true) s2) (bo (Am.bin .eql y4 (.int .i64 2)) fun y6 => br y6 (p1 R y1 (.int .i64 5) s2) (bo (Am.bin .eql y4 (.int .i64 3)) fun y7 => br y7 (p1 R y1 (.int .i64 255) s2) (bo (Am.bin .eql y4 (.int .i64 23)) fun y8 => br y8 (p2 R x0 y1 (.int .i64 0) y4 y8 s2) (bo (Am.bin .eql y4 (.int .i64 28)) fun y9 => p2 R x0 y1 (.int .i64 0) y4 y9 s2))))) : p0 R x0 x1 s := stC st (fun _ => by kernel_rfl) H
theorem p1_s (H : WF s → bo (vFaddr 1 x3) fun y1 => bo (loadAt s.h none y1) fun y2 => bo (Am.bin .geq y2 (.int .i64 0)) fun y3 => br y3 (bo (vFaddr 1 x3) fun y4 => bo (loadAt s.h none y4) fun y5 => bo (Am.bin .leq y5 x5) fun y6 => R y6 s) (R (.bool false) s)) : p1 R x3 x5 s := stC st (fun _ => by kernel_rfl) H
theorem p2_s (H : WF s → br x14 (p1 R x3 (.int .i64 3) s) (bo (Am.bin .eql x7 (.int .i64 27)) fun y1 => br y1 (bo (vFaddr 1 x3) fun y2 => bo (loadAt s.h none y2) fun y3 => bo (Am.bin .geq y3 (.int .i64 1)) fun y4 => br y4 (bo (vFaddr 1 x3) fun y5 => bo (loadAt s.h none y5) fun y6 => bo (Am.bin .leq y6 (.int .i64 1000016)) fun y7 => R y7 s) (R (.bool false) s)) (bo (Am.bin .eql x7 (.int .i64 30)) fun y8 => br y8 (p1 R x3 (.int .i64 7) s) (bo (Am.bin .eql x7 (.int .i64 31)) fun y9 => br y9 (p1 R x3 (.int .i64 15) s) (bo (Am.bin .eql x7 (.int .i64 25)) fun y10 => br y10 (bo (vFaddr 2 x3) fun y11 => bo (loadAt s.h none y11) fun y12 => bo (vIaddr 1 y12 (.int .i64 0)) fun y13 => bo (loadAt s.h none y13) fun y14 => bo (vIaddr 3 x0 y14) fun y15 => bo (vFaddr 2 y15) fun y16 => bo (loadAt s.h none y16) fun y17 => bo (vLen y17) fun y18 => C Pg F.ir_loopVars [y18] s fun y19 s20 => bo (Am.bin .sub y19 (.int .i64 1)) fun y21 => p1 R x3 y21 s20) (p1 R x3 x5 s)))))) : p2 R x0 x3 x5 x7 x14 s := stC st (fun _ => by kernel_rfl) H
end ir_validImm
theorem ir_validImm_k : Compiled Pg F.ir_validImm c168 := k168
theorem ir_validImm_c (H : ir_validImm.p0 R x0 x1 s) : C Pg F.ir_validImm [x0, x1] s R := PtC.c H k168 ⟨rfl, rfl, trivial⟩
namespace ir_operandSorts
def st : Stops := ⟨[(1, [0]), (215, [3, 7])], []⟩
def p0 R x0 s := PtC Pg c195 1 R [(0, x0)] s
def p1 R x3 x7 s := PtC Pg c195 215 R [(3, x3), (7, x7)] s
theorem p0_s (H : WF s → bo (Am.bin .eql x0 (.int .i64 22)) fun y1 => br y1 (bn s (nBslice [(.int .i64 0), (.int .i64 0), (.int .i64 0)] 3 1 [(0, (.int .i64 1)), (1, (.int .i64 1)), (2, (.int .i64 1))]) fun y2 s3 => R y2 s3) (bo (Am.bin .eql x0 (.int .i64 23)) fun y4 => br y4 (p1 R x0 y4 s) (bo (Am.bin .eql x0 (.int .i64 27)) fun y5 => br y5 (p1 R x0 y5 s) (bo (Am.bin .eql x0 (.int .i64 29)) fun y6 => p1 R x0 y6 s)))) : p0 R x0 s := stC st (fun _ => by kernel_rfl) H
theorem p1_s (H : WF s → br x7 (bn s (nBslice [(.int .i64 0), (.int .i64 0)] 2 1 [(0, (.int .i64 2)), (1, (.int .i64 1))]) fun y1 s2 => R y1 s2) (bo (Am.bin .eql x3 (.int .i64 28)) fun y3 => br y3 (bn s (nBslice [(.int .i64 0), (.int .i64 0), (.int .i64 0)] 3 1 [(0, (.int .i64 2)), (1, (.int .i64 1)), (2, (.int .i64 1))]) fun y4 s5 => R y4 s5) (bo (Am.bin .eql x3 (.int .i64 24)) fun y6 => br y6 (bn s (nBslice [(.int .i64 0)] 1 1 [(0, (.int .i64 2))]) fun y7 s8 => R y7 s8) (bo (Am.bin .eql x3 (.int .i64 25)) fun y9 => br y9 (bn s (nBslice [(.int .i64 0)] 1 1 [(0, (.int .i64 3))]) fun y10 s11 => R y10 s11) (bn s (nBslice [(.int .i64 0), (.int .i64 0)] 2 1 [(0, (.int .i64 1)), (1, (.int .i64 1))]) fun y12 s13 => R y12 s13))))) : p1 R x3 x7 s := stC st (fun _ => by kernel_rfl) H
end ir_operandSorts
theorem ir_operandSorts_k : Compiled Pg F.ir_operandSorts c195 := k195
theorem ir_operandSorts_c (H : ir_operandSorts.p0 R x0 s) : C Pg F.ir_operandSorts [x0] s R := PtC.c H k195 ⟨rfl, trivial⟩
namespace ir_match
def st : Stops := ⟨[(1, [0, 1]), (26, [0, 1, 5])], []⟩
def p0 R x0 x1 s := PtC Pg c193 1 R [(0, x0), (1, x1)] s
def p1 R x0 x1 x5 s := PtC Pg c193 26 R [(0, x0), (1, x1), (5, x5)] s
theorem p0_s (H : WF s → p1 R x0 x1 (.int .i64 0) s) : p0 R x0 x1 s := stC st (fun _ => by kernel_rfl) H
theorem p1_s (H : WF s → bo (vLen x0) fun y1 => bo (Am.bin .lss x5 y1) fun y2 => br y2 (bo (vIaddr 1 x0 x5) fun y3 => bo (loadAt s.h none y3) fun y4 => bo (vIaddr 1 x1 x5) fun y5 => bo (loadAt s.h none y5) fun y6 => bo (Am.bin .neq y4 y6) fun y7 => br y7 (R (.bool false) s) (bo (Am.bin .add x5 (.int .i64 1)) fun y8 => p1 R x0 x1 y8 s)) (R (.bool true) s)) : p1 R x0 x1 x5 s := stC st (fun _ => by kernel_rfl) H
end ir_match
theorem ir_match_k : Compiled Pg F.ir_match c193 := k193
theorem ir_match_c (H : ir_match.p0 R x0 x1 s) : C Pg F.ir_match [x0, x1] s R := PtC.c H k193 ⟨rfl, rfl, trivial⟩
namespace ir_loopSorts
def st : Stops := ⟨[(1, [0]), (58, [0, 3, 4])], []⟩
def p0 R x0 s := PtC Pg c194 1 R [(0, x0)] s
def p1 R x0 x3 x4 s := PtC Pg c194 58 R [(0, x0), (3, x3), (4, x4)] s
theorem p0_s (H : WF s → p1 R x0 .nils (.int .i64 0) s) : p0 R x0 s := stC st (fun _ => by kernel_rfl) H
theorem p1_s (H : WF s → bo (Am.bin .lss x4 x0) fun y1 => br y1 (bn s (nBslice [(.int .i64 0)] 1 1 [(0, (.int .i64 1))]) fun y2 s3 => bs (vAppend s3 1 8 x3 y2) fun y4 s5 => bo (Am.bin .add x4 (.int .i64 1)) fun y6 => p1 R x0 y4 y6 s5) (C Pg F.ir_loopVars [x0] s fun y7 s8 => bo (Am.bin .add y7 (.int .i64 1)) fun y9 => bo (vIaddr 1 x3 (.int .i64 0)) fun y10 => bs (vStore s8 1 y10 (.int .i64 2)) fun _ s11 => bo (vIaddr 1 x3 y9) fun y12 => bs (vStore s11 1 y12 (.int .i64 2)) fun _ s13 => R x3 s13)) : p1 R x0 x3 x4 s := stC st (fun _ => by kernel_rfl) H
end ir_loopSorts
theorem ir_loopSorts_k : Compiled Pg F.ir_loopSorts c194 := k194
theorem ir_loopSorts_c (H : ir_loopSorts.p0 R x0 s) : C Pg F.ir_loopSorts [x0] s R := PtC.c H k194 ⟨rfl, trivial⟩
namespace ir_validOperands
def st : Stops := ⟨[(1, [0, 1]), (29, [1, 2, 26]), (3897, [1, 70]), (15594, [72, 73, 74])], [(28, 6, [1, 2, 5, 17, 20]), (28, 10, [1, 2, 17, 20, 24]), (484, 9, [1, 39]), (3896, 8, [1, 64]), (1950, 9, [1, 2, 90]), (484, 15, [1, 45])]⟩
def p0 R x0 x1 s := PtC Pg c167 1 R [(0, x0), (1, x1)] s
def p1 R x1 x2 x5 x17 x20 s := PtO Pg c167 28 6 R [(1, x1), (2, x2), (5, x5), (17, x17), (20, x20)] s
def p2 R x1 x2 x17 x20 x24 s := PtO Pg c167 28 10 R [(1, x1), (2, x2), (17, x17), (20, x20), (24, x24)] s
def p3 R x1 x2 x26 s := PtC Pg c167 29 R [(1, x1), (2, x2), (26, x26)] s
def p4 R x1 x39 s := PtO Pg c167 484 9 R [(1, x1), (39, x39)] s
def p5 R x1 x64 s := PtO Pg c167 3896 8 R [(1, x1), (64, x64)] s
def p6 R x1 x2 x90 s := PtO Pg c167 1950 9 R [(1, x1), (2, x2), (90, x90)] s
def p7 R x1 x70 s := PtC Pg c167 3897 R [(1, x1), (70, x70)] s
def p8 R x72 x73 x74 s := PtC Pg c167 15594 R [(72, x72), (73, x73), (74, x74)] s
def p9 R x1 x45 s := PtO Pg c167 484 15 R [(1, x1), (45, x45)] s
theorem p0_s (H : WF s → bn s (nBox x0) fun y1 s2 => bo (vFaddr 0 y1) fun y3 => bo (loadAt s2.h none y3) fun y4 => C Pg F.ir_Arity [y4] s2 fun y5 s6 => bo (vExtract y5 0) fun y7 => bo (vExtract y5 1) fun y8 => bo (Am.un .not y8) fun y9 => gF y9 (bo (Am.bin .geq y7 (.int .i64 0)) fun y10 => p1 R x1 y1 y7 y9 y10 s6) (p1 R x1 y1 y7 y9 .undef s6)) : p0 R x0 x1 s := stC st (fun _ => by kernel_rfl) H
theorem p1_s (H : WF s → gT x20 (bo (vLen x1) fun y1 => bo (Am.bin .neq x5 y1) fun y2 => p2 R x1 x2 x17 x20 y2 s) (p2 R x1 x2 x17 x20 .undef s)) : p1 R x1 x2 x5 x17 x20 s := stO st (fun _ => by kernel_rfl) H
theorem p2_s (H : WF s → br x17 (p3 R x1 x2 (.bool true) s) (bo (vPick x20 x24 (.bool false)) fun y1 => p3 R x1 x2 y1 s)) : p2 R x1 x2 x17 x20 x24 s := stO st (fun _ => by kernel_rfl) H
theorem p3_s (H : WF s → br x26 (R (.bool false) s) (bo (vFaddr 0 x2) fun y1 => bo (loadAt s.h none y1) fun y2 => bo (Am.bin .eql y2 (.int .i64 31)) fun y3 => br y3 (bo (vLen x1) fun y4 => bo (Am.bin .geq y4 (.int .i64 3)) fun y5 => br y5 (bo (vLen x1) fun y6 => bo (Am.bin .rem y6 (.int .i64 2)) fun y7 => bo (Am.bin .eql y7 (.int .i64 1)) fun y8 => p4 R x1 y8 s) (p4 R x1 (.bool false) s)) (bo (vFaddr 0 x2) fun y9 => bo (loadAt s.h none y9) fun y10 => bo (Am.bin .eql y10 (.int .i64 30)) fun y11 => br y11 (bo (vLen x1) fun y12 => bo (Am.bin .lss y12 (.int .i64 1)) fun y13 => br y13 (p5 R x1 (.bool true) s) (bo (vLen x1) fun y14 => bo (Am.bin .gtr y14 (.int .i64 7)) fun y15 => p5 R x1 y15 s)) (bo (vFaddr 0 x2) fun y16 => bo (loadAt s.h none y16) fun y17 => bo (Am.bin .eql y17 (.int .i64 22)) fun y18 => br y18 (bo (vIaddr 1 x1 (.int .i64 1)) fun y19 => bo (loadAt s.h none y19) fun y20 => bo (Am.bin .eql y20 (.int .i64 2)) fun y21 => p6 R x1 x2 y21 s) (p6 R x1 x2 (.bool false) s))))) : p3 R x1 x2 x26 s := stC st (fun _ => by kernel_rfl) H
theorem p4_s (H : WF s → br x39 (bo (vLen x1) fun y1 => C Pg F.ir_loopVars [y1] s fun y2 s3 => bo (Am.bin .leq y2 (.int .i64 16)) fun y4 => p9 R x1 y4 s3) (p9 R x1 (.bool false) s)) : p4 R x1 x39 s := stO st (fun _ => by kernel_rfl) H
theorem p5_s (H : WF s → br x64 (p7 R x1 (.bool true) s) (bo (vIaddr 1 x1 (.int .i64 0)) fun y1 => bo (loadAt s.h none y1) fun y2 => bo (Am.bin .neq y2 (.int .i64 2)) fun y3 => p7 R x1 y3 s)) : p5 R x1 x64 s := stO st (fun _ => by kernel_rfl) H
theorem p6_s (H : WF s → br x90 (bo (vIaddr 1 x1 (.int .i64 0)) fun y1 => bo (loadAt s.h none y1) fun y2 => bo (Am.bin .eql y2 (.int .i64 1)) fun y3 => br y3 (bo (vIaddr 1 x1 (.int .i64 2)) fun y4 => bo (loadAt s.h none y4) fun y5 => bo (Am.bin .eql y5 (.int .i64 2)) fun y6 => R y6 s) (R (.bool false) s)) (bo (vFaddr 0 x2) fun y7 => bo (loadAt s.h none y7) fun y8 => C Pg F.ir_operandSorts [y8] s fun y9 s10 => C Pg F.ir_match [x1, y9] s10 fun y11 s12 => R y11 s12)) : p6 R x1 x2 x90 s := stO st (fun _ => by kernel_rfl) H
theorem p7_s (H : WF s → br x70 (R (.bool false) s) (bo (vSlice 1 x1 (some (.int .i64 1)) none) fun y1 => bo (vLen y1) fun y2 => p8 R y1 y2 (.int .i64 0) s)) : p7 R x1 x70 s := stC st (fun _ => by kernel_rfl) H
theorem p8_s (H : WF s → bo (Am.bin .lss x74 x73) fun y1 => br y1 (bo (vIaddr 1 x72 x74) fun y2 => bo (loadAt s.h none y2) fun y3 => bo (Am.bin .neq y3 (.int .i64 1)) fun y4 => br y4 (R (.bool false) s) (bo (Am.bin .add x74 (.int .i64 1)) fun y5 => p8 R x72 x73 y5 s)) (R (.bool true) s)) : p8 R x72 x73 x74 s := stC st (fun _ => by kernel_rfl) H
theorem p9_s (H : WF s → br x45 (bo (vLen x1) fun y1 => C Pg F.ir_loopSorts [y1] s fun y2 s3 => C Pg F.ir_match [x1, y2] s3 fun y4 s5 => R y4 s5) (R (.bool false) s)) : p9 R x1 x45 s := stO st (fun _ => by kernel_rfl) H
end ir_validOperands
theorem ir_validOperands_k : Compiled Pg F.ir_validOperands c167 := k167
theorem ir_validOperands_c (H : ir_validOperands.p0 R x0 x1 s) : C Pg F.ir_validOperands [x0, x1] s R := PtC.c H k167 ⟨rfl, rfl, trivial⟩
namespace ir_sortOf
def st : Stops := ⟨[(1, [0, 1, 2]), (122, [0, 1, 2, 7, 8, 16, 17, 18]), (125, [7, 8, 53]), (4055, [7, 8, 55, 58]), (31333, [0, 1, 2, 7, 8, 10, 16, 17, 18, 35])], [(31332, 7, [0, 1, 2, 7, 8, 10, 16, 17, 18, 28])]⟩
def p0 R x0 x1 x2 s := PtC Pg c117 1 R [(0, x0), (1, x1), (2, x2)] s
def p1 R x0 x1 x2 x7 x8 x16 x17 x18 s := PtC Pg c117 122 R [(0, x0), (1, x1), (2, x2), (7, x7), (8, x8), (16, x16), (17, x17), (18, x18)] s
def p2 R x7 x8 x53 s := PtC Pg c117 125 R [(7, x7), (8, x8), (53, x53)] s
def p3 R x7 x8 x55 x58 s := PtC Pg c117 4055 R [(7, x7), (8, x8), (55, x55), (58, x58)] s
def p4 R x0 x1 x2 x7 x8 x10 x16 x17 x18 x28 s := PtO Pg c117 31332 7 R [(0, x0), (1, x1), (2, x2), (7, x7), (8, x8), (10, x10), (16, x16), (17, x17), (18, x18), (28, x28)] s
def p5 R x0 x1 x2 x7 x8 x10 x16 x17 x18 x35 s := PtC Pg c117 31333 R [(0, x0), (1, x1), (2, x2), (7, x7), (8, x8), (10, x10), (16, x16), (17, x17), (18, x18), (35, x35)] s
theorem p0_s (H : WF s → bo (vIaddr 3 x0 x1) fun y1 => bo (loadAt s.h (some 3) y1) fun y2 => bn s (nBox (.agg [(.int .i64 0), (.int .i64 0), .nils])) fun y3 s4 => bs (vStore s4 3 y3 y2) fun _ s5 => bo (vFaddr 2 y3) fun y6 => bo (loadAt s5.h none y6) fun y7 => bo (vLen y7) fun y8 => p1 R x0 x1 x2 y3 .nils y7 y8 (.int .i64 0) s5) : p0 R x0 x1 x2 s := stC st (fun _ => by kernel_rfl) H
theorem p1_s (H : WF s → bo (Am.bin .lss x18 x17) fun y1 => br y1 (bo (vIaddr 1 x16 x18) fun y2 => bo (loadAt s.h none y2) fun y3 => bo (Am.bin .lss y3 (.int .i64 0)) fun y4 => br y4 (p4 R x0 x1 x2 x7 x8 y3 x16 x17 x18 (.bool true) s) (bo (Am.bin .geq y3 x1) fun y5 => p4 R x0 x1 x2 x7 x8 y3 x16 x17 x18 y5 s)) (bo (loadAt s.h (some 3) x7) fun y6 => C Pg F.ir_validOperands [y6, x8] s fun y7 s8 => bo (Am.un .not y7) fun y9 => br y9 (p2 R x7 x8 (.bool true) s8) (bo (loadAt s8.h (some 3) x7) fun y10 => C Pg F.ir_validImm [x0, y10] s8 fun y11 s12 => bo (Am.un .not y11) fun y13 => p2 R x7 x8 y13 s12))) : p1 R x0 x1 x2 x7 x8 x16 x17 x18 s := stC st (fun _ => by kernel_rfl) H
theorem p2_s (H : WF s → br x53 (R (.int .i64 0) s) (bo (vFaddr 0 x7) fun y1 => bo (loadAt s.h none y1) fun y2 => bo (Am.bin .eql y2 (.int .i64 31)) fun y3 => br y3 (R (.int .i64 3) s) (bo (Am.bin .eql y2 (.int .i64 26)) fun y4 => br y4 (p3 R x7 x8 y2 y4 s) (bo (Am.bin .eql y2 (.int .i64 27)) fun y5 => br y5 (p3 R x7 x8 y2 y5 s) (bo (Am.bin .eql y2 (.int .i64 28)) fun y6 => br y6 (p3 R x7 x8 y2 y6 s) (bo (Am.bin .eql y2 (.int .i64 29)) fun y7 => br y7 (p3 R x7 x8 y2 y7 s) (bo (Am.bin .eql y2 (.int .i64 30)) fun y8 => p3 R x7 x8 y2 y8 s))))))) : p2 R x7 x8 x53 s := stC st (fun _ => by kernel_rfl) H
theorem p3_s (H : WF s → br x58 (R (.int .i64 2) s) (bo (Am.bin .eql x55 (.int .i64 22)) fun y1 => br y1 (bo (vIaddr 1 x8 (.int .i64 1)) fun y2 => bo (loadAt s.h none y2) fun y3 => R y3 s) (bo (Am.bin .eql x55 (.int .i64 3)) fun y4 => br y4 (bo (vFaddr 1 x7) fun y5 => bo (loadAt s.h none y5) fun y6 => bo (Am.bin .rem y6 (.int .i64 16)) fun y7 => bo (Am.bin .eql y7 (.int .i64 0)) fun y8 => br y8 (R (.int .i64 2) s) (R (.int .i64 1) s)) (bo (Am.bin .eql x55 (.int .i64 25)) fun y9 => br y9 (bo (vFaddr 1 x7) fun y10 => bo (loadAt s.h none y10) fun y11 => bo (Am.bin .eql y11 (.int .i64 0)) fun y12 => br y12 (R (.int .i64 2) s) (R (.int .i64 1) s)) (R (.int .i64 1) s))))) : p3 R x7 x8 x55 x58 s := stC st (fun _ => by kernel_rfl) H
theorem p4_s (H : WF s → br x28 (p5 R x0 x1 x2 x7 x8 x10 x16 x17 x18 (.bool true) s) (bo (vIaddr 1 x2 x10) fun y1 => bo (loadAt s.h none y1) fun y2 => bo (Am.bin .eql y2 (.int .i64 0)) fun y3 => p5 R x0 x1 x2 x7 x8 x10 x16 x17 x18 y3 s)) : p4 R x0 x1 x2 x7 x8 x10 x16 x17 x18 x28 s := stO st (fun _ => by kernel_rfl) H
theorem p5_s (H : WF s → br x35 (R (.int .i64 0) s) (bo (vIaddr 1 x2 x10) fun y1 => bo (loadAt s.h none y1) fun y2 => bn s (nBslice [(.int .i64 0)] 1 1 [(0, y2)]) fun y3 s4 => bs (vAppend s4 1 8 x8 y3) fun y5 s6 => bo (Am.bin .add x18 (.int .i64 1)) fun y7 => p1 R x0 x1 x2 x7 y5 x16 x17 y7 s6)) : p5 R x0 x1 x2 x7 x8 x10 x16 x17 x18 x35 s := stC st (fun _ => by kernel_rfl) H
end ir_sortOf
theorem ir_sortOf_k : Compiled Pg F.ir_sortOf c117 := k117
theorem ir_sortOf_c (H : ir_sortOf.p0 R x0 x1 x2 s) : C Pg F.ir_sortOf [x0, x1, x2] s R := PtC.c H k117 ⟨rfl, rfl, rfl, trivial⟩
namespace ir_sorts
def st : Stops := ⟨[(1, [0]), (58, [0, 3, 9, 10])], []⟩
def p0 R x0 s := PtC Pg c69 1 R [(0, x0)] s
def p1 R x0 x3 x9 x10 s := PtC Pg c69 58 R [(0, x0), (3, x3), (9, x9), (10, x10)] s
theorem p0_s (H : WF s → bo (vLen x0) fun y1 => bn s (nSlice [(.int .i64 0)] 8 y1 y1) fun y2 s3 => bo (vLen x0) fun y4 => p1 R x0 y2 y4 (.int .i64 0) s3) : p0 R x0 s := stC st (fun _ => by kernel_rfl) H
theorem p1_s (H : WF s → bo (Am.bin .lss x10 x9) fun y1 => br y1 (C Pg F.ir_sortOf [x0, x10, x3] s fun y2 s3 => bo (vIaddr 1 x3 x10) fun y4 => bs (vStore s3 1 y4 y2) fun _ s5 => bo (Am.bin .add x10 (.int .i64 1)) fun y6 => p1 R x0 x3 x9 y6 s5) (R x3 s)) : p1 R x0 x3 x9 x10 s := stC st (fun _ => by kernel_rfl) H
end ir_sorts
theorem ir_sorts_k : Compiled Pg F.ir_sorts c69 := k69
theorem ir_sorts_c (H : ir_sorts.p0 R x0 s) : C Pg F.ir_sorts [x0] s R := PtC.c H k69 ⟨rfl, trivial⟩
namespace ir_Sort
def st : Stops := ⟨[(1, [0, 1]), (13, [0, 1, 12])], []⟩
def p0 R x0 x1 s := PtC Pg c30 1 R [(0, x0), (1, x1)] s
def p1 R x0 x1 x12 s := PtC Pg c30 13 R [(0, x0), (1, x1), (12, x12)] s
theorem p0_s (H : WF s → bo (Am.bin .lss x1 (.int .i64 0)) fun y1 => br y1 (p1 R x0 x1 (.bool true) s) (bo (vLen x0) fun y2 => bo (Am.bin .geq x1 y2) fun y3 => p1 R x0 x1 y3 s)) : p0 R x0 x1 s := stC st (fun _ => by kernel_rfl) H
theorem p1_s (H : WF s → br x12 (R (.int .i64 0) s) (bo (Am.bin .add x1 (.int .i64 1)) fun y1 => bo (vSlice 3 x0 none (some y1)) fun y2 => C Pg F.ir_sorts [y2] s fun y3 s4 => bo (vIaddr 1 y3 x1) fun y5 => bo (loadAt s4.h none y5) fun y6 => R y6 s4)) : p1 R x0 x1 x12 s := stC st (fun _ => by kernel_rfl) H
end ir_Sort
namespace ir_Dependencies
def st : Stops := ⟨[(1, [0, 1]), (506, [0, 5, 6, 7]), (2042, [5, 10, 51, 52]), (32679, [5, 10, 51, 52]), (4051, [0, 5, 6, 7]), (129614, [0, 5, 6, 7, 38, 39, 40])], []⟩
def p0 R x0 x1 s := PtC Pg c33 1 R [(0, x0), (1, x1)] s
def p1 R x0 x5 x6 x7 s := PtC Pg c33 506 R [(0, x0), (5, x5), (6, x6), (7, x7)] s
def p2 R x5 x10 x51 x52 s := PtC Pg c33 2042 R [(5, x5), (10, x10), (51, x51), (52, x52)] s
def p3 R x5 x10 x51 x52 s := PtC Pg c33 32679 R [(5, x5), (10, x10), (51, x51), (52, x52)] s
def p4 R x0 x5 x6 x7 s := PtC Pg c33 4051 R [(0, x0), (5, x5), (6, x6), (7, x7)] s
def p5 R x0 x5 x6 x7 x38 x39 x40 s := PtC Pg c33 129614 R [(0, x0), (5, x5), (6, x6), (7, x7), (38, x38), (39, x39), (40, x40)] s
theorem p0_s (H : WF s → C Pg F.ir_Sort [x0, x1] s fun y1 s2 => bo (Am.bin .eql y1 (.int .i64 0)) fun y3 => br y3 (R .nils s2) (bo (Am.bin .add x1 (.int .i64 1)) fun y4 => bn s2 (nSlice [(.bool false)] 1 y4 y4) fun y5 s6 => bo (vIaddr 1 y5 x1) fun y7 => bs (vStore s6 1 y7 (.bool true)) fun _ s8 => p1 R x0 y5 (.int .i64 0) x1 s8)) : p0 R x0 x1 s := stC st (fun _ => by kernel_rfl) H
theorem p1_s (H : WF s → bo (Am.bin .geq x7 (.int .i64 0)) fun y1 => br y1 (bo (vIaddr 1 x5 x7) fun y2 => bo (loadAt s.h none y2) fun y3 => bo (Am.un .not y3) fun y4 => br y4 (p4 R x0 x5 x6 x7 s) (bo (Am.bin .add x6 (.int .i64 1)) fun y5 => bo (vIaddr 3 x0 x7) fun y6 => bo (vFaddr 2 y6) fun y7 => bo (loadAt s.h none y7) fun y8 => bo (vLen y8) fun y9 => p5 R x0 x5 y5 x7 y8 y9 (.int .i64 0) s)) (bn s (nSlice [(.int .i64 0)] 8 (.int .i64 0) x6) fun y10 s11 => bo (vLen x5) fun y12 => p2 R x5 y10 y12 (.int .i64 0) s11)) : p1 R x0 x5 x6 x7 s := stC st (fun _ => by kernel_rfl) H
theorem p2_s (H : WF s → bo (Am.bin .lss x52 x51) fun y1 => br y1 (bo (vIaddr 1 x5 x52) fun y2 => bo (loadAt s.h none y2) fun y3 => br y3 (bn s (nBslice [(.int .i64 0)] 1 1 [(0, x52)]) fun y4 s5 => bs (vAppend s5 1 8 x10 y4) fun y6 s7 => p3 R x5 y6 x51 x52 s7) (p3 R x5 x10 x51 x52 s)) (R x10 s)) : p2 R x5 x10 x51 x52 s := stC st (fun _ => by kernel_rfl) H
theorem p3_s (H : WF s → bo (Am.bin .add x52 (.int .i64 1)) fun y1 => p2 R x5 x10 x51 y1 s) : p3 R x5 x10 x51 x52 s := stC st (fun _ => by kernel_rfl) H
theorem p4_s (H : WF s → bo (Am.bin .sub x7 (.int .i64 1)) fun y1 => p1 R x0 x5 x6 y1 s) : p4 R x0 x5 x6 x7 s := stC st (fun _ => by kernel_rfl) H
theorem p5_s (H : WF s → bo (Am.bin .lss x40 x39) fun y1 => br y1 (bo (vIaddr 1 x38 x40) fun y2 => bo (loadAt s.h none y2) fun y3 => bo (vIaddr 1 x5 y3) fun y4 => bs (vStore s 1 y4 (.bool true)) fun _ s5 => bo (Am.bin .add x40 (.int .i64 1)) fun y6 => p5 R x0 x5 x6 x7 x38 x39 y6 s5) (p4 R x0 x5 x6 x7 s)) : p5 R x0 x5 x6 x7 x38 x39 x40 s := stC st (fun _ => by kernel_rfl) H
end ir_Dependencies
end Go.Am.YtmjaimpkjjkliaaGreat
