/- How 'simp' steps through the abstract machine over this seat's context: written by genk.py. -/
import Derived.Test.YtdapcelbbejfoaaMCtx
import Derived.Test.YtdapcelbbejfoaaMAns
import Derived.Test.YtdapcelbbejfoaaMFast
import Derived.KernelRfl
set_option maxRecDepth 100000
namespace Go.Am.Try
open Go
theorem ti2 : ctx.ti 2 = some ⟨.int .i64,1,8,.int .i64 0,[.int .i64]⟩ := by rfl
theorem ti3 : ctx.ti 3 = some ⟨.int .i64,1,8,.int .i64 0,[.int .i64]⟩ := by rfl
theorem ti4 : ctx.ti 4 = some ⟨.bool,1,1,.bool false,[.bool]⟩ := by rfl
theorem ti5 : ctx.ti 5 = some ⟨.int .u8,1,1,.int .u8 0,[.int .u8]⟩ := by rfl
theorem ti6 : ctx.ti 6 = some ⟨.int .u8,1,1,.int .u8 0,[.int .u8]⟩ := by rfl
theorem ti7 : ctx.ti 7 = some ⟨.strct [(0,2),(1,3),(2,4),(3,6)],4,24,.agg [.int .i64 0,.int .i64 0,.bool false,.int .u8 0],[]⟩ := by rfl
theorem ti8 : ctx.ti 8 = some ⟨.strct [(0,2),(1,3),(2,4),(3,6)],4,24,.agg [.int .i64 0,.int .i64 0,.bool false,.int .u8 0],[]⟩ := by rfl
theorem ti9 : ctx.ti 9 = some ⟨.str,1,16,.str [],[.str]⟩ := by rfl
theorem ti10 : ctx.ti 10 = some ⟨.str,1,16,.str [],[.str]⟩ := by rfl
theorem ti11 : ctx.ti 11 = some ⟨.str,1,16,.str [],[.str]⟩ := by rfl
theorem ti12 : ctx.ti 12 = some ⟨.int .u64,1,8,.int .u64 0,[.int .u64]⟩ := by rfl
theorem ti13 : ctx.ti 13 = some ⟨.strct [(0,9),(1,12)],2,24,.agg [.str [],.int .u64 0],[]⟩ := by rfl
theorem ti14 : ctx.ti 14 = some ⟨.strct [(0,9),(1,12)],2,24,.agg [.str [],.int .u64 0],[]⟩ := by rfl
theorem ti15 : ctx.ti 15 = some ⟨.ptr,1,8,.nilp,[]⟩ := by rfl
theorem ti16 : ctx.ti 16 = some ⟨.ptr,1,8,.nilp,[]⟩ := by rfl
theorem ti17 : ctx.ti 17 = some ⟨.ptr,1,8,.nilp,[]⟩ := by rfl
theorem ti18 : ctx.ti 18 = some ⟨.strct [(0,17)],1,8,.agg [.nilp],[]⟩ := by rfl
theorem ti19 : ctx.ti 19 = some ⟨.strct [(0,17)],1,8,.agg [.nilp],[]⟩ := by rfl
theorem ti21 : ctx.ti 21 = some ⟨.int .i32,1,4,.int .i32 0,[.int .i32]⟩ := by rfl
theorem ti22 : ctx.ti 22 = some ⟨.slice 5,1,24,.nil,[]⟩ := by rfl
theorem ti24 : ctx.ti 24 = some ⟨.slice 61,1,24,.nil,[]⟩ := by rfl
theorem ti25 : ctx.ti 25 = some ⟨.slice 37,1,24,.nil,[]⟩ := by rfl
theorem ti26 : ctx.ti 26 = some ⟨.strct [(0,24),(1,25)],2,48,.agg [.nil,.nil],[]⟩ := by rfl
theorem ti27 : ctx.ti 27 = some ⟨.strct [(0,24),(1,25)],2,48,.agg [.nil,.nil],[]⟩ := by rfl
theorem ti28 : ctx.ti 28 = some ⟨.strct [(0,27),(2,3),(3,3)],4,64,.agg [.nil,.nil,.int .i64 0,.int .i64 0],[]⟩ := by rfl
theorem ti29 : ctx.ti 29 = some ⟨.strct [(0,27),(2,3),(3,3)],4,64,.agg [.nil,.nil,.int .i64 0,.int .i64 0],[]⟩ := by rfl
theorem ti32 : ctx.ti 32 = some ⟨.slice 35,1,24,.nil,[]⟩ := by rfl
theorem ti33 : ctx.ti 33 = some ⟨.slice 135,1,24,.nil,[]⟩ := by rfl
theorem ti34 : ctx.ti 34 = some ⟨.strct [(0,3),(1,3),(2,9),(3,3),(4,32),(5,33)],6,88,.agg [.int .i64 0,.int .i64 0,.str [],.int .i64 0,.nil,.nil],[]⟩ := by rfl
theorem ti35 : ctx.ti 35 = some ⟨.strct [(0,3),(1,3),(2,9),(3,3),(4,32),(5,33)],6,88,.agg [.int .i64 0,.int .i64 0,.str [],.int .i64 0,.nil,.nil],[]⟩ := by rfl
theorem ti36 : ctx.ti 36 = some ⟨.strct [(0,9),(1,3),(2,35)],8,112,.agg [.str [],.int .i64 0,.int .i64 0,.int .i64 0,.str [],.int .i64 0,.nil,.nil],[]⟩ := by rfl
theorem ti37 : ctx.ti 37 = some ⟨.strct [(0,9),(1,3),(2,35)],8,112,.agg [.str [],.int .i64 0,.int .i64 0,.int .i64 0,.str [],.int .i64 0,.nil,.nil],[]⟩ := by rfl
theorem ti38 : ctx.ti 38 = some ⟨.slice 9,1,24,.nil,[]⟩ := by rfl
theorem ti45 : ctx.ti 45 = some ⟨.slice 52,1,24,.nil,[]⟩ := by rfl
theorem ti48 : ctx.ti 48 = some ⟨.slice 22,1,24,.nil,[]⟩ := by rfl
theorem ti52 : ctx.ti 52 = some ⟨.slice 3,1,24,.nil,[]⟩ := by rfl
theorem ti54 : ctx.ti 54 = some ⟨.int .i64,1,8,.int .i64 0,[.int .i64]⟩ := by rfl
theorem ti59 : ctx.ti 59 = some ⟨.slice 64,1,24,.nil,[]⟩ := by rfl
theorem ti60 : ctx.ti 60 = some ⟨.strct [(0,9),(1,3),(2,38),(3,59)],4,72,.agg [.str [],.int .i64 0,.nil,.nil],[]⟩ := by rfl
theorem ti61 : ctx.ti 61 = some ⟨.strct [(0,9),(1,3),(2,38),(3,59)],4,72,.agg [.str [],.int .i64 0,.nil,.nil],[]⟩ := by rfl
theorem ti62 : ctx.ti 62 = some ⟨.slice 68,1,24,.nil,[]⟩ := by rfl
theorem ti63 : ctx.ti 63 = some ⟨.strct [(0,9),(1,3),(2,62)],3,48,.agg [.str [],.int .i64 0,.nil],[]⟩ := by rfl
theorem ti64 : ctx.ti 64 = some ⟨.strct [(0,9),(1,3),(2,62)],3,48,.agg [.str [],.int .i64 0,.nil],[]⟩ := by rfl
theorem ti67 : ctx.ti 67 = some ⟨.strct [(0,3),(1,3),(2,9),(3,62)],4,56,.agg [.int .i64 0,.int .i64 0,.str [],.nil],[]⟩ := by rfl
theorem ti68 : ctx.ti 68 = some ⟨.strct [(0,3),(1,3),(2,9),(3,62)],4,56,.agg [.int .i64 0,.int .i64 0,.str [],.nil],[]⟩ := by rfl
theorem ti73 : ctx.ti 73 = some ⟨.strct [(0,3),(1,3)],2,16,.agg [.int .i64 0,.int .i64 0],[]⟩ := by rfl
theorem ti74 : ctx.ti 74 = some ⟨.strct [(0,3),(1,3)],2,16,.agg [.int .i64 0,.int .i64 0],[]⟩ := by rfl
theorem ti79 : ctx.ti 79 = some ⟨.slice 88,1,24,.nil,[]⟩ := by rfl
theorem ti80 : ctx.ti 80 = some ⟨.strct [(0,79),(1,3),(2,3)],3,40,.agg [.nil,.int .i64 0,.int .i64 0],[]⟩ := by rfl
theorem ti81 : ctx.ti 81 = some ⟨.strct [(0,79),(1,3),(2,3)],3,40,.agg [.nil,.int .i64 0,.int .i64 0],[]⟩ := by rfl
theorem ti83 : ctx.ti 83 = some ⟨.ptr,1,8,.nilp,[]⟩ := by rfl
theorem ti84 : ctx.ti 84 = some ⟨.strct [(0,79),(1,3),(2,3),(3,4),(4,3)],5,56,.agg [.nil,.int .i64 0,.int .i64 0,.bool false,.int .i64 0],[]⟩ := by rfl
theorem ti85 : ctx.ti 85 = some ⟨.strct [(0,79),(1,3),(2,3),(3,4),(4,3)],5,56,.agg [.nil,.int .i64 0,.int .i64 0,.bool false,.int .i64 0],[]⟩ := by rfl
theorem ti87 : ctx.ti 87 = some ⟨.strct [(0,3),(1,3),(2,9),(3,3)],4,40,.agg [.int .i64 0,.int .i64 0,.str [],.int .i64 0],[]⟩ := by rfl
theorem ti88 : ctx.ti 88 = some ⟨.strct [(0,3),(1,3),(2,9),(3,3)],4,40,.agg [.int .i64 0,.int .i64 0,.str [],.int .i64 0],[]⟩ := by rfl
theorem ti97 : ctx.ti 97 = some ⟨.ptr,1,8,.nilp,[]⟩ := by rfl
theorem ti98 : ctx.ti 98 = some ⟨.map 140 3,1,8,.nilm,[]⟩ := by rfl
theorem ti99 : ctx.ti 99 = some ⟨.strct [(0,98),(1,38)],2,32,.agg [.nilm,.nil],[]⟩ := by rfl
theorem ti100 : ctx.ti 100 = some ⟨.strct [(0,98),(1,38)],2,32,.agg [.nilm,.nil],[]⟩ := by rfl
theorem ti106 : ctx.ti 106 = some ⟨.map 9 3,1,8,.nilm,[]⟩ := by rfl
theorem ti113 : ctx.ti 113 = some ⟨.strct [(0,9),(1,4)],2,24,.agg [.str [],.bool false],[]⟩ := by rfl
theorem ti114 : ctx.ti 114 = some ⟨.strct [(0,9),(1,4)],2,24,.agg [.str [],.bool false],[.str,.bool]⟩ := by rfl
theorem ti115 : ctx.ti 115 = some ⟨.map 114 4,1,8,.nilm,[]⟩ := by rfl
theorem ti123 : ctx.ti 123 = some ⟨.ptr,1,8,.nilp,[]⟩ := by rfl
theorem ti124 : ctx.ti 124 = some ⟨.map 128 3,1,8,.nilm,[]⟩ := by rfl
theorem ti125 : ctx.ti 125 = some ⟨.strct [(0,24),(1,124)],2,32,.agg [.nil,.nilm],[]⟩ := by rfl
theorem ti126 : ctx.ti 126 = some ⟨.strct [(0,24),(1,124)],2,32,.agg [.nil,.nilm],[]⟩ := by rfl
theorem ti127 : ctx.ti 127 = some ⟨.strct [(0,9)],1,16,.agg [.str []],[]⟩ := by rfl
theorem ti128 : ctx.ti 128 = some ⟨.strct [(0,9)],1,16,.agg [.str []],[.str]⟩ := by rfl
theorem ti134 : ctx.ti 134 = some ⟨.strct [(0,3),(1,9),(2,38),(3,35)],9,136,.agg [.int .i64 0,.str [],.nil,.int .i64 0,.int .i64 0,.str [],.int .i64 0,.nil,.nil],[]⟩ := by rfl
theorem ti135 : ctx.ti 135 = some ⟨.strct [(0,3),(1,9),(2,38),(3,35)],9,136,.agg [.int .i64 0,.str [],.nil,.int .i64 0,.int .i64 0,.str [],.int .i64 0,.nil,.nil],[]⟩ := by rfl
theorem ti139 : ctx.ti 139 = some ⟨.strct [(0,9),(1,4)],2,24,.agg [.str [],.bool false],[]⟩ := by rfl
theorem ti140 : ctx.ti 140 = some ⟨.strct [(0,9),(1,4)],2,24,.agg [.str [],.bool false],[.str,.bool]⟩ := by rfl
theorem ti145 : ctx.ti 145 = some ⟨.int .u64,1,8,.int .u64 0,[.int .u64]⟩ := by rfl
theorem ti155 : ctx.ti 155 = some ⟨.int .i64,1,8,.int .i64 0,[.int .i64]⟩ := by rfl
theorem ti163 : ctx.ti 163 = some ⟨.int .u32,1,4,.int .u32 0,[.int .u32]⟩ := by rfl
theorem ti165 : ctx.ti 165 = some ⟨.int .u64,1,8,.int .u64 0,[.int .u64]⟩ := by rfl
theorem ti169 : ctx.ti 169 = some ⟨.map 128 4,1,8,.nilm,[]⟩ := by rfl
theorem ti170 : ctx.ti 170 = some ⟨.int .u64,1,8,.int .u64 0,[.int .u64]⟩ := by rfl
theorem ti174 : ctx.ti 174 = some ⟨.ptr,1,8,.nilp,[]⟩ := by rfl
theorem ti184 : ctx.ti 184 = some ⟨.ptr,1,8,.nilp,[]⟩ := by rfl
theorem ti189 : ctx.ti 189 = some ⟨.strct [(0,17),(1,17),(2,17),(3,9)],4,40,.agg [.nilp,.nilp,.nilp,.str []],[]⟩ := by rfl
theorem ti190 : ctx.ti 190 = some ⟨.strct [(0,17),(1,17),(2,17),(3,9)],4,40,.agg [.nilp,.nilp,.nilp,.str []],[]⟩ := by rfl
theorem ti195 : ctx.ti 195 = some ⟨.int .u8,1,1,.int .u8 0,[.int .u8]⟩ := by rfl
theorem ti196 : ctx.ti 196 = some ⟨.int .u8,1,1,.int .u8 0,[.int .u8]⟩ := by rfl
theorem ti198 : ctx.ti 198 = some ⟨.ptr,1,8,.nilp,[]⟩ := by rfl
theorem ti199 : ctx.ti 199 = some ⟨.int .i32,1,4,.int .i32 0,[.int .i32]⟩ := by rfl
theorem ti200 : ctx.ti 200 = some ⟨.int .i32,1,4,.int .i32 0,[.int .i32]⟩ := by rfl
theorem ti201 : ctx.ti 201 = some ⟨.strct [(0,12),(1,12),(2,163),(3,195),(4,5),(5,5),(6,196),(7,197),(8,198),(9,199),(10,200)],11,48,.agg [.int .u64 0,.int .u64 0,.int .u32 0,.int .u8 0,.int .u8 0,.int .u8 0,.int .u8 0,.nilf,.nilp,.int .i32 0,.int .i32 0],[]⟩ := by rfl
theorem ti202 : ctx.ti 202 = some ⟨.strct [(0,12),(1,12),(2,163),(3,195),(4,5),(5,5),(6,196),(7,197),(8,198),(9,199),(10,200)],11,48,.agg [.int .u64 0,.int .u64 0,.int .u32 0,.int .u8 0,.int .u8 0,.int .u8 0,.int .u8 0,.nilf,.nilp,.int .i32 0,.int .i32 0],[]⟩ := by rfl
theorem fn7_ : ctx.fn 7 = some i7 := by rfl
theorem fn17_ : ctx.fn 17 = some i17 := by rfl
theorem fn18_ : ctx.fn 18 = some i18 := by rfl
theorem fn20_ : ctx.fn 20 = some i20 := by rfl
theorem fn25_ : ctx.fn 25 = some i25 := by rfl
theorem fn28_ : ctx.fn 28 = some i28 := by rfl
theorem fn40_ : ctx.fn 40 = some i40 := by rfl
theorem fn41_ : ctx.fn 41 = some i41 := by rfl
theorem fn42_ : ctx.fn 42 = some i42 := by rfl
theorem fn43_ : ctx.fn 43 = some i43 := by rfl
theorem fn44_ : ctx.fn 44 = some i44 := by rfl
theorem fn45_ : ctx.fn 45 = some i45 := by rfl
theorem fn46_ : ctx.fn 46 = some i46 := by rfl
theorem fn47_ : ctx.fn 47 = some i47 := by rfl
theorem fn48_ : ctx.fn 48 = some i48 := by rfl
theorem fn49_ : ctx.fn 49 = some i49 := by rfl
theorem fn51_ : ctx.fn 51 = some i51 := by rfl
theorem fn56_ : ctx.fn 56 = some i56 := by rfl
theorem fn58_ : ctx.fn 58 = some i58 := by rfl
theorem fn69_ : ctx.fn 69 = some i69 := by rfl
theorem fn70_ : ctx.fn 70 = some i70 := by rfl
theorem fn71_ : ctx.fn 71 = some i71 := by rfl
theorem fn72_ : ctx.fn 72 = some i72 := by rfl
theorem fn73_ : ctx.fn 73 = some i73 := by rfl
theorem fn74_ : ctx.fn 74 = some i74 := by rfl
theorem fn75_ : ctx.fn 75 = some i75 := by rfl
theorem fn76_ : ctx.fn 76 = some i76 := by rfl
theorem fn77_ : ctx.fn 77 = some i77 := by rfl
theorem fn78_ : ctx.fn 78 = some i78 := by rfl
theorem fn79_ : ctx.fn 79 = some i79 := by rfl
theorem fn80_ : ctx.fn 80 = some i80 := by rfl
theorem fn81_ : ctx.fn 81 = some i81 := by rfl
theorem fn82_ : ctx.fn 82 = some i82 := by rfl
theorem fn83_ : ctx.fn 83 = some i83 := by rfl
theorem fn84_ : ctx.fn 84 = some i84 := by rfl
theorem fn87_ : ctx.fn 87 = some i87 := by rfl
theorem fn103_ : ctx.fn 103 = some i103 := by rfl
theorem fn104_ : ctx.fn 104 = some i104 := by rfl
theorem fn57_ : ctx.fn 57 = none := by rfl
theorem sd7_0 : statD [] d7_0 = true := by kernel_rfl
@[simp ↓] theorem rd7_0 (rec : Nat → List AV → M AV) (hp ip : List Nat) (fr : Fr) : runD ctx rec hp ip [] d7_0 fr = runF ctx rec hp ip [⟨⟨some 19,.move (.tmp 0),22⟩,none,[],[],.q⟩,⟨⟨some 20,.move (.tmp 5),3⟩,none,[],[],.q⟩,⟨⟨some 21,.indexAddr 22 (.tmp 19) (.tmp 20),0⟩,none,[0,1],[0,1],.q⟩,⟨⟨some 22,.load 5 (.tmp 21),5⟩,none,[2],[0,1,2],.l 0 0⟩,⟨⟨some 23,.convert 5 3 (.tmp 22),3⟩,none,[3],[0,1,2,3],.q⟩,⟨⟨some 24,.move (.tmp 3),3⟩,none,[],[],.q⟩,⟨⟨some 25,.binOp BinOp.rem 3 (.tmp 23) (.tmp 24) 3,3⟩,none,[4,5],[0,1,2,3,4,5],.q⟩,⟨⟨some 26,.move (.tmp 0),22⟩,none,[],[],.q⟩,⟨⟨some 27,.move (.tmp 5),3⟩,none,[],[],.q⟩,⟨⟨some 28,.indexAddr 22 (.tmp 26) (.tmp 27),0⟩,none,[7,8],[7,8],.q⟩,⟨⟨some 29,.load 5 (.tmp 28),5⟩,none,[9],[7,8,9],.l 0 0⟩,⟨⟨some 30,.convert 5 3 (.tmp 29),3⟩,none,[10],[7,8,9,10],.q⟩,⟨⟨some 31,.move (.tmp 3),3⟩,none,[],[],.q⟩,⟨⟨some 32,.binOp BinOp.quo 3 (.tmp 30) (.tmp 31) 3,3⟩,none,[11,12],[7,8,9,10,11,12],.q⟩,⟨⟨some 33,.move (.tmp 3),3⟩,none,[],[],.q⟩,⟨⟨some 34,.binOp BinOp.rem 3 (.tmp 32) (.tmp 33) 3,3⟩,none,[13,14],[7,8,9,10,11,12,13,14],.q⟩,⟨⟨some 6,.assign (.tmp 25),3⟩,none,[6,0,1,2,3,4,5,6],[0,1,2,3,4,5,6],.q⟩] fr := runD_eq sd7_0 fr
theorem sd7_2 : statD [] d7_2 = true := by kernel_rfl
@[simp ↓] theorem rd7_2 (rec : Nat → List AV → M AV) (hp ip : List Nat) (fr : Fr) : runD ctx rec hp ip [] d7_2 fr = runF ctx rec hp ip [⟨⟨some 77,.move (.tmp 9),45⟩,none,[],[],.q⟩,⟨⟨some 78,.move (.tmp 10),3⟩,none,[],[],.q⟩,⟨⟨some 79,.indexAddr 45 (.tmp 77) (.tmp 78),0⟩,none,[0,1],[0,1],.q⟩,⟨⟨some 80,.load 52 (.tmp 79),52⟩,none,[2],[0,1,2],.l 0 0⟩,⟨⟨some 81,.call { callee := Callee.builtin Builtin.len,args := #[.tmp 80],argTypes := #[52] },3⟩,none,[3],[0,1,2,3],.q⟩,⟨⟨some 82,.binOp BinOp.neq 3 (.tmp 81) (.const (Value.int IntKind.i64 1)) 3,4⟩,none,[4],[0,1,2,3,4],.q⟩,⟨⟨some 83,.move (.tmp 82),4⟩,none,[5],[0,1,2,3,4,5],.q⟩,⟨⟨some 84,.move (.tmp 9),45⟩,some (6,false),[6],[0,1,2,3,4,5,6],.q⟩,⟨⟨some 85,.move (.tmp 10),3⟩,some (6,false),[6],[0,1,2,3,4,5,6],.q⟩,⟨⟨some 86,.indexAddr 45 (.tmp 84) (.tmp 85),0⟩,some (6,false),[7,8,6],[0,1,2,3,4,5,6,7,8],.q⟩,⟨⟨some 87,.load 52 (.tmp 86),52⟩,some (6,false),[9,6],[0,1,2,3,4,5,6,7,8,9],.l 0 0⟩,⟨⟨some 88,.indexAddr 52 (.tmp 87) (.const (Value.int IntKind.i64 0)),0⟩,some (6,false),[10,6],[0,1,2,3,4,5,6,7,8,9,10],.q⟩,⟨⟨some 89,.load 3 (.tmp 88),3⟩,some (6,false),[11,6],[0,1,2,3,4,5,6,7,8,9,10,11],.l 0 0⟩,⟨⟨some 90,.move (.tmp 0),22⟩,some (6,false),[6],[0,1,2,3,4,5,6],.q⟩,⟨⟨some 91,.move (.tmp 10),3⟩,some (6,false),[6],[0,1,2,3,4,5,6],.q⟩,⟨⟨some 92,.indexAddr 22 (.tmp 90) (.tmp 91),0⟩,some (6,false),[13,14,6],[0,1,2,3,4,5,6,13,14],.q⟩,⟨⟨some 93,.load 5 (.tmp 92),5⟩,some (6,false),[15,6],[0,1,2,3,4,5,6,13,14,15],.l 0 0⟩,⟨⟨some 94,.convert 5 3 (.tmp 93),3⟩,some (6,false),[16,6],[0,1,2,3,4,5,6,13,14,15,16],.q⟩,⟨⟨some 95,.move (.tmp 3),3⟩,some (6,false),[6],[0,1,2,3,4,5,6],.q⟩,⟨⟨some 96,.binOp BinOp.rem 3 (.tmp 94) (.tmp 95) 3,3⟩,some (6,false),[17,18,6],[0,1,2,3,4,5,6,13,14,15,16,17,18],.q⟩,⟨⟨some 97,.binOp BinOp.neq 3 (.tmp 89) (.tmp 96) 3,4⟩,some (6,false),[12,19,6],[0,1,2,3,4,5,6,7,8,9,10,11,12,13,14,15,16,17,18,19],.q⟩] fr := runD_eq sd7_2 fr
theorem sd18_0 : statD [] d18_0 = true := by kernel_rfl
@[simp ↓] theorem rd18_0 (rec : Nat → List AV → M AV) (hp ip : List Nat) (fr : Fr) : runD ctx rec hp ip [] d18_0 fr = runF ctx rec hp ip [⟨⟨some 30,.move (.tmp 4),83⟩,none,[],[],.q⟩,⟨⟨some 31,.nilCheck (.tmp 30),0⟩,none,[0],[0],.q⟩,⟨⟨some 32,.fieldAddr 85 (.tmp 31) 1,0⟩,none,[1],[0,1],.q⟩,⟨⟨some 33,.load 3 (.tmp 32),3⟩,none,[2],[0,1,2],.l 0 0⟩,⟨⟨some 34,.move (.tmp 4),83⟩,none,[],[],.q⟩,⟨⟨some 35,.nilCheck (.tmp 34),0⟩,none,[4],[4],.q⟩,⟨⟨some 36,.fieldAddr 85 (.tmp 35) 0,0⟩,none,[5],[4,5],.q⟩,⟨⟨some 37,.load 79 (.tmp 36),79⟩,none,[6],[4,5,6],.l 0 0⟩,⟨⟨some 38,.call { callee := Callee.builtin Builtin.len,args := #[.tmp 37],argTypes := #[79] },3⟩,none,[7],[4,5,6,7],.q⟩,⟨⟨some 39,.binOp BinOp.lss 3 (.tmp 33) (.tmp 38) 3,4⟩,none,[3,8],[0,1,2,3,4,5,6,7,8],.q⟩,⟨⟨some 40,.move (.tmp 39),4⟩,none,[9],[0,1,2,3,4,5,6,7,8,9],.q⟩,⟨⟨some 41,.move (.tmp 4),83⟩,some (10,true),[10],[0,1,2,3,4,5,6,7,8,9,10],.q⟩,⟨⟨some 42,.nilCheck (.tmp 41),0⟩,some (10,true),[11,10],[0,1,2,3,4,5,6,7,8,9,10,11],.q⟩,⟨⟨some 43,.fieldAddr 85 (.tmp 42) 3,0⟩,some (10,true),[12,10],[0,1,2,3,4,5,6,7,8,9,10,11,12],.q⟩,⟨⟨some 44,.load 4 (.tmp 43),4⟩,some (10,true),[13,10],[0,1,2,3,4,5,6,7,8,9,10,11,12,13],.l 0 0⟩,⟨⟨some 45,.unOp UnOp.not 4 (.tmp 44),4⟩,some (10,true),[14,10],[0,1,2,3,4,5,6,7,8,9,10,11,12,13,14],.q⟩] fr := runD_eq sd18_0 fr
theorem sd18_1 : statD [] d18_1 = true := by kernel_rfl
@[simp ↓] theorem rd18_1 (rec : Nat → List AV → M AV) (hp ip : List Nat) (fr : Fr) : runD ctx rec hp ip [] d18_1 fr = runF ctx rec hp ip [⟨⟨some 71,.fieldAddr 61 (.tmp 8) 2,0⟩,none,[],[],.q⟩,⟨⟨some 72,.load 38 (.tmp 71),38⟩,none,[0],[0],.q⟩,⟨⟨some 73,.move (.tmp 7),79⟩,none,[],[],.q⟩,⟨⟨some 74,.move (.tmp 9),3⟩,none,[],[],.q⟩,⟨⟨some 75,.indexAddr 79 (.tmp 73) (.tmp 74),0⟩,none,[2,3],[2,3],.q⟩,⟨⟨some 76,.fieldAddr 88 (.tmp 75) 2,0⟩,none,[4],[2,3,4],.q⟩,⟨⟨some 77,.load 9 (.tmp 76),9⟩,none,[5],[2,3,4,5],.l 0 0⟩,⟨⟨some 78,.buildSlice 38 1 #[(0,.tmp 77)],38⟩,none,[6],[2,3,4,5,6],.q⟩] fr := runD_eq sd18_1 fr
theorem sd18_3 : statD [] d18_3 = true := by kernel_rfl
@[simp ↓] theorem rd18_3 (rec : Nat → List AV → M AV) (hp ip : List Nat) (fr : Fr) : runD ctx rec hp ip [] d18_3 fr = runF ctx rec hp ip [⟨⟨some 83,.fieldAddr 61 (.tmp 8) 3,0⟩,none,[],[],.q⟩,⟨⟨some 84,.load 59 (.tmp 83),59⟩,none,[0],[0],.q⟩,⟨⟨some 85,.move (.tmp 4),83⟩,none,[],[],.q⟩,⟨⟨some 86,.fieldAddr 61 (.tmp 8) 2,0⟩,none,[],[],.q⟩,⟨⟨some 87,.load 38 (.tmp 86),38⟩,none,[3],[3],.q⟩,⟨⟨some 88,.call { callee := Callee.value (.func 45),args := #[.tmp 85,.tmp 87],argTypes := #[83,38] },64⟩,none,[2,4],[2,3,4],.w⟩,⟨⟨some 89,.buildSlice 59 1 #[(0,.tmp 88)],59⟩,none,[5],[2,3,4,5],.q⟩] fr := runD_eq sd18_3 fr
theorem sd18_4 : statD [] d18_4 = true := by kernel_rfl
@[simp ↓] theorem rd18_4 (rec : Nat → List AV → M AV) (hp ip : List Nat) (fr : Fr) : runD ctx rec hp ip [] d18_4 fr = runF ctx rec hp ip [⟨⟨some 94,.fieldAddr 61 (.tmp 8) 3,0⟩,none,[],[],.q⟩,⟨⟨some 95,.load 59 (.tmp 94),59⟩,none,[0],[0],.q⟩,⟨⟨some 96,.move (.tmp 4),83⟩,none,[],[],.q⟩,⟨⟨some 97,.fieldAddr 61 (.tmp 8) 2,0⟩,none,[],[],.q⟩,⟨⟨some 98,.load 38 (.tmp 97),38⟩,none,[3],[3],.q⟩,⟨⟨some 99,.call { callee := Callee.value (.func 45),args := #[.tmp 96,.tmp 98],argTypes := #[83,38] },64⟩,none,[2,4],[2,3,4],.w⟩,⟨⟨some 100,.buildSlice 59 1 #[(0,.tmp 99)],59⟩,none,[5],[2,3,4,5],.q⟩] fr := runD_eq sd18_4 fr
theorem sd41_0 : statD [] d41_0 = true := by kernel_rfl
@[simp ↓] theorem rd41_0 (rec : Nat → List AV → M AV) (hp ip : List Nat) (fr : Fr) : runD ctx rec hp ip [] d41_0 fr = runF ctx rec hp ip [⟨⟨some 7,.move (.tmp 0),83⟩,none,[],[],.q⟩,⟨⟨some 8,.nilCheck (.tmp 7),0⟩,none,[0],[0],.q⟩,⟨⟨some 9,.fieldAddr 85 (.tmp 8) 3,0⟩,none,[1],[0,1],.q⟩,⟨⟨some 10,.load 4 (.tmp 9),4⟩,none,[2],[0,1,2],.l 0 0⟩,⟨⟨some 11,.unOp UnOp.not 4 (.tmp 10),4⟩,none,[3],[0,1,2,3],.q⟩,⟨⟨some 12,.move (.tmp 11),4⟩,none,[4],[0,1,2,3,4],.q⟩,⟨⟨some 13,.move (.tmp 0),83⟩,some (5,true),[5],[0,1,2,3,4,5],.q⟩,⟨⟨some 14,.nilCheck (.tmp 13),0⟩,some (5,true),[6,5],[0,1,2,3,4,5,6],.q⟩,⟨⟨some 15,.fieldAddr 85 (.tmp 14) 1,0⟩,some (5,true),[7,5],[0,1,2,3,4,5,6,7],.q⟩,⟨⟨some 16,.load 3 (.tmp 15),3⟩,some (5,true),[8,5],[0,1,2,3,4,5,6,7,8],.l 0 0⟩,⟨⟨some 17,.move (.tmp 0),83⟩,some (5,true),[5],[0,1,2,3,4,5],.q⟩,⟨⟨some 18,.nilCheck (.tmp 17),0⟩,some (5,true),[10,5],[0,1,2,3,4,5,10],.q⟩,⟨⟨some 19,.fieldAddr 85 (.tmp 18) 0,0⟩,some (5,true),[11,5],[0,1,2,3,4,5,10,11],.q⟩,⟨⟨some 20,.load 79 (.tmp 19),79⟩,some (5,true),[12,5],[0,1,2,3,4,5,10,11,12],.l 0 0⟩,⟨⟨some 21,.call { callee := Callee.builtin Builtin.len,args := #[.tmp 20],argTypes := #[79] },3⟩,some (5,true),[13,5],[0,1,2,3,4,5,10,11,12,13],.q⟩,⟨⟨some 22,.binOp BinOp.lss 3 (.tmp 16) (.tmp 21) 3,4⟩,some (5,true),[9,14,5],[0,1,2,3,4,5,6,7,8,9,10,11,12,13,14],.q⟩,⟨⟨some 23,.pick (.tmp 12) (.tmp 22) (.const (Value.bool false)),4⟩,none,[5,15],[0,1,2,3,4,5,6,7,8,9,10,11,12,13,14,15],.q⟩,⟨⟨some 24,.move (.tmp 23),4⟩,none,[16,5],[0,1,2,3,4,5,6,7,8,9,10,11,12,13,14,15,16],.q⟩,⟨⟨some 25,.move (.tmp 0),83⟩,some (17,true),[17],[0,1,2,3,4,5,6,7,8,9,10,11,12,13,14,15,16,17],.q⟩,⟨⟨some 26,.nilCheck (.tmp 25),0⟩,some (17,true),[18,17],[0,1,2,3,4,5,6,7,8,9,10,11,12,13,14,15,16,17,18],.q⟩,⟨⟨some 27,.fieldAddr 85 (.tmp 26) 0,0⟩,some (17,true),[19,17],[0,1,2,3,4,5,6,7,8,9,10,11,12,13,14,15,16,17,18,19],.q⟩,⟨⟨some 28,.load 79 (.tmp 27),79⟩,some (17,true),[20,17],[0,1,2,3,4,5,6,7,8,9,10,11,12,13,14,15,16,17,18,19,20],.l 0 0⟩,⟨⟨some 29,.move (.tmp 0),83⟩,some (17,true),[17],[0,1,2,3,4,5,6,7,8,9,10,11,12,13,14,15,16,17],.q⟩,⟨⟨some 30,.nilCheck (.tmp 29),0⟩,some (17,true),[22,17],[0,1,2,3,4,5,6,7,8,9,10,11,12,13,14,15,16,17,22],.q⟩,⟨⟨some 31,.fieldAddr 85 (.tmp 30) 1,0⟩,some (17,true),[23,17],[0,1,2,3,4,5,6,7,8,9,10,11,12,13,14,15,16,17,22,23],.q⟩,⟨⟨some 32,.load 3 (.tmp 31),3⟩,some (17,true),[24,17],[0,1,2,3,4,5,6,7,8,9,10,11,12,13,14,15,16,17,22,23,24],.l 0 0⟩,⟨⟨some 33,.indexAddr 79 (.tmp 28) (.tmp 32),0⟩,some (17,true),[21,25,17],[0,1,2,3,4,5,6,7,8,9,10,11,12,13,14,15,16,17,18,19,20,21,22,23,24,25],.q⟩,⟨⟨some 34,.fieldAddr 88 (.tmp 33) 0,0⟩,some (17,true),[26,17],[0,1,2,3,4,5,6,7,8,9,10,11,12,13,14,15,16,17,18,19,20,21,22,23,24,25,26],.q⟩,⟨⟨some 35,.load 3 (.tmp 34),3⟩,some (17,true),[27,17],[0,1,2,3,4,5,6,7,8,9,10,11,12,13,14,15,16,17,18,19,20,21,22,23,24,25,26,27],.l 0 0⟩,⟨⟨some 36,.move (.tmp 1),3⟩,some (17,true),[17],[0,1,2,3,4,5,6,7,8,9,10,11,12,13,14,15,16,17],.q⟩,⟨⟨some 37,.binOp BinOp.eql 3 (.tmp 35) (.tmp 36) 3,4⟩,some (17,true),[28,29,17],[0,1,2,3,4,5,6,7,8,9,10,11,12,13,14,15,16,17,18,19,20,21,22,23,24,25,26,27,28,29],.q⟩,⟨⟨some 38,.pick (.tmp 24) (.tmp 37) (.const (Value.bool false)),4⟩,none,[17,30],[0,1,2,3,4,5,6,7,8,9,10,11,12,13,14,15,16,17,18,19,20,21,22,23,24,25,26,27,28,29,30],.q⟩,⟨⟨some 39,.move (.tmp 38),4⟩,none,[31,17],[0,1,2,3,4,5,6,7,8,9,10,11,12,13,14,15,16,17,18,19,20,21,22,23,24,25,26,27,28,29,30,31],.q⟩,⟨⟨some 40,.move (.tmp 2),9⟩,some (32,true),[32],[0,1,2,3,4,5,6,7,8,9,10,11,12,13,14,15,16,17,18,19,20,21,22,23,24,25,26,27,28,29,30,31,32],.q⟩,⟨⟨some 41,.binOp BinOp.eql 9 (.tmp 40) (.const (Value.string { data := #[] })) 9,4⟩,some (32,true),[33,32],[0,1,2,3,4,5,6,7,8,9,10,11,12,13,14,15,16,17,18,19,20,21,22,23,24,25,26,27,28,29,30,31,32,33],.q⟩,⟨⟨some 42,.move (.tmp 41),4⟩,some (32,true),[34,32,32],[0,1,2,3,4,5,6,7,8,9,10,11,12,13,14,15,16,17,18,19,20,21,22,23,24,25,26,27,28,29,30,31,32,33,34],.q⟩,⟨⟨some 43,.move (.tmp 0),83⟩,some (35,false),[35],[0,1,2,3,4,5,6,7,8,9,10,11,12,13,14,15,16,17,18,19,20,21,22,23,24,25,26,27,28,29,30,31,32,33,34,35],.q⟩,⟨⟨some 44,.nilCheck (.tmp 43),0⟩,some (35,false),[36,35],[0,1,2,3,4,5,6,7,8,9,10,11,12,13,14,15,16,17,18,19,20,21,22,23,24,25,26,27,28,29,30,31,32,33,34,35,36],.q⟩,⟨⟨some 45,.fieldAddr 85 (.tmp 44) 0,0⟩,some (35,false),[37,35],[0,1,2,3,4,5,6,7,8,9,10,11,12,13,14,15,16,17,18,19,20,21,22,23,24,25,26,27,28,29,30,31,32,33,34,35,36,37],.q⟩,⟨⟨some 46,.load 79 (.tmp 45),79⟩,some (35,false),[38,35],[0,1,2,3,4,5,6,7,8,9,10,11,12,13,14,15,16,17,18,19,20,21,22,23,24,25,26,27,28,29,30,31,32,33,34,35,36,37,38],.l 0 0⟩,⟨⟨some 47,.move (.tmp 0),83⟩,some (35,false),[35],[0,1,2,3,4,5,6,7,8,9,10,11,12,13,14,15,16,17,18,19,20,21,22,23,24,25,26,27,28,29,30,31,32,33,34,35],.q⟩,⟨⟨some 48,.nilCheck (.tmp 47),0⟩,some (35,false),[40,35],[0,1,2,3,4,5,6,7,8,9,10,11,12,13,14,15,16,17,18,19,20,21,22,23,24,25,26,27,28,29,30,31,32,33,34,35,40],.q⟩,⟨⟨some 49,.fieldAddr 85 (.tmp 48) 1,0⟩,some (35,false),[41,35],[0,1,2,3,4,5,6,7,8,9,10,11,12,13,14,15,16,17,18,19,20,21,22,23,24,25,26,27,28,29,30,31,32,33,34,35,40,41],.q⟩,⟨⟨some 50,.load 3 (.tmp 49),3⟩,some (35,false),[42,35],[0,1,2,3,4,5,6,7,8,9,10,11,12,13,14,15,16,17,18,19,20,21,22,23,24,25,26,27,28,29,30,31,32,33,34,35,40,41,42],.l 0 0⟩,⟨⟨some 51,.indexAddr 79 (.tmp 46) (.tmp 50),0⟩,some (35,false),[39,43,35],[0,1,2,3,4,5,6,7,8,9,10,11,12,13,14,15,16,17,18,19,20,21,22,23,24,25,26,27,28,29,30,31,32,33,34,35,36,37,38,39,40,41,42,43],.q⟩,⟨⟨some 52,.fieldAddr 88 (.tmp 51) 2,0⟩,some (35,false),[44,35],[0,1,2,3,4,5,6,7,8,9,10,11,12,13,14,15,16,17,18,19,20,21,22,23,24,25,26,27,28,29,30,31,32,33,34,35,36,37,38,39,40,41,42,43,44],.q⟩,⟨⟨some 53,.load 9 (.tmp 52),9⟩,some (35,false),[45,35],[0,1,2,3,4,5,6,7,8,9,10,11,12,13,14,15,16,17,18,19,20,21,22,23,24,25,26,27,28,29,30,31,32,33,34,35,36,37,38,39,40,41,42,43,44,45],.l 0 0⟩,⟨⟨some 54,.move (.tmp 2),9⟩,some (35,false),[35],[0,1,2,3,4,5,6,7,8,9,10,11,12,13,14,15,16,17,18,19,20,21,22,23,24,25,26,27,28,29,30,31,32,33,34,35],.q⟩,⟨⟨some 55,.binOp BinOp.eql 9 (.tmp 53) (.tmp 54) 9,4⟩,some (35,false),[46,47,35],[0,1,2,3,4,5,6,7,8,9,10,11,12,13,14,15,16,17,18,19,20,21,22,23,24,25,26,27,28,29,30,31,32,33,34,35,36,37,38,39,40,41,42,43,44,45,46,47],.q⟩,⟨⟨some 56,.pick (.tmp 42) (.const (Value.bool true)) (.tmp 55),4⟩,some (32,true),[35,48,32],[0,1,2,3,4,5,6,7,8,9,10,11,12,13,14,15,16,17,18,19,20,21,22,23,24,25,26,27,28,29,30,31,32,33,34,35,36,37,38,39,40,41,42,43,44,45,46,47,48],.q⟩] fr := runD_eq sd41_0 fr
theorem sd42_0 : statD [] d42_0 = true := by kernel_rfl
@[simp ↓] theorem rd42_0 (rec : Nat → List AV → M AV) (hp ip : List Nat) (fr : Fr) : runD ctx rec hp ip [] d42_0 fr = runF ctx rec hp ip [⟨⟨some 22,.move (.tmp 0),83⟩,none,[],[],.q⟩,⟨⟨some 23,.nilCheck (.tmp 22),0⟩,none,[0],[0],.q⟩,⟨⟨some 24,.fieldAddr 85 (.tmp 23) 0,0⟩,none,[1],[0,1],.q⟩,⟨⟨some 25,.load 79 (.tmp 24),79⟩,none,[2],[0,1,2],.l 0 0⟩,⟨⟨some 26,.move (.tmp 0),83⟩,none,[],[],.q⟩,⟨⟨some 27,.nilCheck (.tmp 26),0⟩,none,[4],[4],.q⟩,⟨⟨some 28,.fieldAddr 85 (.tmp 27) 1,0⟩,none,[5],[4,5],.q⟩,⟨⟨some 29,.load 3 (.tmp 28),3⟩,none,[6],[4,5,6],.l 0 0⟩,⟨⟨some 30,.binOp BinOp.sub 3 (.tmp 29) (.const (Value.int IntKind.i64 1)) 3,3⟩,none,[7],[4,5,6,7],.q⟩] fr := runD_eq sd42_0 fr
theorem sd45_0 : statD [] d45_0 = true := by kernel_rfl
@[simp ↓] theorem rd45_0 (rec : Nat → List AV → M AV) (hp ip : List Nat) (fr : Fr) : runD ctx rec hp ip [] d45_0 fr = runF ctx rec hp ip [⟨⟨some 16,.fieldAddr 64 (.tmp 6) 2,0⟩,none,[],[],.q⟩,⟨⟨some 17,.load 62 (.tmp 16),62⟩,none,[0],[0],.q⟩,⟨⟨some 18,.move (.tmp 0),83⟩,none,[],[],.q⟩,⟨⟨some 19,.move (.tmp 1),38⟩,none,[],[],.q⟩,⟨⟨some 20,.call { callee := Callee.value (.func 79),args := #[.tmp 18,.tmp 19],argTypes := #[83,38] },68⟩,none,[2,3],[2,3],.w⟩,⟨⟨some 21,.buildSlice 62 1 #[(0,.tmp 20)],62⟩,none,[4],[2,3,4],.q⟩] fr := runD_eq sd45_0 fr
theorem sd47_0 : statD [] d47_0 = true := by kernel_rfl
@[simp ↓] theorem rd47_0 (rec : Nat → List AV → M AV) (hp ip : List Nat) (fr : Fr) : runD ctx rec hp ip [] d47_0 fr = runF ctx rec hp ip [⟨⟨some 15,.move (.tmp 1),3⟩,none,[],[],.q⟩,⟨⟨some 16,.move (.tmp 0),79⟩,none,[],[],.q⟩,⟨⟨some 17,.move (.tmp 7),3⟩,none,[],[],.q⟩,⟨⟨some 18,.indexAddr 79 (.tmp 16) (.tmp 17),0⟩,none,[1,2],[1,2],.q⟩,⟨⟨some 19,.fieldAddr 88 (.tmp 18) 2,0⟩,none,[3],[1,2,3],.q⟩,⟨⟨some 20,.load 9 (.tmp 19),9⟩,none,[4],[1,2,3,4],.l 0 0⟩,⟨⟨some 21,.load 35 (.tmp 5),35⟩,none,[],[],.q⟩,⟨⟨some 22,.buildSlice 32 1 #[(0,.tmp 21)],32⟩,none,[6],[6],.q⟩] fr := runD_eq sd47_0 fr
theorem sd48_0 : statD [] d48_0 = true := by kernel_rfl
@[simp ↓] theorem rd48_0 (rec : Nat → List AV → M AV) (hp ip : List Nat) (fr : Fr) : runD ctx rec hp ip [] d48_0 fr = runF ctx rec hp ip [⟨⟨some 13,.move (.tmp 0),83⟩,none,[],[],.q⟩,⟨⟨some 14,.nilCheck (.tmp 13),0⟩,none,[0],[0],.q⟩,⟨⟨some 15,.fieldAddr 85 (.tmp 14) 3,0⟩,none,[1],[0,1],.q⟩,⟨⟨some 16,.load 4 (.tmp 15),4⟩,none,[2],[0,1,2],.l 0 0⟩,⟨⟨some 17,.move (.tmp 16),4⟩,none,[3],[0,1,2,3],.q⟩,⟨⟨some 18,.move (.tmp 0),83⟩,some (4,false),[4],[0,1,2,3,4],.q⟩,⟨⟨some 19,.nilCheck (.tmp 18),0⟩,some (4,false),[5,4],[0,1,2,3,4,5],.q⟩,⟨⟨some 20,.fieldAddr 85 (.tmp 19) 1,0⟩,some (4,false),[6,4],[0,1,2,3,4,5,6],.q⟩,⟨⟨some 21,.load 3 (.tmp 20),3⟩,some (4,false),[7,4],[0,1,2,3,4,5,6,7],.l 0 0⟩,⟨⟨some 22,.move (.tmp 0),83⟩,some (4,false),[4],[0,1,2,3,4],.q⟩,⟨⟨some 23,.nilCheck (.tmp 22),0⟩,some (4,false),[9,4],[0,1,2,3,4,9],.q⟩,⟨⟨some 24,.fieldAddr 85 (.tmp 23) 0,0⟩,some (4,false),[10,4],[0,1,2,3,4,9,10],.q⟩,⟨⟨some 25,.load 79 (.tmp 24),79⟩,some (4,false),[11,4],[0,1,2,3,4,9,10,11],.l 0 0⟩,⟨⟨some 26,.call { callee := Callee.builtin Builtin.len,args := #[.tmp 25],argTypes := #[79] },3⟩,some (4,false),[12,4],[0,1,2,3,4,9,10,11,12],.q⟩,⟨⟨some 27,.binOp BinOp.geq 3 (.tmp 21) (.tmp 26) 3,4⟩,some (4,false),[8,13,4],[0,1,2,3,4,5,6,7,8,9,10,11,12,13],.q⟩] fr := runD_eq sd48_0 fr
theorem sd48_1 : statD [] d48_1 = true := by kernel_rfl
@[simp ↓] theorem rd48_1 (rec : Nat → List AV → M AV) (hp ip : List Nat) (fr : Fr) : runD ctx rec hp ip [] d48_1 fr = runF ctx rec hp ip [⟨⟨some 54,.move (.tmp 4),79⟩,none,[],[],.q⟩,⟨⟨some 55,.fieldAddr 88 (.tmp 3) 1,0⟩,none,[],[],.q⟩,⟨⟨some 56,.load 3 (.tmp 55),3⟩,none,[1],[1],.q⟩,⟨⟨some 57,.move (.tmp 0),83⟩,none,[],[],.q⟩,⟨⟨some 58,.call { callee := Callee.value (.func 48),args := #[.tmp 57],argTypes := #[83] },35⟩,none,[3],[3],.w⟩] fr := runD_eq sd48_1 fr
theorem sd48_2 : statD [] d48_2 = true := by kernel_rfl
@[simp ↓] theorem rd48_2 (rec : Nat → List AV → M AV) (hp ip : List Nat) (fr : Fr) : runD ctx rec hp ip [] d48_2 fr = runF ctx rec hp ip [⟨⟨some 84,.fieldAddr 88 (.tmp 3) 1,0⟩,none,[],[],.q⟩,⟨⟨some 85,.load 3 (.tmp 84),3⟩,none,[0],[0],.q⟩,⟨⟨some 86,.fieldAddr 88 (.tmp 5) 2,0⟩,none,[],[],.q⟩,⟨⟨some 87,.load 9 (.tmp 86),9⟩,none,[2],[2],.q⟩,⟨⟨some 88,.load 35 (.tmp 7),35⟩,none,[],[],.q⟩,⟨⟨some 89,.move (.tmp 0),83⟩,none,[],[],.q⟩,⟨⟨some 90,.call { callee := Callee.value (.func 48),args := #[.tmp 89],argTypes := #[83] },35⟩,none,[5],[5],.w⟩,⟨⟨some 91,.buildSlice 32 2 #[(0,.tmp 88),(1,.tmp 90)],32⟩,none,[4,6],[4,5,6],.q⟩] fr := runD_eq sd48_2 fr
theorem sd48_3 : statD [] d48_3 = true := by kernel_rfl
@[simp ↓] theorem rd48_3 (rec : Nat → List AV → M AV) (hp ip : List Nat) (fr : Fr) : runD ctx rec hp ip [] d48_3 fr = runF ctx rec hp ip [⟨⟨some 111,.fieldAddr 88 (.tmp 3) 1,0⟩,none,[],[],.q⟩,⟨⟨some 112,.load 3 (.tmp 111),3⟩,none,[0],[0],.q⟩,⟨⟨some 113,.load 35 (.tmp 8),35⟩,none,[],[],.q⟩,⟨⟨some 114,.load 35 (.tmp 9),35⟩,none,[],[],.q⟩,⟨⟨some 115,.move (.tmp 0),83⟩,none,[],[],.q⟩,⟨⟨some 116,.call { callee := Callee.value (.func 48),args := #[.tmp 115],argTypes := #[83] },35⟩,none,[4],[4],.w⟩,⟨⟨some 117,.buildSlice 32 3 #[(0,.tmp 113),(1,.tmp 114),(2,.tmp 116)],32⟩,none,[2,3,5],[2,3,4,5],.q⟩] fr := runD_eq sd48_3 fr
theorem sd48_4 : statD [] d48_4 = true := by kernel_rfl
@[simp ↓] theorem rd48_4 (rec : Nat → List AV → M AV) (hp ip : List Nat) (fr : Fr) : runD ctx rec hp ip [] d48_4 fr = runF ctx rec hp ip [⟨⟨some 139,.fieldAddr 35 (.tmp 10) 5,0⟩,none,[],[],.q⟩,⟨⟨some 140,.load 33 (.tmp 139),33⟩,none,[0],[0],.q⟩,⟨⟨some 141,.move (.tmp 0),83⟩,none,[],[],.q⟩,⟨⟨some 142,.call { callee := Callee.value (.func 80),args := #[.tmp 141],argTypes := #[83] },135⟩,none,[2],[2],.w⟩,⟨⟨some 143,.buildSlice 33 1 #[(0,.tmp 142)],33⟩,none,[3],[2,3],.q⟩] fr := runD_eq sd48_4 fr
theorem sd48_5 : statD [] d48_5 = true := by kernel_rfl
@[simp ↓] theorem rd48_5 (rec : Nat → List AV → M AV) (hp ip : List Nat) (fr : Fr) : runD ctx rec hp ip [] d48_5 fr = runF ctx rec hp ip [⟨⟨some 148,.fieldAddr 35 (.tmp 10) 5,0⟩,none,[],[],.q⟩,⟨⟨some 149,.load 33 (.tmp 148),33⟩,none,[0],[0],.q⟩,⟨⟨some 150,.move (.tmp 0),83⟩,none,[],[],.q⟩,⟨⟨some 151,.call { callee := Callee.value (.func 80),args := #[.tmp 150],argTypes := #[83] },135⟩,none,[2],[2],.w⟩,⟨⟨some 152,.buildSlice 33 1 #[(0,.tmp 151)],33⟩,none,[3],[2,3],.q⟩] fr := runD_eq sd48_5 fr
theorem sd51_0 : statD [] d51_0 = true := by kernel_rfl
@[simp ↓] theorem rd51_0 (rec : Nat → List AV → M AV) (hp ip : List Nat) (fr : Fr) : runD ctx rec hp ip [] d51_0 fr = runF ctx rec hp ip [⟨⟨some 12,.fieldAddr 35 (.tmp 3) 0,0⟩,none,[],[],.q⟩,⟨⟨some 13,.load 3 (.tmp 12),3⟩,none,[0],[0],.q⟩,⟨⟨some 14,.binOp BinOp.eql 3 (.tmp 13) (.const (Value.int IntKind.i64 1)) 3,4⟩,none,[1],[0,1],.q⟩,⟨⟨some 15,.move (.tmp 14),4⟩,none,[2],[0,1,2],.q⟩,⟨⟨some 16,.move (.tmp 0),97⟩,some (3,true),[3],[0,1,2,3],.q⟩,⟨⟨some 17,.nilCheck (.tmp 16),0⟩,some (3,true),[4,3],[0,1,2,3,4],.q⟩,⟨⟨some 18,.fieldAddr 100 (.tmp 17) 0,0⟩,some (3,true),[5,3],[0,1,2,3,4,5],.q⟩,⟨⟨some 19,.load 98 (.tmp 18),98⟩,some (3,true),[6,3],[0,1,2,3,4,5,6],.l 0 0⟩,⟨⟨some 20,.fieldAddr 35 (.tmp 3) 2,0⟩,some (3,true),[3],[0,1,2,3],.q⟩,⟨⟨some 21,.load 9 (.tmp 20),9⟩,some (3,true),[8,3],[0,1,2,3,8],.q⟩,⟨⟨some 22,.build 140 #[(0,.tmp 21)],140⟩,some (3,true),[9,3],[0,1,2,3,8,9],.q⟩,⟨⟨some 23,.lookup 98 (.tmp 19) (.tmp 22) false,3⟩,some (3,true),[7,10,3],[0,1,2,3,4,5,6,7,8,9,10],.l 0 0⟩,⟨⟨some 24,.binOp BinOp.eql 3 (.tmp 23) (.const (Value.int IntKind.i64 0)) 3,4⟩,some (3,true),[11,3],[0,1,2,3,4,5,6,7,8,9,10,11],.q⟩,⟨⟨some 25,.pick (.tmp 15) (.tmp 24) (.const (Value.bool false)),4⟩,none,[3,12],[0,1,2,3,4,5,6,7,8,9,10,11,12],.q⟩,⟨⟨some 26,.move (.tmp 25),4⟩,none,[13,3],[0,1,2,3,4,5,6,7,8,9,10,11,12,13],.q⟩,⟨⟨some 27,.move (.tmp 0),97⟩,some (14,true),[14],[0,1,2,3,4,5,6,7,8,9,10,11,12,13,14],.q⟩,⟨⟨some 28,.nilCheck (.tmp 27),0⟩,some (14,true),[15,14],[0,1,2,3,4,5,6,7,8,9,10,11,12,13,14,15],.q⟩,⟨⟨some 29,.fieldAddr 100 (.tmp 28) 0,0⟩,some (14,true),[16,14],[0,1,2,3,4,5,6,7,8,9,10,11,12,13,14,15,16],.q⟩,⟨⟨some 30,.load 98 (.tmp 29),98⟩,some (14,true),[17,14],[0,1,2,3,4,5,6,7,8,9,10,11,12,13,14,15,16,17],.l 0 0⟩,⟨⟨some 31,.load 140 (.tmp 4),140⟩,some (14,true),[14],[0,1,2,3,4,5,6,7,8,9,10,11,12,13,14],.q⟩,⟨⟨some 32,.lookup 98 (.tmp 30) (.tmp 31) false,3⟩,some (14,true),[18,19,14],[0,1,2,3,4,5,6,7,8,9,10,11,12,13,14,15,16,17,18,19],.l 0 0⟩,⟨⟨some 33,.binOp BinOp.eql 3 (.tmp 32) (.const (Value.int IntKind.i64 0)) 3,4⟩,some (14,true),[20,14],[0,1,2,3,4,5,6,7,8,9,10,11,12,13,14,15,16,17,18,19,20],.q⟩] fr := runD_eq sd51_0 fr
theorem sd51_1 : statD [] d51_1 = true := by kernel_rfl
@[simp ↓] theorem rd51_1 (rec : Nat → List AV → M AV) (hp ip : List Nat) (fr : Fr) : runD ctx rec hp ip [] d51_1 fr = runF ctx rec hp ip [⟨⟨some 35,.move (.tmp 0),97⟩,none,[],[],.q⟩,⟨⟨some 36,.nilCheck (.tmp 35),0⟩,none,[0],[0],.q⟩,⟨⟨some 37,.fieldAddr 100 (.tmp 36) 0,0⟩,none,[1],[0,1],.q⟩,⟨⟨some 38,.load 98 (.tmp 37),98⟩,none,[2],[0,1,2],.l 0 0⟩,⟨⟨some 39,.load 140 (.tmp 4),140⟩,none,[],[],.q⟩] fr := runD_eq sd51_1 fr
theorem sd51_2 : statD [] d51_2 = true := by kernel_rfl
@[simp ↓] theorem rd51_2 (rec : Nat → List AV → M AV) (hp ip : List Nat) (fr : Fr) : runD ctx rec hp ip [] d51_2 fr = runF ctx rec hp ip [⟨⟨some 40,.move (.tmp 0),97⟩,none,[],[],.q⟩,⟨⟨some 41,.move (.tmp 0),97⟩,none,[],[],.q⟩,⟨⟨some 42,.nilCheck (.tmp 41),0⟩,none,[1],[1],.q⟩,⟨⟨some 43,.fieldAddr 100 (.tmp 42) 1,0⟩,none,[2],[1,2],.q⟩,⟨⟨some 44,.load 38 (.tmp 43),38⟩,none,[3],[1,2,3],.l 0 0⟩,⟨⟨some 45,.fieldAddr 35 (.tmp 3) 2,0⟩,none,[],[],.q⟩,⟨⟨some 46,.load 9 (.tmp 45),9⟩,none,[5],[5],.q⟩,⟨⟨some 47,.buildSlice 38 1 #[(0,.tmp 46)],38⟩,none,[6],[5,6],.q⟩,⟨⟨some 48,.call { callee := Callee.builtin Builtin.append,args := #[.tmp 44,.tmp 47],argTypes := #[38,38] },38⟩,none,[4,7],[1,2,3,4,5,6,7],.w⟩] fr := runD_eq sd51_2 fr
theorem sd77_0 : statD [] d77_0 = true := by kernel_rfl
@[simp ↓] theorem rd77_0 (rec : Nat → List AV → M AV) (hp ip : List Nat) (fr : Fr) : runD ctx rec hp ip [] d77_0 fr = runF ctx rec hp ip [⟨⟨some 17,.move (.tmp 0),83⟩,none,[],[],.q⟩,⟨⟨some 18,.nilCheck (.tmp 17),0⟩,none,[0],[0],.q⟩,⟨⟨some 19,.fieldAddr 85 (.tmp 18) 1,0⟩,none,[1],[0,1],.q⟩,⟨⟨some 20,.load 3 (.tmp 19),3⟩,none,[2],[0,1,2],.l 0 0⟩,⟨⟨some 21,.move (.tmp 0),83⟩,none,[],[],.q⟩,⟨⟨some 22,.nilCheck (.tmp 21),0⟩,none,[4],[4],.q⟩,⟨⟨some 23,.fieldAddr 85 (.tmp 22) 0,0⟩,none,[5],[4,5],.q⟩,⟨⟨some 24,.load 79 (.tmp 23),79⟩,none,[6],[4,5,6],.l 0 0⟩,⟨⟨some 25,.call { callee := Callee.builtin Builtin.len,args := #[.tmp 24],argTypes := #[79] },3⟩,none,[7],[4,5,6,7],.q⟩] fr := runD_eq sd77_0 fr
theorem sd77_1 : statD [] d77_1 = true := by kernel_rfl
@[simp ↓] theorem rd77_1 (rec : Nat → List AV → M AV) (hp ip : List Nat) (fr : Fr) : runD ctx rec hp ip [] d77_1 fr = runF ctx rec hp ip [⟨⟨some 27,.move (.tmp 0),83⟩,none,[],[],.q⟩,⟨⟨some 28,.move (.tmp 0),83⟩,none,[],[],.q⟩,⟨⟨some 29,.nilCheck (.tmp 28),0⟩,none,[1],[1],.q⟩,⟨⟨some 30,.fieldAddr 85 (.tmp 29) 0,0⟩,none,[2],[1,2],.q⟩,⟨⟨some 31,.load 79 (.tmp 30),79⟩,none,[3],[1,2,3],.l 0 0⟩,⟨⟨some 32,.move (.tmp 0),83⟩,none,[],[],.q⟩,⟨⟨some 33,.nilCheck (.tmp 32),0⟩,none,[5],[5],.q⟩,⟨⟨some 34,.fieldAddr 85 (.tmp 33) 1,0⟩,none,[6],[5,6],.q⟩,⟨⟨some 35,.load 3 (.tmp 34),3⟩,none,[7],[5,6,7],.l 0 0⟩,⟨⟨some 36,.indexAddr 79 (.tmp 31) (.tmp 35),0⟩,none,[4,8],[1,2,3,4,5,6,7,8],.q⟩,⟨⟨some 37,.fieldAddr 88 (.tmp 36) 1,0⟩,none,[9],[1,2,3,4,5,6,7,8,9],.q⟩,⟨⟨some 38,.load 3 (.tmp 37),3⟩,none,[10],[1,2,3,4,5,6,7,8,9,10],.l 0 0⟩] fr := runD_eq sd77_1 fr
theorem sd80_0 : statD [] d80_0 = true := by kernel_rfl
@[simp ↓] theorem rd80_0 (rec : Nat → List AV → M AV) (hp ip : List Nat) (fr : Fr) : runD ctx rec hp ip [] d80_0 fr = runF ctx rec hp ip [⟨⟨some 26,.fieldAddr 135 (.tmp 5) 2,0⟩,none,[],[],.q⟩,⟨⟨some 27,.load 38 (.tmp 26),38⟩,none,[0],[0],.q⟩,⟨⟨some 28,.move (.tmp 4),79⟩,none,[],[],.q⟩,⟨⟨some 29,.move (.tmp 6),3⟩,none,[],[],.q⟩,⟨⟨some 30,.indexAddr 79 (.tmp 28) (.tmp 29),0⟩,none,[2,3],[2,3],.q⟩,⟨⟨some 31,.fieldAddr 88 (.tmp 30) 2,0⟩,none,[4],[2,3,4],.q⟩,⟨⟨some 32,.load 9 (.tmp 31),9⟩,none,[5],[2,3,4,5],.l 0 0⟩,⟨⟨some 33,.buildSlice 38 1 #[(0,.tmp 32)],38⟩,none,[6],[2,3,4,5,6],.q⟩] fr := runD_eq sd80_0 fr
theorem sd104_0 : statD [] d104_0 = true := by kernel_rfl
@[simp ↓] theorem rd104_0 (rec : Nat → List AV → M AV) (hp ip : List Nat) (fr : Fr) : runD ctx rec hp ip [] d104_0 fr = runF ctx rec hp ip [⟨⟨some 17,.fieldAddr 68 (.tmp 6) 3,0⟩,none,[],[],.q⟩,⟨⟨some 18,.load 62 (.tmp 17),62⟩,none,[0],[0],.q⟩,⟨⟨some 19,.move (.tmp 0),83⟩,none,[],[],.q⟩,⟨⟨some 20,.move (.tmp 1),38⟩,none,[],[],.q⟩,⟨⟨some 21,.call { callee := Callee.value (.func 79),args := #[.tmp 19,.tmp 20],argTypes := #[83,38] },68⟩,none,[2,3],[2,3],.w⟩,⟨⟨some 22,.buildSlice 62 1 #[(0,.tmp 21)],62⟩,none,[4],[2,3,4],.q⟩] fr := runD_eq sd104_0 fr
theorem sd104_2 : statD [] d104_2 = true := by kernel_rfl
@[simp ↓] theorem rd104_2 (rec : Nat → List AV → M AV) (hp ip : List Nat) (fr : Fr) : runD ctx rec hp ip [] d104_2 fr = runF ctx rec hp ip [⟨⟨some 27,.load 68 (.tmp 6),68⟩,none,[],[],.q⟩,⟨⟨some 28,.move (.tmp 0),83⟩,none,[],[],.q⟩,⟨⟨some 29,.move (.tmp 1),38⟩,none,[],[],.q⟩,⟨⟨some 30,.call { callee := Callee.value (.func 104),args := #[.tmp 28,.tmp 29],argTypes := #[83,38] },68⟩,none,[1,2],[1,2],.w⟩] fr := runD_eq sd104_2 fr
@[simp ↓] theorem bk88 : look 88 ctx.back = some 37 := by rfl
attribute [simp] Fr.frz frzSl frzS rowOfA
attribute [simp] runF allF oneF putO
attribute [simp] ti2 ti3 ti4 ti5 ti6 ti7 ti8 ti9 ti10 ti11 ti12 ti13 ti14 ti15 ti16 ti17 ti18 ti19 ti21 ti22 ti24 ti25 ti26 ti27 ti28 ti29 ti32 ti33 ti34 ti35 ti36 ti37 ti38 ti45 ti48 ti52 ti54 ti59 ti60 ti61 ti62 ti63 ti64 ti67 ti68 ti73 ti74 ti79 ti80 ti81 ti83 ti84 ti85 ti87 ti88 ti97 ti98 ti99 ti100 ti106 ti113 ti114 ti115 ti123 ti124 ti125 ti126 ti127 ti128 ti134 ti135 ti139 ti140 ti145 ti155 ti163 ti165 ti169 ti170 ti174 ti184 ti189 ti190 ti195 ti196 ti198 ti199 ti200 ti201 ti202
attribute [simp] runOps runOp stepE opE kBin kUn kLen kLoad kStore kAlloc kBox kBuild kBuildSlice kMakeSlice kNil kPick kConv kFunc optA kSlice kMove kIndexAddr kIndex kField kFieldAddr kLookup kUpdate kEntry kEntryStore kExtract kAppend kCall pureM failM retE retO retM av avs ev getS Fr.dstOk Fr.app Fr.put Fr.drop pkOps dstsF flatOps flatOp
attribute [simp] binA nilOp nilEq unA intOp strOp boolOp isShift cond boxAt newVarE newRowE fitAll elemAt putAt TK.isAgg memN loadA storeA elemsM part AV.sub AV.leafAt constA constLeaf constLeaves tupAt mmA rowOrText elemOf fieldOf partPlace buildA rowA setCells nzA sliceA byteRow newM arrAt appendH
attribute [simp] runD dstsD allD oneD DK.isS wantD seeD hideL hideS getR quietOp quietO calmO Eff.calm looksOp putsD storeD getW checkD endD putW DK.isW sameD between SV.same runPost norm keepS refsIn round1
attribute [simp ↓] bindM_app obind_app cond_true cond_false
attribute [simp] runFn argSlots results tupled AV.noRef AV.noRefs AV.scalar
end Go.Am.Try
