/- What the abstract machine takes the program to be is what it is: written by genf.py. -/
import Derived.Test.YtdapcelbbejfoaaMCtx
import Derived.Test.YtdapcelbbejfoaaMTy
import Derived.Test.YtdapcelbbejfoaaProg
import Derived.KernelRfl
set_option maxRecDepth 100000
set_option maxHeartbeats 4000000
namespace Go.Am.Try
open Go
open Go.Proofs
theorem ty1 : TyOK Try.prog 1 ⟨.func,1,8,.nilf,[]⟩ := ⟨by kernel_rfl,by kernel_rfl,by kernel_rfl,by kernel_rfl,by kernel_rfl,by kernel_rfl,by decide,eq_none,eqn_none⟩
theorem ty2 : TyOK Try.prog 2 ⟨.int .i64,1,8,.int .i64 0,[.int .i64]⟩ := ⟨by kernel_rfl,by kernel_rfl,by kernel_rfl,by kernel_rfl,by kernel_rfl,by kernel_rfl,by decide,fun _ => eqTy_leaf (d := (Try.prog.underlying 2).getD .bool) (by kernel_rfl) (by kernel_rfl) (by kernel_rfl),eqn_leaf (by kernel_rfl)⟩
theorem ty3 : TyOK Try.prog 3 ⟨.int .i64,1,8,.int .i64 0,[.int .i64]⟩ := ⟨by kernel_rfl,by kernel_rfl,by kernel_rfl,by kernel_rfl,by kernel_rfl,by kernel_rfl,by decide,fun _ => eqTy_leaf (d := (Try.prog.underlying 3).getD .bool) (by kernel_rfl) (by kernel_rfl) (by kernel_rfl),eqn_leaf (by kernel_rfl)⟩
theorem ty4 : TyOK Try.prog 4 ⟨.bool,1,1,.bool false,[.bool]⟩ := ⟨by kernel_rfl,by kernel_rfl,by kernel_rfl,by kernel_rfl,by kernel_rfl,by kernel_rfl,by decide,fun _ => eqTy_leaf (d := (Try.prog.underlying 4).getD .bool) (by kernel_rfl) (by kernel_rfl) (by kernel_rfl),eqn_leaf (by kernel_rfl)⟩
theorem ty5 : TyOK Try.prog 5 ⟨.int .u8,1,1,.int .u8 0,[.int .u8]⟩ := ⟨by kernel_rfl,by kernel_rfl,by kernel_rfl,by kernel_rfl,by kernel_rfl,by kernel_rfl,by decide,fun _ => eqTy_leaf (d := (Try.prog.underlying 5).getD .bool) (by kernel_rfl) (by kernel_rfl) (by kernel_rfl),eqn_leaf (by kernel_rfl)⟩
theorem ty6 : TyOK Try.prog 6 ⟨.int .u8,1,1,.int .u8 0,[.int .u8]⟩ := ⟨by kernel_rfl,by kernel_rfl,by kernel_rfl,by kernel_rfl,by kernel_rfl,by kernel_rfl,by decide,fun _ => eqTy_leaf (d := (Try.prog.underlying 6).getD .bool) (by kernel_rfl) (by kernel_rfl) (by kernel_rfl),eqn_leaf (by kernel_rfl)⟩
theorem ty7 : TyOK Try.prog 7 ⟨.strct [(0,2),(1,3),(2,4),(3,6)],4,24,.agg [.int .i64 0,.int .i64 0,.bool false,.int .u8 0],[]⟩ := ⟨by kernel_rfl,by kernel_rfl,by kernel_rfl,by kernel_rfl,by kernel_rfl,by kernel_rfl,by decide,eq_none,eqn_none⟩
theorem ty8 : TyOK Try.prog 8 ⟨.strct [(0,2),(1,3),(2,4),(3,6)],4,24,.agg [.int .i64 0,.int .i64 0,.bool false,.int .u8 0],[]⟩ := ⟨by kernel_rfl,by kernel_rfl,by kernel_rfl,by kernel_rfl,by kernel_rfl,by kernel_rfl,by decide,eq_none,eqn_none⟩
theorem ty9 : TyOK Try.prog 9 ⟨.str,1,16,.str [],[.str]⟩ := ⟨by kernel_rfl,by kernel_rfl,by kernel_rfl,by kernel_rfl,by kernel_rfl,by kernel_rfl,by decide,fun _ => eqTy_leaf (d := (Try.prog.underlying 9).getD .bool) (by kernel_rfl) (by kernel_rfl) (by kernel_rfl),eqn_leaf (by kernel_rfl)⟩
theorem ty10 : TyOK Try.prog 10 ⟨.str,1,16,.str [],[.str]⟩ := ⟨by kernel_rfl,by kernel_rfl,by kernel_rfl,by kernel_rfl,by kernel_rfl,by kernel_rfl,by decide,fun _ => eqTy_leaf (d := (Try.prog.underlying 10).getD .bool) (by kernel_rfl) (by kernel_rfl) (by kernel_rfl),eqn_leaf (by kernel_rfl)⟩
theorem ty11 : TyOK Try.prog 11 ⟨.str,1,16,.str [],[.str]⟩ := ⟨by kernel_rfl,by kernel_rfl,by kernel_rfl,by kernel_rfl,by kernel_rfl,by kernel_rfl,by decide,fun _ => eqTy_leaf (d := (Try.prog.underlying 11).getD .bool) (by kernel_rfl) (by kernel_rfl) (by kernel_rfl),eqn_leaf (by kernel_rfl)⟩
theorem ty12 : TyOK Try.prog 12 ⟨.int .u64,1,8,.int .u64 0,[.int .u64]⟩ := ⟨by kernel_rfl,by kernel_rfl,by kernel_rfl,by kernel_rfl,by kernel_rfl,by kernel_rfl,by decide,fun _ => eqTy_leaf (d := (Try.prog.underlying 12).getD .bool) (by kernel_rfl) (by kernel_rfl) (by kernel_rfl),eqn_leaf (by kernel_rfl)⟩
theorem ty13 : TyOK Try.prog 13 ⟨.strct [(0,9),(1,12)],2,24,.agg [.str [],.int .u64 0],[]⟩ := ⟨by kernel_rfl,by kernel_rfl,by kernel_rfl,by kernel_rfl,by kernel_rfl,by kernel_rfl,by decide,eq_none,eqn_none⟩
theorem ty14 : TyOK Try.prog 14 ⟨.strct [(0,9),(1,12)],2,24,.agg [.str [],.int .u64 0],[]⟩ := ⟨by kernel_rfl,by kernel_rfl,by kernel_rfl,by kernel_rfl,by kernel_rfl,by kernel_rfl,by decide,eq_none,eqn_none⟩
theorem ty15 : TyOK Try.prog 15 ⟨.ptr,1,8,.nilp,[]⟩ := ⟨by kernel_rfl,by kernel_rfl,by kernel_rfl,by kernel_rfl,by kernel_rfl,by kernel_rfl,by decide,eq_none,eqn_none⟩
theorem ty16 : TyOK Try.prog 16 ⟨.ptr,1,8,.nilp,[]⟩ := ⟨by kernel_rfl,by kernel_rfl,by kernel_rfl,by kernel_rfl,by kernel_rfl,by kernel_rfl,by decide,eq_none,eqn_none⟩
theorem ty17 : TyOK Try.prog 17 ⟨.ptr,1,8,.nilp,[]⟩ := ⟨by kernel_rfl,by kernel_rfl,by kernel_rfl,by kernel_rfl,by kernel_rfl,by kernel_rfl,by decide,eq_none,eqn_none⟩
theorem ty18 : TyOK Try.prog 18 ⟨.strct [(0,17)],1,8,.agg [.nilp],[]⟩ := ⟨by kernel_rfl,by kernel_rfl,by kernel_rfl,by kernel_rfl,by kernel_rfl,by kernel_rfl,by decide,eq_none,eqn_none⟩
theorem ty19 : TyOK Try.prog 19 ⟨.strct [(0,17)],1,8,.agg [.nilp],[]⟩ := ⟨by kernel_rfl,by kernel_rfl,by kernel_rfl,by kernel_rfl,by kernel_rfl,by kernel_rfl,by decide,eq_none,eqn_none⟩
theorem ty21 : TyOK Try.prog 21 ⟨.int .i32,1,4,.int .i32 0,[.int .i32]⟩ := ⟨by kernel_rfl,by kernel_rfl,by kernel_rfl,by kernel_rfl,by kernel_rfl,by kernel_rfl,by decide,fun _ => eqTy_leaf (d := (Try.prog.underlying 21).getD .bool) (by kernel_rfl) (by kernel_rfl) (by kernel_rfl),eqn_leaf (by kernel_rfl)⟩
theorem ty22 : TyOK Try.prog 22 ⟨.slice 5,1,24,.nil,[]⟩ := ⟨by kernel_rfl,by kernel_rfl,by kernel_rfl,by kernel_rfl,by kernel_rfl,by kernel_rfl,by decide,eq_none,eqn_none⟩
theorem ty23 : TyOK Try.prog 23 ⟨.func,1,8,.nilf,[]⟩ := ⟨by kernel_rfl,by kernel_rfl,by kernel_rfl,by kernel_rfl,by kernel_rfl,by kernel_rfl,by decide,eq_none,eqn_none⟩
theorem ty24 : TyOK Try.prog 24 ⟨.slice 61,1,24,.nil,[]⟩ := ⟨by kernel_rfl,by kernel_rfl,by kernel_rfl,by kernel_rfl,by kernel_rfl,by kernel_rfl,by decide,eq_none,eqn_none⟩
theorem ty25 : TyOK Try.prog 25 ⟨.slice 37,1,24,.nil,[]⟩ := ⟨by kernel_rfl,by kernel_rfl,by kernel_rfl,by kernel_rfl,by kernel_rfl,by kernel_rfl,by decide,eq_none,eqn_none⟩
theorem ty26 : TyOK Try.prog 26 ⟨.strct [(0,24),(1,25)],2,48,.agg [.nil,.nil],[]⟩ := ⟨by kernel_rfl,by kernel_rfl,by kernel_rfl,by kernel_rfl,by kernel_rfl,by kernel_rfl,by decide,eq_none,eqn_none⟩
theorem ty27 : TyOK Try.prog 27 ⟨.strct [(0,24),(1,25)],2,48,.agg [.nil,.nil],[]⟩ := ⟨by kernel_rfl,by kernel_rfl,by kernel_rfl,by kernel_rfl,by kernel_rfl,by kernel_rfl,by decide,eq_none,eqn_none⟩
theorem ty28 : TyOK Try.prog 28 ⟨.strct [(0,27),(2,3),(3,3)],4,64,.agg [.nil,.nil,.int .i64 0,.int .i64 0],[]⟩ := ⟨by kernel_rfl,by kernel_rfl,by kernel_rfl,by kernel_rfl,by kernel_rfl,by kernel_rfl,by decide,eq_none,eqn_none⟩
theorem ty29 : TyOK Try.prog 29 ⟨.strct [(0,27),(2,3),(3,3)],4,64,.agg [.nil,.nil,.int .i64 0,.int .i64 0],[]⟩ := ⟨by kernel_rfl,by kernel_rfl,by kernel_rfl,by kernel_rfl,by kernel_rfl,by kernel_rfl,by decide,eq_none,eqn_none⟩
theorem ty30 : TyOK Try.prog 30 ⟨.func,1,8,.nilf,[]⟩ := ⟨by kernel_rfl,by kernel_rfl,by kernel_rfl,by kernel_rfl,by kernel_rfl,by kernel_rfl,by decide,eq_none,eqn_none⟩
theorem ty31 : TyOK Try.prog 31 ⟨.func,1,8,.nilf,[]⟩ := ⟨by kernel_rfl,by kernel_rfl,by kernel_rfl,by kernel_rfl,by kernel_rfl,by kernel_rfl,by decide,eq_none,eqn_none⟩
theorem ty32 : TyOK Try.prog 32 ⟨.slice 35,1,24,.nil,[]⟩ := ⟨by kernel_rfl,by kernel_rfl,by kernel_rfl,by kernel_rfl,by kernel_rfl,by kernel_rfl,by decide,eq_none,eqn_none⟩
theorem ty33 : TyOK Try.prog 33 ⟨.slice 135,1,24,.nil,[]⟩ := ⟨by kernel_rfl,by kernel_rfl,by kernel_rfl,by kernel_rfl,by kernel_rfl,by kernel_rfl,by decide,eq_none,eqn_none⟩
theorem ty34 : TyOK Try.prog 34 ⟨.strct [(0,3),(1,3),(2,9),(3,3),(4,32),(5,33)],6,88,.agg [.int .i64 0,.int .i64 0,.str [],.int .i64 0,.nil,.nil],[]⟩ := ⟨by kernel_rfl,by kernel_rfl,by kernel_rfl,by kernel_rfl,by kernel_rfl,by kernel_rfl,by decide,eq_none,eqn_none⟩
theorem ty35 : TyOK Try.prog 35 ⟨.strct [(0,3),(1,3),(2,9),(3,3),(4,32),(5,33)],6,88,.agg [.int .i64 0,.int .i64 0,.str [],.int .i64 0,.nil,.nil],[]⟩ := ⟨by kernel_rfl,by kernel_rfl,by kernel_rfl,by kernel_rfl,by kernel_rfl,by kernel_rfl,by decide,eq_none,eqn_none⟩
theorem ty36 : TyOK Try.prog 36 ⟨.strct [(0,9),(1,3),(2,35)],8,112,.agg [.str [],.int .i64 0,.int .i64 0,.int .i64 0,.str [],.int .i64 0,.nil,.nil],[]⟩ := ⟨by kernel_rfl,by kernel_rfl,by kernel_rfl,by kernel_rfl,by kernel_rfl,by kernel_rfl,by decide,eq_none,eqn_none⟩
theorem ty37 : TyOK Try.prog 37 ⟨.strct [(0,9),(1,3),(2,35)],8,112,.agg [.str [],.int .i64 0,.int .i64 0,.int .i64 0,.str [],.int .i64 0,.nil,.nil],[]⟩ := ⟨by kernel_rfl,by kernel_rfl,by kernel_rfl,by kernel_rfl,by kernel_rfl,by kernel_rfl,by decide,eq_none,eqn_none⟩
theorem ty38 : TyOK Try.prog 38 ⟨.slice 9,1,24,.nil,[]⟩ := ⟨by kernel_rfl,by kernel_rfl,by kernel_rfl,by kernel_rfl,by kernel_rfl,by kernel_rfl,by decide,eq_none,eqn_none⟩
theorem ty39 : TyOK Try.prog 39 ⟨.func,1,8,.nilf,[]⟩ := ⟨by kernel_rfl,by kernel_rfl,by kernel_rfl,by kernel_rfl,by kernel_rfl,by kernel_rfl,by decide,eq_none,eqn_none⟩
theorem ty40 : TyOK Try.prog 40 ⟨.func,1,8,.nilf,[]⟩ := ⟨by kernel_rfl,by kernel_rfl,by kernel_rfl,by kernel_rfl,by kernel_rfl,by kernel_rfl,by decide,eq_none,eqn_none⟩
theorem ty41 : TyOK Try.prog 41 ⟨.func,1,8,.nilf,[]⟩ := ⟨by kernel_rfl,by kernel_rfl,by kernel_rfl,by kernel_rfl,by kernel_rfl,by kernel_rfl,by decide,eq_none,eqn_none⟩
theorem ty42 : TyOK Try.prog 42 ⟨.func,1,8,.nilf,[]⟩ := ⟨by kernel_rfl,by kernel_rfl,by kernel_rfl,by kernel_rfl,by kernel_rfl,by kernel_rfl,by decide,eq_none,eqn_none⟩
theorem ty43 : TyOK Try.prog 43 ⟨.func,1,8,.nilf,[]⟩ := ⟨by kernel_rfl,by kernel_rfl,by kernel_rfl,by kernel_rfl,by kernel_rfl,by kernel_rfl,by decide,eq_none,eqn_none⟩
theorem ty44 : TyOK Try.prog 44 ⟨.func,1,8,.nilf,[]⟩ := ⟨by kernel_rfl,by kernel_rfl,by kernel_rfl,by kernel_rfl,by kernel_rfl,by kernel_rfl,by decide,eq_none,eqn_none⟩
theorem ty45 : TyOK Try.prog 45 ⟨.slice 52,1,24,.nil,[]⟩ := ⟨by kernel_rfl,by kernel_rfl,by kernel_rfl,by kernel_rfl,by kernel_rfl,by kernel_rfl,by decide,eq_none,eqn_none⟩
theorem ty46 : TyOK Try.prog 46 ⟨.func,1,8,.nilf,[]⟩ := ⟨by kernel_rfl,by kernel_rfl,by kernel_rfl,by kernel_rfl,by kernel_rfl,by kernel_rfl,by decide,eq_none,eqn_none⟩
theorem ty47 : TyOK Try.prog 47 ⟨.func,1,8,.nilf,[]⟩ := ⟨by kernel_rfl,by kernel_rfl,by kernel_rfl,by kernel_rfl,by kernel_rfl,by kernel_rfl,by decide,eq_none,eqn_none⟩
theorem ty48 : TyOK Try.prog 48 ⟨.slice 22,1,24,.nil,[]⟩ := ⟨by kernel_rfl,by kernel_rfl,by kernel_rfl,by kernel_rfl,by kernel_rfl,by kernel_rfl,by decide,eq_none,eqn_none⟩
theorem ty49 : TyOK Try.prog 49 ⟨.func,1,8,.nilf,[]⟩ := ⟨by kernel_rfl,by kernel_rfl,by kernel_rfl,by kernel_rfl,by kernel_rfl,by kernel_rfl,by decide,eq_none,eqn_none⟩
theorem ty50 : TyOK Try.prog 50 ⟨.func,1,8,.nilf,[]⟩ := ⟨by kernel_rfl,by kernel_rfl,by kernel_rfl,by kernel_rfl,by kernel_rfl,by kernel_rfl,by decide,eq_none,eqn_none⟩
theorem ty51 : TyOK Try.prog 51 ⟨.func,1,8,.nilf,[]⟩ := ⟨by kernel_rfl,by kernel_rfl,by kernel_rfl,by kernel_rfl,by kernel_rfl,by kernel_rfl,by decide,eq_none,eqn_none⟩
theorem ty52 : TyOK Try.prog 52 ⟨.slice 3,1,24,.nil,[]⟩ := ⟨by kernel_rfl,by kernel_rfl,by kernel_rfl,by kernel_rfl,by kernel_rfl,by kernel_rfl,by decide,eq_none,eqn_none⟩
theorem ty53 : TyOK Try.prog 53 ⟨.func,1,8,.nilf,[]⟩ := ⟨by kernel_rfl,by kernel_rfl,by kernel_rfl,by kernel_rfl,by kernel_rfl,by kernel_rfl,by decide,eq_none,eqn_none⟩
theorem ty54 : TyOK Try.prog 54 ⟨.int .i64,1,8,.int .i64 0,[.int .i64]⟩ := ⟨by kernel_rfl,by kernel_rfl,by kernel_rfl,by kernel_rfl,by kernel_rfl,by kernel_rfl,by decide,fun _ => eqTy_leaf (d := (Try.prog.underlying 54).getD .bool) (by kernel_rfl) (by kernel_rfl) (by kernel_rfl),eqn_leaf (by kernel_rfl)⟩
theorem ty56 : TyOK Try.prog 56 ⟨.func,1,8,.nilf,[]⟩ := ⟨by kernel_rfl,by kernel_rfl,by kernel_rfl,by kernel_rfl,by kernel_rfl,by kernel_rfl,by decide,eq_none,eqn_none⟩
theorem ty57 : TyOK Try.prog 57 ⟨.func,1,8,.nilf,[]⟩ := ⟨by kernel_rfl,by kernel_rfl,by kernel_rfl,by kernel_rfl,by kernel_rfl,by kernel_rfl,by decide,eq_none,eqn_none⟩
theorem ty58 : TyOK Try.prog 58 ⟨.func,1,8,.nilf,[]⟩ := ⟨by kernel_rfl,by kernel_rfl,by kernel_rfl,by kernel_rfl,by kernel_rfl,by kernel_rfl,by decide,eq_none,eqn_none⟩
theorem ty59 : TyOK Try.prog 59 ⟨.slice 64,1,24,.nil,[]⟩ := ⟨by kernel_rfl,by kernel_rfl,by kernel_rfl,by kernel_rfl,by kernel_rfl,by kernel_rfl,by decide,eq_none,eqn_none⟩
theorem ty60 : TyOK Try.prog 60 ⟨.strct [(0,9),(1,3),(2,38),(3,59)],4,72,.agg [.str [],.int .i64 0,.nil,.nil],[]⟩ := ⟨by kernel_rfl,by kernel_rfl,by kernel_rfl,by kernel_rfl,by kernel_rfl,by kernel_rfl,by decide,eq_none,eqn_none⟩
theorem ty61 : TyOK Try.prog 61 ⟨.strct [(0,9),(1,3),(2,38),(3,59)],4,72,.agg [.str [],.int .i64 0,.nil,.nil],[]⟩ := ⟨by kernel_rfl,by kernel_rfl,by kernel_rfl,by kernel_rfl,by kernel_rfl,by kernel_rfl,by decide,eq_none,eqn_none⟩
theorem ty62 : TyOK Try.prog 62 ⟨.slice 68,1,24,.nil,[]⟩ := ⟨by kernel_rfl,by kernel_rfl,by kernel_rfl,by kernel_rfl,by kernel_rfl,by kernel_rfl,by decide,eq_none,eqn_none⟩
theorem ty63 : TyOK Try.prog 63 ⟨.strct [(0,9),(1,3),(2,62)],3,48,.agg [.str [],.int .i64 0,.nil],[]⟩ := ⟨by kernel_rfl,by kernel_rfl,by kernel_rfl,by kernel_rfl,by kernel_rfl,by kernel_rfl,by decide,eq_none,eqn_none⟩
theorem ty64 : TyOK Try.prog 64 ⟨.strct [(0,9),(1,3),(2,62)],3,48,.agg [.str [],.int .i64 0,.nil],[]⟩ := ⟨by kernel_rfl,by kernel_rfl,by kernel_rfl,by kernel_rfl,by kernel_rfl,by kernel_rfl,by decide,eq_none,eqn_none⟩
theorem ty66 : TyOK Try.prog 66 ⟨.func,1,8,.nilf,[]⟩ := ⟨by kernel_rfl,by kernel_rfl,by kernel_rfl,by kernel_rfl,by kernel_rfl,by kernel_rfl,by decide,eq_none,eqn_none⟩
theorem ty67 : TyOK Try.prog 67 ⟨.strct [(0,3),(1,3),(2,9),(3,62)],4,56,.agg [.int .i64 0,.int .i64 0,.str [],.nil],[]⟩ := ⟨by kernel_rfl,by kernel_rfl,by kernel_rfl,by kernel_rfl,by kernel_rfl,by kernel_rfl,by decide,eq_none,eqn_none⟩
theorem ty68 : TyOK Try.prog 68 ⟨.strct [(0,3),(1,3),(2,9),(3,62)],4,56,.agg [.int .i64 0,.int .i64 0,.str [],.nil],[]⟩ := ⟨by kernel_rfl,by kernel_rfl,by kernel_rfl,by kernel_rfl,by kernel_rfl,by kernel_rfl,by decide,eq_none,eqn_none⟩
theorem ty70 : TyOK Try.prog 70 ⟨.func,1,8,.nilf,[]⟩ := ⟨by kernel_rfl,by kernel_rfl,by kernel_rfl,by kernel_rfl,by kernel_rfl,by kernel_rfl,by decide,eq_none,eqn_none⟩
theorem ty71 : TyOK Try.prog 71 ⟨.func,1,8,.nilf,[]⟩ := ⟨by kernel_rfl,by kernel_rfl,by kernel_rfl,by kernel_rfl,by kernel_rfl,by kernel_rfl,by decide,eq_none,eqn_none⟩
theorem ty72 : TyOK Try.prog 72 ⟨.func,1,8,.nilf,[]⟩ := ⟨by kernel_rfl,by kernel_rfl,by kernel_rfl,by kernel_rfl,by kernel_rfl,by kernel_rfl,by decide,eq_none,eqn_none⟩
theorem ty73 : TyOK Try.prog 73 ⟨.strct [(0,3),(1,3)],2,16,.agg [.int .i64 0,.int .i64 0],[]⟩ := ⟨by kernel_rfl,by kernel_rfl,by kernel_rfl,by kernel_rfl,by kernel_rfl,by kernel_rfl,by decide,eq_none,eqn_none⟩
theorem ty74 : TyOK Try.prog 74 ⟨.strct [(0,3),(1,3)],2,16,.agg [.int .i64 0,.int .i64 0],[]⟩ := ⟨by kernel_rfl,by kernel_rfl,by kernel_rfl,by kernel_rfl,by kernel_rfl,by kernel_rfl,by decide,eq_none,eqn_none⟩
theorem ty75 : TyOK Try.prog 75 ⟨.func,1,8,.nilf,[]⟩ := ⟨by kernel_rfl,by kernel_rfl,by kernel_rfl,by kernel_rfl,by kernel_rfl,by kernel_rfl,by decide,eq_none,eqn_none⟩
theorem ty76 : TyOK Try.prog 76 ⟨.func,1,8,.nilf,[]⟩ := ⟨by kernel_rfl,by kernel_rfl,by kernel_rfl,by kernel_rfl,by kernel_rfl,by kernel_rfl,by decide,eq_none,eqn_none⟩
theorem ty77 : TyOK Try.prog 77 ⟨.func,1,8,.nilf,[]⟩ := ⟨by kernel_rfl,by kernel_rfl,by kernel_rfl,by kernel_rfl,by kernel_rfl,by kernel_rfl,by decide,eq_none,eqn_none⟩
theorem ty78 : TyOK Try.prog 78 ⟨.func,1,8,.nilf,[]⟩ := ⟨by kernel_rfl,by kernel_rfl,by kernel_rfl,by kernel_rfl,by kernel_rfl,by kernel_rfl,by decide,eq_none,eqn_none⟩
theorem ty79 : TyOK Try.prog 79 ⟨.slice 88,1,24,.nil,[]⟩ := ⟨by kernel_rfl,by kernel_rfl,by kernel_rfl,by kernel_rfl,by kernel_rfl,by kernel_rfl,by decide,eq_none,eqn_none⟩
theorem ty80 : TyOK Try.prog 80 ⟨.strct [(0,79),(1,3),(2,3)],3,40,.agg [.nil,.int .i64 0,.int .i64 0],[]⟩ := ⟨by kernel_rfl,by kernel_rfl,by kernel_rfl,by kernel_rfl,by kernel_rfl,by kernel_rfl,by decide,eq_none,eqn_none⟩
theorem ty81 : TyOK Try.prog 81 ⟨.strct [(0,79),(1,3),(2,3)],3,40,.agg [.nil,.int .i64 0,.int .i64 0],[]⟩ := ⟨by kernel_rfl,by kernel_rfl,by kernel_rfl,by kernel_rfl,by kernel_rfl,by kernel_rfl,by decide,eq_none,eqn_none⟩
theorem ty82 : TyOK Try.prog 82 ⟨.func,1,8,.nilf,[]⟩ := ⟨by kernel_rfl,by kernel_rfl,by kernel_rfl,by kernel_rfl,by kernel_rfl,by kernel_rfl,by decide,eq_none,eqn_none⟩
theorem ty83 : TyOK Try.prog 83 ⟨.ptr,1,8,.nilp,[]⟩ := ⟨by kernel_rfl,by kernel_rfl,by kernel_rfl,by kernel_rfl,by kernel_rfl,by kernel_rfl,by decide,eq_none,eqn_none⟩
theorem ty84 : TyOK Try.prog 84 ⟨.strct [(0,79),(1,3),(2,3),(3,4),(4,3)],5,56,.agg [.nil,.int .i64 0,.int .i64 0,.bool false,.int .i64 0],[]⟩ := ⟨by kernel_rfl,by kernel_rfl,by kernel_rfl,by kernel_rfl,by kernel_rfl,by kernel_rfl,by decide,eq_none,eqn_none⟩
theorem ty85 : TyOK Try.prog 85 ⟨.strct [(0,79),(1,3),(2,3),(3,4),(4,3)],5,56,.agg [.nil,.int .i64 0,.int .i64 0,.bool false,.int .i64 0],[]⟩ := ⟨by kernel_rfl,by kernel_rfl,by kernel_rfl,by kernel_rfl,by kernel_rfl,by kernel_rfl,by decide,eq_none,eqn_none⟩
theorem ty86 : TyOK Try.prog 86 ⟨.func,1,8,.nilf,[]⟩ := ⟨by kernel_rfl,by kernel_rfl,by kernel_rfl,by kernel_rfl,by kernel_rfl,by kernel_rfl,by decide,eq_none,eqn_none⟩
theorem ty87 : TyOK Try.prog 87 ⟨.strct [(0,3),(1,3),(2,9),(3,3)],4,40,.agg [.int .i64 0,.int .i64 0,.str [],.int .i64 0],[]⟩ := ⟨by kernel_rfl,by kernel_rfl,by kernel_rfl,by kernel_rfl,by kernel_rfl,by kernel_rfl,by decide,eq_none,eqn_none⟩
theorem ty88 : TyOK Try.prog 88 ⟨.strct [(0,3),(1,3),(2,9),(3,3)],4,40,.agg [.int .i64 0,.int .i64 0,.str [],.int .i64 0],[]⟩ := ⟨by kernel_rfl,by kernel_rfl,by kernel_rfl,by kernel_rfl,by kernel_rfl,by kernel_rfl,by decide,eq_none,eqn_none⟩
theorem ty89 : TyOK Try.prog 89 ⟨.func,1,8,.nilf,[]⟩ := ⟨by kernel_rfl,by kernel_rfl,by kernel_rfl,by kernel_rfl,by kernel_rfl,by kernel_rfl,by decide,eq_none,eqn_none⟩
theorem ty90 : TyOK Try.prog 90 ⟨.func,1,8,.nilf,[]⟩ := ⟨by kernel_rfl,by kernel_rfl,by kernel_rfl,by kernel_rfl,by kernel_rfl,by kernel_rfl,by decide,eq_none,eqn_none⟩
theorem ty91 : TyOK Try.prog 91 ⟨.func,1,8,.nilf,[]⟩ := ⟨by kernel_rfl,by kernel_rfl,by kernel_rfl,by kernel_rfl,by kernel_rfl,by kernel_rfl,by decide,eq_none,eqn_none⟩
theorem ty92 : TyOK Try.prog 92 ⟨.func,1,8,.nilf,[]⟩ := ⟨by kernel_rfl,by kernel_rfl,by kernel_rfl,by kernel_rfl,by kernel_rfl,by kernel_rfl,by decide,eq_none,eqn_none⟩
theorem ty93 : TyOK Try.prog 93 ⟨.func,1,8,.nilf,[]⟩ := ⟨by kernel_rfl,by kernel_rfl,by kernel_rfl,by kernel_rfl,by kernel_rfl,by kernel_rfl,by decide,eq_none,eqn_none⟩
theorem ty94 : TyOK Try.prog 94 ⟨.func,1,8,.nilf,[]⟩ := ⟨by kernel_rfl,by kernel_rfl,by kernel_rfl,by kernel_rfl,by kernel_rfl,by kernel_rfl,by decide,eq_none,eqn_none⟩
theorem ty95 : TyOK Try.prog 95 ⟨.func,1,8,.nilf,[]⟩ := ⟨by kernel_rfl,by kernel_rfl,by kernel_rfl,by kernel_rfl,by kernel_rfl,by kernel_rfl,by decide,eq_none,eqn_none⟩
theorem ty96 : TyOK Try.prog 96 ⟨.func,1,8,.nilf,[]⟩ := ⟨by kernel_rfl,by kernel_rfl,by kernel_rfl,by kernel_rfl,by kernel_rfl,by kernel_rfl,by decide,eq_none,eqn_none⟩
theorem ty97 : TyOK Try.prog 97 ⟨.ptr,1,8,.nilp,[]⟩ := ⟨by kernel_rfl,by kernel_rfl,by kernel_rfl,by kernel_rfl,by kernel_rfl,by kernel_rfl,by decide,eq_none,eqn_none⟩
theorem ty98 : TyOK Try.prog 98 ⟨.map 140 3,1,8,.nilm,[]⟩ := ⟨by kernel_rfl,by kernel_rfl,by kernel_rfl,by kernel_rfl,by kernel_rfl,by kernel_rfl,by decide,eq_none,eqn_none⟩
theorem ty99 : TyOK Try.prog 99 ⟨.strct [(0,98),(1,38)],2,32,.agg [.nilm,.nil],[]⟩ := ⟨by kernel_rfl,by kernel_rfl,by kernel_rfl,by kernel_rfl,by kernel_rfl,by kernel_rfl,by decide,eq_none,eqn_none⟩
theorem ty100 : TyOK Try.prog 100 ⟨.strct [(0,98),(1,38)],2,32,.agg [.nilm,.nil],[]⟩ := ⟨by kernel_rfl,by kernel_rfl,by kernel_rfl,by kernel_rfl,by kernel_rfl,by kernel_rfl,by decide,eq_none,eqn_none⟩
theorem ty101 : TyOK Try.prog 101 ⟨.func,1,8,.nilf,[]⟩ := ⟨by kernel_rfl,by kernel_rfl,by kernel_rfl,by kernel_rfl,by kernel_rfl,by kernel_rfl,by decide,eq_none,eqn_none⟩
theorem ty102 : TyOK Try.prog 102 ⟨.func,1,8,.nilf,[]⟩ := ⟨by kernel_rfl,by kernel_rfl,by kernel_rfl,by kernel_rfl,by kernel_rfl,by kernel_rfl,by decide,eq_none,eqn_none⟩
theorem ty103 : TyOK Try.prog 103 ⟨.func,1,8,.nilf,[]⟩ := ⟨by kernel_rfl,by kernel_rfl,by kernel_rfl,by kernel_rfl,by kernel_rfl,by kernel_rfl,by decide,eq_none,eqn_none⟩
theorem ty104 : TyOK Try.prog 104 ⟨.func,1,8,.nilf,[]⟩ := ⟨by kernel_rfl,by kernel_rfl,by kernel_rfl,by kernel_rfl,by kernel_rfl,by kernel_rfl,by decide,eq_none,eqn_none⟩
theorem ty105 : TyOK Try.prog 105 ⟨.func,1,8,.nilf,[]⟩ := ⟨by kernel_rfl,by kernel_rfl,by kernel_rfl,by kernel_rfl,by kernel_rfl,by kernel_rfl,by decide,eq_none,eqn_none⟩
theorem ty106 : TyOK Try.prog 106 ⟨.map 9 3,1,8,.nilm,[]⟩ := ⟨by kernel_rfl,by kernel_rfl,by kernel_rfl,by kernel_rfl,by kernel_rfl,by kernel_rfl,by decide,eq_none,eqn_none⟩
theorem ty107 : TyOK Try.prog 107 ⟨.func,1,8,.nilf,[]⟩ := ⟨by kernel_rfl,by kernel_rfl,by kernel_rfl,by kernel_rfl,by kernel_rfl,by kernel_rfl,by decide,eq_none,eqn_none⟩
theorem ty108 : TyOK Try.prog 108 ⟨.func,1,8,.nilf,[]⟩ := ⟨by kernel_rfl,by kernel_rfl,by kernel_rfl,by kernel_rfl,by kernel_rfl,by kernel_rfl,by decide,eq_none,eqn_none⟩
theorem ty109 : TyOK Try.prog 109 ⟨.func,1,8,.nilf,[]⟩ := ⟨by kernel_rfl,by kernel_rfl,by kernel_rfl,by kernel_rfl,by kernel_rfl,by kernel_rfl,by decide,eq_none,eqn_none⟩
theorem ty111 : TyOK Try.prog 111 ⟨.func,1,8,.nilf,[]⟩ := ⟨by kernel_rfl,by kernel_rfl,by kernel_rfl,by kernel_rfl,by kernel_rfl,by kernel_rfl,by decide,eq_none,eqn_none⟩
theorem ty112 : TyOK Try.prog 112 ⟨.func,1,8,.nilf,[]⟩ := ⟨by kernel_rfl,by kernel_rfl,by kernel_rfl,by kernel_rfl,by kernel_rfl,by kernel_rfl,by decide,eq_none,eqn_none⟩
theorem ty113 : TyOK Try.prog 113 ⟨.strct [(0,9),(1,4)],2,24,.agg [.str [],.bool false],[]⟩ := ⟨by kernel_rfl,by kernel_rfl,by kernel_rfl,by kernel_rfl,by kernel_rfl,by kernel_rfl,by decide,eq_none,eqn_none⟩
theorem ty114 : TyOK Try.prog 114 ⟨.strct [(0,9),(1,4)],2,24,.agg [.str [],.bool false],[.str,.bool]⟩ := ⟨by kernel_rfl,by kernel_rfl,by kernel_rfl,by kernel_rfl,by kernel_rfl,by kernel_rfl,by decide,fun _ => eqTy_struct (fs := structOf (Try.prog.underlying 114)) (by kernel_rfl) (by kernel_rfl) (by kernel_rfl) (by kernel_rfl) (by kernel_rfl) (by kernel_rfl),eqn_leaf' (by kernel_rfl)⟩
theorem ty115 : TyOK Try.prog 115 ⟨.map 114 4,1,8,.nilm,[]⟩ := ⟨by kernel_rfl,by kernel_rfl,by kernel_rfl,by kernel_rfl,by kernel_rfl,by kernel_rfl,by decide,eq_none,eqn_none⟩
theorem ty116 : TyOK Try.prog 116 ⟨.func,1,8,.nilf,[]⟩ := ⟨by kernel_rfl,by kernel_rfl,by kernel_rfl,by kernel_rfl,by kernel_rfl,by kernel_rfl,by decide,eq_none,eqn_none⟩
theorem ty117 : TyOK Try.prog 117 ⟨.func,1,8,.nilf,[]⟩ := ⟨by kernel_rfl,by kernel_rfl,by kernel_rfl,by kernel_rfl,by kernel_rfl,by kernel_rfl,by decide,eq_none,eqn_none⟩
theorem ty118 : TyOK Try.prog 118 ⟨.func,1,8,.nilf,[]⟩ := ⟨by kernel_rfl,by kernel_rfl,by kernel_rfl,by kernel_rfl,by kernel_rfl,by kernel_rfl,by decide,eq_none,eqn_none⟩
theorem ty119 : TyOK Try.prog 119 ⟨.func,1,8,.nilf,[]⟩ := ⟨by kernel_rfl,by kernel_rfl,by kernel_rfl,by kernel_rfl,by kernel_rfl,by kernel_rfl,by decide,eq_none,eqn_none⟩
theorem ty120 : TyOK Try.prog 120 ⟨.func,1,8,.nilf,[]⟩ := ⟨by kernel_rfl,by kernel_rfl,by kernel_rfl,by kernel_rfl,by kernel_rfl,by kernel_rfl,by decide,eq_none,eqn_none⟩
theorem ty121 : TyOK Try.prog 121 ⟨.func,1,8,.nilf,[]⟩ := ⟨by kernel_rfl,by kernel_rfl,by kernel_rfl,by kernel_rfl,by kernel_rfl,by kernel_rfl,by decide,eq_none,eqn_none⟩
theorem ty122 : TyOK Try.prog 122 ⟨.func,1,8,.nilf,[]⟩ := ⟨by kernel_rfl,by kernel_rfl,by kernel_rfl,by kernel_rfl,by kernel_rfl,by kernel_rfl,by decide,eq_none,eqn_none⟩
theorem ty123 : TyOK Try.prog 123 ⟨.ptr,1,8,.nilp,[]⟩ := ⟨by kernel_rfl,by kernel_rfl,by kernel_rfl,by kernel_rfl,by kernel_rfl,by kernel_rfl,by decide,eq_none,eqn_none⟩
theorem ty124 : TyOK Try.prog 124 ⟨.map 128 3,1,8,.nilm,[]⟩ := ⟨by kernel_rfl,by kernel_rfl,by kernel_rfl,by kernel_rfl,by kernel_rfl,by kernel_rfl,by decide,eq_none,eqn_none⟩
theorem ty125 : TyOK Try.prog 125 ⟨.strct [(0,24),(1,124)],2,32,.agg [.nil,.nilm],[]⟩ := ⟨by kernel_rfl,by kernel_rfl,by kernel_rfl,by kernel_rfl,by kernel_rfl,by kernel_rfl,by decide,eq_none,eqn_none⟩
theorem ty126 : TyOK Try.prog 126 ⟨.strct [(0,24),(1,124)],2,32,.agg [.nil,.nilm],[]⟩ := ⟨by kernel_rfl,by kernel_rfl,by kernel_rfl,by kernel_rfl,by kernel_rfl,by kernel_rfl,by decide,eq_none,eqn_none⟩
theorem ty127 : TyOK Try.prog 127 ⟨.strct [(0,9)],1,16,.agg [.str []],[]⟩ := ⟨by kernel_rfl,by kernel_rfl,by kernel_rfl,by kernel_rfl,by kernel_rfl,by kernel_rfl,by decide,eq_none,eqn_none⟩
theorem ty128 : TyOK Try.prog 128 ⟨.strct [(0,9)],1,16,.agg [.str []],[.str]⟩ := ⟨by kernel_rfl,by kernel_rfl,by kernel_rfl,by kernel_rfl,by kernel_rfl,by kernel_rfl,by decide,fun _ => eqTy_struct (fs := structOf (Try.prog.underlying 128)) (by kernel_rfl) (by kernel_rfl) (by kernel_rfl) (by kernel_rfl) (by kernel_rfl) (by kernel_rfl),eqn_leaf' (by kernel_rfl)⟩
theorem ty129 : TyOK Try.prog 129 ⟨.func,1,8,.nilf,[]⟩ := ⟨by kernel_rfl,by kernel_rfl,by kernel_rfl,by kernel_rfl,by kernel_rfl,by kernel_rfl,by decide,eq_none,eqn_none⟩
theorem ty130 : TyOK Try.prog 130 ⟨.func,1,8,.nilf,[]⟩ := ⟨by kernel_rfl,by kernel_rfl,by kernel_rfl,by kernel_rfl,by kernel_rfl,by kernel_rfl,by decide,eq_none,eqn_none⟩
theorem ty131 : TyOK Try.prog 131 ⟨.func,1,8,.nilf,[]⟩ := ⟨by kernel_rfl,by kernel_rfl,by kernel_rfl,by kernel_rfl,by kernel_rfl,by kernel_rfl,by decide,eq_none,eqn_none⟩
theorem ty132 : TyOK Try.prog 132 ⟨.func,1,8,.nilf,[]⟩ := ⟨by kernel_rfl,by kernel_rfl,by kernel_rfl,by kernel_rfl,by kernel_rfl,by kernel_rfl,by decide,eq_none,eqn_none⟩
theorem ty133 : TyOK Try.prog 133 ⟨.func,1,8,.nilf,[]⟩ := ⟨by kernel_rfl,by kernel_rfl,by kernel_rfl,by kernel_rfl,by kernel_rfl,by kernel_rfl,by decide,eq_none,eqn_none⟩
theorem ty134 : TyOK Try.prog 134 ⟨.strct [(0,3),(1,9),(2,38),(3,35)],9,136,.agg [.int .i64 0,.str [],.nil,.int .i64 0,.int .i64 0,.str [],.int .i64 0,.nil,.nil],[]⟩ := ⟨by kernel_rfl,by kernel_rfl,by kernel_rfl,by kernel_rfl,by kernel_rfl,by kernel_rfl,by decide,eq_none,eqn_none⟩
theorem ty135 : TyOK Try.prog 135 ⟨.strct [(0,3),(1,9),(2,38),(3,35)],9,136,.agg [.int .i64 0,.str [],.nil,.int .i64 0,.int .i64 0,.str [],.int .i64 0,.nil,.nil],[]⟩ := ⟨by kernel_rfl,by kernel_rfl,by kernel_rfl,by kernel_rfl,by kernel_rfl,by kernel_rfl,by decide,eq_none,eqn_none⟩
theorem ty136 : TyOK Try.prog 136 ⟨.func,1,8,.nilf,[]⟩ := ⟨by kernel_rfl,by kernel_rfl,by kernel_rfl,by kernel_rfl,by kernel_rfl,by kernel_rfl,by decide,eq_none,eqn_none⟩
theorem ty137 : TyOK Try.prog 137 ⟨.func,1,8,.nilf,[]⟩ := ⟨by kernel_rfl,by kernel_rfl,by kernel_rfl,by kernel_rfl,by kernel_rfl,by kernel_rfl,by decide,eq_none,eqn_none⟩
theorem ty138 : TyOK Try.prog 138 ⟨.func,1,8,.nilf,[]⟩ := ⟨by kernel_rfl,by kernel_rfl,by kernel_rfl,by kernel_rfl,by kernel_rfl,by kernel_rfl,by decide,eq_none,eqn_none⟩
theorem ty139 : TyOK Try.prog 139 ⟨.strct [(0,9),(1,4)],2,24,.agg [.str [],.bool false],[]⟩ := ⟨by kernel_rfl,by kernel_rfl,by kernel_rfl,by kernel_rfl,by kernel_rfl,by kernel_rfl,by decide,eq_none,eqn_none⟩
theorem ty140 : TyOK Try.prog 140 ⟨.strct [(0,9),(1,4)],2,24,.agg [.str [],.bool false],[.str,.bool]⟩ := ⟨by kernel_rfl,by kernel_rfl,by kernel_rfl,by kernel_rfl,by kernel_rfl,by kernel_rfl,by decide,fun _ => eqTy_struct (fs := structOf (Try.prog.underlying 140)) (by kernel_rfl) (by kernel_rfl) (by kernel_rfl) (by kernel_rfl) (by kernel_rfl) (by kernel_rfl),eqn_leaf' (by kernel_rfl)⟩
theorem ty141 : TyOK Try.prog 141 ⟨.func,1,8,.nilf,[]⟩ := ⟨by kernel_rfl,by kernel_rfl,by kernel_rfl,by kernel_rfl,by kernel_rfl,by kernel_rfl,by decide,eq_none,eqn_none⟩
theorem ty142 : TyOK Try.prog 142 ⟨.func,1,8,.nilf,[]⟩ := ⟨by kernel_rfl,by kernel_rfl,by kernel_rfl,by kernel_rfl,by kernel_rfl,by kernel_rfl,by decide,eq_none,eqn_none⟩
theorem ty143 : TyOK Try.prog 143 ⟨.func,1,8,.nilf,[]⟩ := ⟨by kernel_rfl,by kernel_rfl,by kernel_rfl,by kernel_rfl,by kernel_rfl,by kernel_rfl,by decide,eq_none,eqn_none⟩
theorem ty144 : TyOK Try.prog 144 ⟨.func,1,8,.nilf,[]⟩ := ⟨by kernel_rfl,by kernel_rfl,by kernel_rfl,by kernel_rfl,by kernel_rfl,by kernel_rfl,by decide,eq_none,eqn_none⟩
theorem ty145 : TyOK Try.prog 145 ⟨.int .u64,1,8,.int .u64 0,[.int .u64]⟩ := ⟨by kernel_rfl,by kernel_rfl,by kernel_rfl,by kernel_rfl,by kernel_rfl,by kernel_rfl,by decide,fun _ => eqTy_leaf (d := (Try.prog.underlying 145).getD .bool) (by kernel_rfl) (by kernel_rfl) (by kernel_rfl),eqn_leaf (by kernel_rfl)⟩
theorem ty146 : TyOK Try.prog 146 ⟨.func,1,8,.nilf,[]⟩ := ⟨by kernel_rfl,by kernel_rfl,by kernel_rfl,by kernel_rfl,by kernel_rfl,by kernel_rfl,by decide,eq_none,eqn_none⟩
theorem ty147 : TyOK Try.prog 147 ⟨.func,1,8,.nilf,[]⟩ := ⟨by kernel_rfl,by kernel_rfl,by kernel_rfl,by kernel_rfl,by kernel_rfl,by kernel_rfl,by decide,eq_none,eqn_none⟩
theorem ty148 : TyOK Try.prog 148 ⟨.func,1,8,.nilf,[]⟩ := ⟨by kernel_rfl,by kernel_rfl,by kernel_rfl,by kernel_rfl,by kernel_rfl,by kernel_rfl,by decide,eq_none,eqn_none⟩
theorem ty149 : TyOK Try.prog 149 ⟨.func,1,8,.nilf,[]⟩ := ⟨by kernel_rfl,by kernel_rfl,by kernel_rfl,by kernel_rfl,by kernel_rfl,by kernel_rfl,by decide,eq_none,eqn_none⟩
theorem ty150 : TyOK Try.prog 150 ⟨.func,1,8,.nilf,[]⟩ := ⟨by kernel_rfl,by kernel_rfl,by kernel_rfl,by kernel_rfl,by kernel_rfl,by kernel_rfl,by decide,eq_none,eqn_none⟩
theorem ty151 : TyOK Try.prog 151 ⟨.func,1,8,.nilf,[]⟩ := ⟨by kernel_rfl,by kernel_rfl,by kernel_rfl,by kernel_rfl,by kernel_rfl,by kernel_rfl,by decide,eq_none,eqn_none⟩
theorem ty152 : TyOK Try.prog 152 ⟨.func,1,8,.nilf,[]⟩ := ⟨by kernel_rfl,by kernel_rfl,by kernel_rfl,by kernel_rfl,by kernel_rfl,by kernel_rfl,by decide,eq_none,eqn_none⟩
theorem ty153 : TyOK Try.prog 153 ⟨.func,1,8,.nilf,[]⟩ := ⟨by kernel_rfl,by kernel_rfl,by kernel_rfl,by kernel_rfl,by kernel_rfl,by kernel_rfl,by decide,eq_none,eqn_none⟩
theorem ty154 : TyOK Try.prog 154 ⟨.func,1,8,.nilf,[]⟩ := ⟨by kernel_rfl,by kernel_rfl,by kernel_rfl,by kernel_rfl,by kernel_rfl,by kernel_rfl,by decide,eq_none,eqn_none⟩
theorem ty155 : TyOK Try.prog 155 ⟨.int .i64,1,8,.int .i64 0,[.int .i64]⟩ := ⟨by kernel_rfl,by kernel_rfl,by kernel_rfl,by kernel_rfl,by kernel_rfl,by kernel_rfl,by decide,fun _ => eqTy_leaf (d := (Try.prog.underlying 155).getD .bool) (by kernel_rfl) (by kernel_rfl) (by kernel_rfl),eqn_leaf (by kernel_rfl)⟩
theorem ty157 : TyOK Try.prog 157 ⟨.func,1,8,.nilf,[]⟩ := ⟨by kernel_rfl,by kernel_rfl,by kernel_rfl,by kernel_rfl,by kernel_rfl,by kernel_rfl,by decide,eq_none,eqn_none⟩
theorem ty158 : TyOK Try.prog 158 ⟨.func,1,8,.nilf,[]⟩ := ⟨by kernel_rfl,by kernel_rfl,by kernel_rfl,by kernel_rfl,by kernel_rfl,by kernel_rfl,by decide,eq_none,eqn_none⟩
theorem ty159 : TyOK Try.prog 159 ⟨.func,1,8,.nilf,[]⟩ := ⟨by kernel_rfl,by kernel_rfl,by kernel_rfl,by kernel_rfl,by kernel_rfl,by kernel_rfl,by decide,eq_none,eqn_none⟩
theorem ty160 : TyOK Try.prog 160 ⟨.func,1,8,.nilf,[]⟩ := ⟨by kernel_rfl,by kernel_rfl,by kernel_rfl,by kernel_rfl,by kernel_rfl,by kernel_rfl,by decide,eq_none,eqn_none⟩
theorem ty161 : TyOK Try.prog 161 ⟨.func,1,8,.nilf,[]⟩ := ⟨by kernel_rfl,by kernel_rfl,by kernel_rfl,by kernel_rfl,by kernel_rfl,by kernel_rfl,by decide,eq_none,eqn_none⟩
theorem ty162 : TyOK Try.prog 162 ⟨.func,1,8,.nilf,[]⟩ := ⟨by kernel_rfl,by kernel_rfl,by kernel_rfl,by kernel_rfl,by kernel_rfl,by kernel_rfl,by decide,eq_none,eqn_none⟩
theorem ty163 : TyOK Try.prog 163 ⟨.int .u32,1,4,.int .u32 0,[.int .u32]⟩ := ⟨by kernel_rfl,by kernel_rfl,by kernel_rfl,by kernel_rfl,by kernel_rfl,by kernel_rfl,by decide,fun _ => eqTy_leaf (d := (Try.prog.underlying 163).getD .bool) (by kernel_rfl) (by kernel_rfl) (by kernel_rfl),eqn_leaf (by kernel_rfl)⟩
theorem ty164 : TyOK Try.prog 164 ⟨.func,1,8,.nilf,[]⟩ := ⟨by kernel_rfl,by kernel_rfl,by kernel_rfl,by kernel_rfl,by kernel_rfl,by kernel_rfl,by decide,eq_none,eqn_none⟩
theorem ty165 : TyOK Try.prog 165 ⟨.int .u64,1,8,.int .u64 0,[.int .u64]⟩ := ⟨by kernel_rfl,by kernel_rfl,by kernel_rfl,by kernel_rfl,by kernel_rfl,by kernel_rfl,by decide,fun _ => eqTy_leaf (d := (Try.prog.underlying 165).getD .bool) (by kernel_rfl) (by kernel_rfl) (by kernel_rfl),eqn_leaf (by kernel_rfl)⟩
theorem ty166 : TyOK Try.prog 166 ⟨.func,1,8,.nilf,[]⟩ := ⟨by kernel_rfl,by kernel_rfl,by kernel_rfl,by kernel_rfl,by kernel_rfl,by kernel_rfl,by decide,eq_none,eqn_none⟩
theorem ty167 : TyOK Try.prog 167 ⟨.func,1,8,.nilf,[]⟩ := ⟨by kernel_rfl,by kernel_rfl,by kernel_rfl,by kernel_rfl,by kernel_rfl,by kernel_rfl,by decide,eq_none,eqn_none⟩
theorem ty168 : TyOK Try.prog 168 ⟨.func,1,8,.nilf,[]⟩ := ⟨by kernel_rfl,by kernel_rfl,by kernel_rfl,by kernel_rfl,by kernel_rfl,by kernel_rfl,by decide,eq_none,eqn_none⟩
theorem ty169 : TyOK Try.prog 169 ⟨.map 128 4,1,8,.nilm,[]⟩ := ⟨by kernel_rfl,by kernel_rfl,by kernel_rfl,by kernel_rfl,by kernel_rfl,by kernel_rfl,by decide,eq_none,eqn_none⟩
theorem ty170 : TyOK Try.prog 170 ⟨.int .u64,1,8,.int .u64 0,[.int .u64]⟩ := ⟨by kernel_rfl,by kernel_rfl,by kernel_rfl,by kernel_rfl,by kernel_rfl,by kernel_rfl,by decide,fun _ => eqTy_leaf (d := (Try.prog.underlying 170).getD .bool) (by kernel_rfl) (by kernel_rfl) (by kernel_rfl),eqn_leaf (by kernel_rfl)⟩
theorem ty171 : TyOK Try.prog 171 ⟨.func,1,8,.nilf,[]⟩ := ⟨by kernel_rfl,by kernel_rfl,by kernel_rfl,by kernel_rfl,by kernel_rfl,by kernel_rfl,by decide,eq_none,eqn_none⟩
theorem ty172 : TyOK Try.prog 172 ⟨.func,1,8,.nilf,[]⟩ := ⟨by kernel_rfl,by kernel_rfl,by kernel_rfl,by kernel_rfl,by kernel_rfl,by kernel_rfl,by decide,eq_none,eqn_none⟩
theorem ty173 : TyOK Try.prog 173 ⟨.func,1,8,.nilf,[]⟩ := ⟨by kernel_rfl,by kernel_rfl,by kernel_rfl,by kernel_rfl,by kernel_rfl,by kernel_rfl,by decide,eq_none,eqn_none⟩
theorem ty174 : TyOK Try.prog 174 ⟨.ptr,1,8,.nilp,[]⟩ := ⟨by kernel_rfl,by kernel_rfl,by kernel_rfl,by kernel_rfl,by kernel_rfl,by kernel_rfl,by decide,eq_none,eqn_none⟩
theorem ty175 : TyOK Try.prog 175 ⟨.func,1,8,.nilf,[]⟩ := ⟨by kernel_rfl,by kernel_rfl,by kernel_rfl,by kernel_rfl,by kernel_rfl,by kernel_rfl,by decide,eq_none,eqn_none⟩
theorem ty176 : TyOK Try.prog 176 ⟨.func,1,8,.nilf,[]⟩ := ⟨by kernel_rfl,by kernel_rfl,by kernel_rfl,by kernel_rfl,by kernel_rfl,by kernel_rfl,by decide,eq_none,eqn_none⟩
theorem ty177 : TyOK Try.prog 177 ⟨.func,1,8,.nilf,[]⟩ := ⟨by kernel_rfl,by kernel_rfl,by kernel_rfl,by kernel_rfl,by kernel_rfl,by kernel_rfl,by decide,eq_none,eqn_none⟩
theorem ty178 : TyOK Try.prog 178 ⟨.func,1,8,.nilf,[]⟩ := ⟨by kernel_rfl,by kernel_rfl,by kernel_rfl,by kernel_rfl,by kernel_rfl,by kernel_rfl,by decide,eq_none,eqn_none⟩
theorem ty179 : TyOK Try.prog 179 ⟨.func,1,8,.nilf,[]⟩ := ⟨by kernel_rfl,by kernel_rfl,by kernel_rfl,by kernel_rfl,by kernel_rfl,by kernel_rfl,by decide,eq_none,eqn_none⟩
theorem ty180 : TyOK Try.prog 180 ⟨.func,1,8,.nilf,[]⟩ := ⟨by kernel_rfl,by kernel_rfl,by kernel_rfl,by kernel_rfl,by kernel_rfl,by kernel_rfl,by decide,eq_none,eqn_none⟩
theorem ty181 : TyOK Try.prog 181 ⟨.func,1,8,.nilf,[]⟩ := ⟨by kernel_rfl,by kernel_rfl,by kernel_rfl,by kernel_rfl,by kernel_rfl,by kernel_rfl,by decide,eq_none,eqn_none⟩
theorem ty182 : TyOK Try.prog 182 ⟨.func,1,8,.nilf,[]⟩ := ⟨by kernel_rfl,by kernel_rfl,by kernel_rfl,by kernel_rfl,by kernel_rfl,by kernel_rfl,by decide,eq_none,eqn_none⟩
theorem ty183 : TyOK Try.prog 183 ⟨.func,1,8,.nilf,[]⟩ := ⟨by kernel_rfl,by kernel_rfl,by kernel_rfl,by kernel_rfl,by kernel_rfl,by kernel_rfl,by decide,eq_none,eqn_none⟩
theorem ty184 : TyOK Try.prog 184 ⟨.ptr,1,8,.nilp,[]⟩ := ⟨by kernel_rfl,by kernel_rfl,by kernel_rfl,by kernel_rfl,by kernel_rfl,by kernel_rfl,by decide,eq_none,eqn_none⟩
theorem ty185 : TyOK Try.prog 185 ⟨.func,1,8,.nilf,[]⟩ := ⟨by kernel_rfl,by kernel_rfl,by kernel_rfl,by kernel_rfl,by kernel_rfl,by kernel_rfl,by decide,eq_none,eqn_none⟩
theorem ty186 : TyOK Try.prog 186 ⟨.func,1,8,.nilf,[]⟩ := ⟨by kernel_rfl,by kernel_rfl,by kernel_rfl,by kernel_rfl,by kernel_rfl,by kernel_rfl,by decide,eq_none,eqn_none⟩
theorem ty187 : TyOK Try.prog 187 ⟨.func,1,8,.nilf,[]⟩ := ⟨by kernel_rfl,by kernel_rfl,by kernel_rfl,by kernel_rfl,by kernel_rfl,by kernel_rfl,by decide,eq_none,eqn_none⟩
theorem ty188 : TyOK Try.prog 188 ⟨.func,1,8,.nilf,[]⟩ := ⟨by kernel_rfl,by kernel_rfl,by kernel_rfl,by kernel_rfl,by kernel_rfl,by kernel_rfl,by decide,eq_none,eqn_none⟩
theorem ty189 : TyOK Try.prog 189 ⟨.strct [(0,17),(1,17),(2,17),(3,9)],4,40,.agg [.nilp,.nilp,.nilp,.str []],[]⟩ := ⟨by kernel_rfl,by kernel_rfl,by kernel_rfl,by kernel_rfl,by kernel_rfl,by kernel_rfl,by decide,eq_none,eqn_none⟩
theorem ty190 : TyOK Try.prog 190 ⟨.strct [(0,17),(1,17),(2,17),(3,9)],4,40,.agg [.nilp,.nilp,.nilp,.str []],[]⟩ := ⟨by kernel_rfl,by kernel_rfl,by kernel_rfl,by kernel_rfl,by kernel_rfl,by kernel_rfl,by decide,eq_none,eqn_none⟩
theorem ty194 : TyOK Try.prog 194 ⟨.func,1,8,.nilf,[]⟩ := ⟨by kernel_rfl,by kernel_rfl,by kernel_rfl,by kernel_rfl,by kernel_rfl,by kernel_rfl,by decide,eq_none,eqn_none⟩
theorem ty195 : TyOK Try.prog 195 ⟨.int .u8,1,1,.int .u8 0,[.int .u8]⟩ := ⟨by kernel_rfl,by kernel_rfl,by kernel_rfl,by kernel_rfl,by kernel_rfl,by kernel_rfl,by decide,fun _ => eqTy_leaf (d := (Try.prog.underlying 195).getD .bool) (by kernel_rfl) (by kernel_rfl) (by kernel_rfl),eqn_leaf (by kernel_rfl)⟩
theorem ty196 : TyOK Try.prog 196 ⟨.int .u8,1,1,.int .u8 0,[.int .u8]⟩ := ⟨by kernel_rfl,by kernel_rfl,by kernel_rfl,by kernel_rfl,by kernel_rfl,by kernel_rfl,by decide,fun _ => eqTy_leaf (d := (Try.prog.underlying 196).getD .bool) (by kernel_rfl) (by kernel_rfl) (by kernel_rfl),eqn_leaf (by kernel_rfl)⟩
theorem ty197 : TyOK Try.prog 197 ⟨.func,1,8,.nilf,[]⟩ := ⟨by kernel_rfl,by kernel_rfl,by kernel_rfl,by kernel_rfl,by kernel_rfl,by kernel_rfl,by decide,eq_none,eqn_none⟩
theorem ty198 : TyOK Try.prog 198 ⟨.ptr,1,8,.nilp,[]⟩ := ⟨by kernel_rfl,by kernel_rfl,by kernel_rfl,by kernel_rfl,by kernel_rfl,by kernel_rfl,by decide,eq_none,eqn_none⟩
theorem ty199 : TyOK Try.prog 199 ⟨.int .i32,1,4,.int .i32 0,[.int .i32]⟩ := ⟨by kernel_rfl,by kernel_rfl,by kernel_rfl,by kernel_rfl,by kernel_rfl,by kernel_rfl,by decide,fun _ => eqTy_leaf (d := (Try.prog.underlying 199).getD .bool) (by kernel_rfl) (by kernel_rfl) (by kernel_rfl),eqn_leaf (by kernel_rfl)⟩
theorem ty200 : TyOK Try.prog 200 ⟨.int .i32,1,4,.int .i32 0,[.int .i32]⟩ := ⟨by kernel_rfl,by kernel_rfl,by kernel_rfl,by kernel_rfl,by kernel_rfl,by kernel_rfl,by decide,fun _ => eqTy_leaf (d := (Try.prog.underlying 200).getD .bool) (by kernel_rfl) (by kernel_rfl) (by kernel_rfl),eqn_leaf (by kernel_rfl)⟩
theorem ty201 : TyOK Try.prog 201 ⟨.strct [(0,12),(1,12),(2,163),(3,195),(4,5),(5,5),(6,196),(7,197),(8,198),(9,199),(10,200)],11,48,.agg [.int .u64 0,.int .u64 0,.int .u32 0,.int .u8 0,.int .u8 0,.int .u8 0,.int .u8 0,.nilf,.nilp,.int .i32 0,.int .i32 0],[]⟩ := ⟨by kernel_rfl,by kernel_rfl,by kernel_rfl,by kernel_rfl,by kernel_rfl,by kernel_rfl,by decide,eq_none,eqn_none⟩
theorem ty202 : TyOK Try.prog 202 ⟨.strct [(0,12),(1,12),(2,163),(3,195),(4,5),(5,5),(6,196),(7,197),(8,198),(9,199),(10,200)],11,48,.agg [.int .u64 0,.int .u64 0,.int .u32 0,.int .u8 0,.int .u8 0,.int .u8 0,.int .u8 0,.nilf,.nilp,.int .i32 0,.int .i32 0],[]⟩ := ⟨by kernel_rfl,by kernel_rfl,by kernel_rfl,by kernel_rfl,by kernel_rfl,by kernel_rfl,by decide,eq_none,eqn_none⟩
theorem allTy : AllTy Try.prog ctx.types 0 := ⟨(fun h => (by cases h)),(fun _ => ty1),(fun _ => ty2),(fun _ => ty3),(fun _ => ty4),(fun _ => ty5),(fun _ => ty6),(fun _ => ty7),(fun _ => ty8),(fun _ => ty9),(fun _ => ty10),(fun _ => ty11),(fun _ => ty12),(fun _ => ty13),(fun _ => ty14),(fun _ => ty15),(fun _ => ty16),(fun _ => ty17),(fun _ => ty18),(fun _ => ty19),(fun h => (by cases h)),(fun _ => ty21),(fun _ => ty22),(fun _ => ty23),(fun _ => ty24),(fun _ => ty25),(fun _ => ty26),(fun _ => ty27),(fun _ => ty28),(fun _ => ty29),(fun _ => ty30),(fun _ => ty31),(fun _ => ty32),(fun _ => ty33),(fun _ => ty34),(fun _ => ty35),(fun _ => ty36),(fun _ => ty37),(fun _ => ty38),(fun _ => ty39),(fun _ => ty40),(fun _ => ty41),(fun _ => ty42),(fun _ => ty43),(fun _ => ty44),(fun _ => ty45),(fun _ => ty46),(fun _ => ty47),(fun _ => ty48),(fun _ => ty49),(fun _ => ty50),(fun _ => ty51),(fun _ => ty52),(fun _ => ty53),(fun _ => ty54),(fun h => (by cases h)),(fun _ => ty56),(fun _ => ty57),(fun _ => ty58),(fun _ => ty59),(fun _ => ty60),(fun _ => ty61),(fun _ => ty62),(fun _ => ty63),(fun _ => ty64),(fun h => (by cases h)),(fun _ => ty66),(fun _ => ty67),(fun _ => ty68),(fun h => (by cases h)),(fun _ => ty70),(fun _ => ty71),(fun _ => ty72),(fun _ => ty73),(fun _ => ty74),(fun _ => ty75),(fun _ => ty76),(fun _ => ty77),(fun _ => ty78),(fun _ => ty79),(fun _ => ty80),(fun _ => ty81),(fun _ => ty82),(fun _ => ty83),(fun _ => ty84),(fun _ => ty85),(fun _ => ty86),(fun _ => ty87),(fun _ => ty88),(fun _ => ty89),(fun _ => ty90),(fun _ => ty91),(fun _ => ty92),(fun _ => ty93),(fun _ => ty94),(fun _ => ty95),(fun _ => ty96),(fun _ => ty97),(fun _ => ty98),(fun _ => ty99),(fun _ => ty100),(fun _ => ty101),(fun _ => ty102),(fun _ => ty103),(fun _ => ty104),(fun _ => ty105),(fun _ => ty106),(fun _ => ty107),(fun _ => ty108),(fun _ => ty109),(fun h => (by cases h)),(fun _ => ty111),(fun _ => ty112),(fun _ => ty113),(fun _ => ty114),(fun _ => ty115),(fun _ => ty116),(fun _ => ty117),(fun _ => ty118),(fun _ => ty119),(fun _ => ty120),(fun _ => ty121),(fun _ => ty122),(fun _ => ty123),(fun _ => ty124),(fun _ => ty125),(fun _ => ty126),(fun _ => ty127),(fun _ => ty128),(fun _ => ty129),(fun _ => ty130),(fun _ => ty131),(fun _ => ty132),(fun _ => ty133),(fun _ => ty134),(fun _ => ty135),(fun _ => ty136),(fun _ => ty137),(fun _ => ty138),(fun _ => ty139),(fun _ => ty140),(fun _ => ty141),(fun _ => ty142),(fun _ => ty143),(fun _ => ty144),(fun _ => ty145),(fun _ => ty146),(fun _ => ty147),(fun _ => ty148),(fun _ => ty149),(fun _ => ty150),(fun _ => ty151),(fun _ => ty152),(fun _ => ty153),(fun _ => ty154),(fun _ => ty155),(fun h => (by cases h)),(fun _ => ty157),(fun _ => ty158),(fun _ => ty159),(fun _ => ty160),(fun _ => ty161),(fun _ => ty162),(fun _ => ty163),(fun _ => ty164),(fun _ => ty165),(fun _ => ty166),(fun _ => ty167),(fun _ => ty168),(fun _ => ty169),(fun _ => ty170),(fun _ => ty171),(fun _ => ty172),(fun _ => ty173),(fun _ => ty174),(fun _ => ty175),(fun _ => ty176),(fun _ => ty177),(fun _ => ty178),(fun _ => ty179),(fun _ => ty180),(fun _ => ty181),(fun _ => ty182),(fun _ => ty183),(fun _ => ty184),(fun _ => ty185),(fun _ => ty186),(fun _ => ty187),(fun _ => ty188),(fun _ => ty189),(fun _ => ty190),(fun h => (by cases h)),(fun h => (by cases h)),(fun h => (by cases h)),(fun _ => ty194),(fun _ => ty195),(fun _ => ty196),(fun _ => ty197),(fun _ => ty198),(fun _ => ty199),(fun _ => ty200),(fun _ => ty201),(fun _ => ty202),(fun h => (by cases h)),trivial⟩
theorem fn13 : FnOK Try.prog 13 i13 := ⟨⟨Try.f13,(Try.f13.body).getD .skip,by kernel_rfl,by kernel_rfl,by kernel_rfl,by kernel_rfl,by kernel_rfl,by kernel_rfl⟩,by kernel_rfl⟩
theorem fn18 : FnOK Try.prog 18 i18 := ⟨⟨Try.f18,(Try.f18.body).getD .skip,by kernel_rfl,by kernel_rfl,by kernel_rfl,by kernel_rfl,by kernel_rfl,by kernel_rfl⟩,by kernel_rfl⟩
theorem fn19 : FnOK Try.prog 19 i19 := ⟨⟨Try.f19,(Try.f19.body).getD .skip,by kernel_rfl,by kernel_rfl,by kernel_rfl,by kernel_rfl,by kernel_rfl,by kernel_rfl⟩,by kernel_rfl⟩
theorem fn28 : FnOK Try.prog 28 i28 := ⟨⟨Try.f28,(Try.f28.body).getD .skip,by kernel_rfl,by kernel_rfl,by kernel_rfl,by kernel_rfl,by kernel_rfl,by kernel_rfl⟩,by kernel_rfl⟩
theorem fn30 : FnOK Try.prog 30 i30 := ⟨⟨Try.f30,(Try.f30.body).getD .skip,by kernel_rfl,by kernel_rfl,by kernel_rfl,by kernel_rfl,by kernel_rfl,by kernel_rfl⟩,by kernel_rfl⟩
theorem fn33 : FnOK Try.prog 33 i33 := ⟨⟨Try.f33,(Try.f33.body).getD .skip,by kernel_rfl,by kernel_rfl,by kernel_rfl,by kernel_rfl,by kernel_rfl,by kernel_rfl⟩,by kernel_rfl⟩
theorem fn35 : FnOK Try.prog 35 i35 := ⟨⟨Try.f35,(Try.f35.body).getD .skip,by kernel_rfl,by kernel_rfl,by kernel_rfl,by kernel_rfl,by kernel_rfl,by kernel_rfl⟩,by kernel_rfl⟩
theorem fn36 : FnOK Try.prog 36 i36 := ⟨⟨Try.f36,(Try.f36.body).getD .skip,by kernel_rfl,by kernel_rfl,by kernel_rfl,by kernel_rfl,by kernel_rfl,by kernel_rfl⟩,by kernel_rfl⟩
theorem fn38 : FnOK Try.prog 38 i38 := ⟨⟨Try.f38,(Try.f38.body).getD .skip,by kernel_rfl,by kernel_rfl,by kernel_rfl,by kernel_rfl,by kernel_rfl,by kernel_rfl⟩,by kernel_rfl⟩
theorem fn39 : FnOK Try.prog 39 i39 := ⟨⟨Try.f39,(Try.f39.body).getD .skip,by kernel_rfl,by kernel_rfl,by kernel_rfl,by kernel_rfl,by kernel_rfl,by kernel_rfl⟩,by kernel_rfl⟩
theorem fn40 : FnOK Try.prog 40 i40 := ⟨⟨Try.f40,(Try.f40.body).getD .skip,by kernel_rfl,by kernel_rfl,by kernel_rfl,by kernel_rfl,by kernel_rfl,by kernel_rfl⟩,by kernel_rfl⟩
theorem fn41 : FnOK Try.prog 41 i41 := ⟨⟨Try.f41,(Try.f41.body).getD .skip,by kernel_rfl,by kernel_rfl,by kernel_rfl,by kernel_rfl,by kernel_rfl,by kernel_rfl⟩,by kernel_rfl⟩
theorem fn42 : FnOK Try.prog 42 i42 := ⟨⟨Try.f42,(Try.f42.body).getD .skip,by kernel_rfl,by kernel_rfl,by kernel_rfl,by kernel_rfl,by kernel_rfl,by kernel_rfl⟩,by kernel_rfl⟩
theorem fn43 : FnOK Try.prog 43 i43 := ⟨⟨Try.f43,(Try.f43.body).getD .skip,by kernel_rfl,by kernel_rfl,by kernel_rfl,by kernel_rfl,by kernel_rfl,by kernel_rfl⟩,by kernel_rfl⟩
theorem fn44 : FnOK Try.prog 44 i44 := ⟨⟨Try.f44,(Try.f44.body).getD .skip,by kernel_rfl,by kernel_rfl,by kernel_rfl,by kernel_rfl,by kernel_rfl,by kernel_rfl⟩,by kernel_rfl⟩
theorem fn45 : FnOK Try.prog 45 i45 := ⟨⟨Try.f45,(Try.f45.body).getD .skip,by kernel_rfl,by kernel_rfl,by kernel_rfl,by kernel_rfl,by kernel_rfl,by kernel_rfl⟩,by kernel_rfl⟩
theorem fn46 : FnOK Try.prog 46 i46 := ⟨⟨Try.f46,(Try.f46.body).getD .skip,by kernel_rfl,by kernel_rfl,by kernel_rfl,by kernel_rfl,by kernel_rfl,by kernel_rfl⟩,by kernel_rfl⟩
theorem fn47 : FnOK Try.prog 47 i47 := ⟨⟨Try.f47,(Try.f47.body).getD .skip,by kernel_rfl,by kernel_rfl,by kernel_rfl,by kernel_rfl,by kernel_rfl,by kernel_rfl⟩,by kernel_rfl⟩
theorem fn48 : FnOK Try.prog 48 i48 := ⟨⟨Try.f48,(Try.f48.body).getD .skip,by kernel_rfl,by kernel_rfl,by kernel_rfl,by kernel_rfl,by kernel_rfl,by kernel_rfl⟩,by kernel_rfl⟩
theorem fn49 : FnOK Try.prog 49 i49 := ⟨⟨Try.f49,(Try.f49.body).getD .skip,by kernel_rfl,by kernel_rfl,by kernel_rfl,by kernel_rfl,by kernel_rfl,by kernel_rfl⟩,by kernel_rfl⟩
theorem fn50 : FnOK Try.prog 50 i50 := ⟨⟨Try.f50,(Try.f50.body).getD .skip,by kernel_rfl,by kernel_rfl,by kernel_rfl,by kernel_rfl,by kernel_rfl,by kernel_rfl⟩,by kernel_rfl⟩
theorem fn58 : FnOK Try.prog 58 i58 := ⟨⟨Try.f58,(Try.f58.body).getD .skip,by kernel_rfl,by kernel_rfl,by kernel_rfl,by kernel_rfl,by kernel_rfl,by kernel_rfl⟩,by kernel_rfl⟩
theorem fn59 : FnOK Try.prog 59 i59 := ⟨⟨Try.f59,(Try.f59.body).getD .skip,by kernel_rfl,by kernel_rfl,by kernel_rfl,by kernel_rfl,by kernel_rfl,by kernel_rfl⟩,by kernel_rfl⟩
theorem fn60 : FnOK Try.prog 60 i60 := ⟨⟨Try.f60,(Try.f60.body).getD .skip,by kernel_rfl,by kernel_rfl,by kernel_rfl,by kernel_rfl,by kernel_rfl,by kernel_rfl⟩,by kernel_rfl⟩
theorem fn61 : FnOK Try.prog 61 i61 := ⟨⟨Try.f61,(Try.f61.body).getD .skip,by kernel_rfl,by kernel_rfl,by kernel_rfl,by kernel_rfl,by kernel_rfl,by kernel_rfl⟩,by kernel_rfl⟩
theorem fn62 : FnOK Try.prog 62 i62 := ⟨⟨Try.f62,(Try.f62.body).getD .skip,by kernel_rfl,by kernel_rfl,by kernel_rfl,by kernel_rfl,by kernel_rfl,by kernel_rfl⟩,by kernel_rfl⟩
theorem fn63 : FnOK Try.prog 63 i63 := ⟨⟨Try.f63,(Try.f63.body).getD .skip,by kernel_rfl,by kernel_rfl,by kernel_rfl,by kernel_rfl,by kernel_rfl,by kernel_rfl⟩,by kernel_rfl⟩
theorem fn64 : FnOK Try.prog 64 i64 := ⟨⟨Try.f64,(Try.f64.body).getD .skip,by kernel_rfl,by kernel_rfl,by kernel_rfl,by kernel_rfl,by kernel_rfl,by kernel_rfl⟩,by kernel_rfl⟩
theorem fn66 : FnOK Try.prog 66 i66 := ⟨⟨Try.f66,(Try.f66.body).getD .skip,by kernel_rfl,by kernel_rfl,by kernel_rfl,by kernel_rfl,by kernel_rfl,by kernel_rfl⟩,by kernel_rfl⟩
theorem fn69 : FnOK Try.prog 69 i69 := ⟨⟨Try.f69,(Try.f69.body).getD .skip,by kernel_rfl,by kernel_rfl,by kernel_rfl,by kernel_rfl,by kernel_rfl,by kernel_rfl⟩,by kernel_rfl⟩
theorem fn70 : FnOK Try.prog 70 i70 := ⟨⟨Try.f70,(Try.f70.body).getD .skip,by kernel_rfl,by kernel_rfl,by kernel_rfl,by kernel_rfl,by kernel_rfl,by kernel_rfl⟩,by kernel_rfl⟩
theorem fn71 : FnOK Try.prog 71 i71 := ⟨⟨Try.f71,(Try.f71.body).getD .skip,by kernel_rfl,by kernel_rfl,by kernel_rfl,by kernel_rfl,by kernel_rfl,by kernel_rfl⟩,by kernel_rfl⟩
theorem fn72 : FnOK Try.prog 72 i72 := ⟨⟨Try.f72,(Try.f72.body).getD .skip,by kernel_rfl,by kernel_rfl,by kernel_rfl,by kernel_rfl,by kernel_rfl,by kernel_rfl⟩,by kernel_rfl⟩
theorem fn73 : FnOK Try.prog 73 i73 := ⟨⟨Try.f73,(Try.f73.body).getD .skip,by kernel_rfl,by kernel_rfl,by kernel_rfl,by kernel_rfl,by kernel_rfl,by kernel_rfl⟩,by kernel_rfl⟩
theorem fn74 : FnOK Try.prog 74 i74 := ⟨⟨Try.f74,(Try.f74.body).getD .skip,by kernel_rfl,by kernel_rfl,by kernel_rfl,by kernel_rfl,by kernel_rfl,by kernel_rfl⟩,by kernel_rfl⟩
theorem fn75 : FnOK Try.prog 75 i75 := ⟨⟨Try.f75,(Try.f75.body).getD .skip,by kernel_rfl,by kernel_rfl,by kernel_rfl,by kernel_rfl,by kernel_rfl,by kernel_rfl⟩,by kernel_rfl⟩
theorem fn76 : FnOK Try.prog 76 i76 := ⟨⟨Try.f76,(Try.f76.body).getD .skip,by kernel_rfl,by kernel_rfl,by kernel_rfl,by kernel_rfl,by kernel_rfl,by kernel_rfl⟩,by kernel_rfl⟩
theorem fn77 : FnOK Try.prog 77 i77 := ⟨⟨Try.f77,(Try.f77.body).getD .skip,by kernel_rfl,by kernel_rfl,by kernel_rfl,by kernel_rfl,by kernel_rfl,by kernel_rfl⟩,by kernel_rfl⟩
theorem fn78 : FnOK Try.prog 78 i78 := ⟨⟨Try.f78,(Try.f78.body).getD .skip,by kernel_rfl,by kernel_rfl,by kernel_rfl,by kernel_rfl,by kernel_rfl,by kernel_rfl⟩,by kernel_rfl⟩
theorem fn79 : FnOK Try.prog 79 i79 := ⟨⟨Try.f79,(Try.f79.body).getD .skip,by kernel_rfl,by kernel_rfl,by kernel_rfl,by kernel_rfl,by kernel_rfl,by kernel_rfl⟩,by kernel_rfl⟩
theorem fn80 : FnOK Try.prog 80 i80 := ⟨⟨Try.f80,(Try.f80.body).getD .skip,by kernel_rfl,by kernel_rfl,by kernel_rfl,by kernel_rfl,by kernel_rfl,by kernel_rfl⟩,by kernel_rfl⟩
theorem fn81 : FnOK Try.prog 81 i81 := ⟨⟨Try.f81,(Try.f81.body).getD .skip,by kernel_rfl,by kernel_rfl,by kernel_rfl,by kernel_rfl,by kernel_rfl,by kernel_rfl⟩,by kernel_rfl⟩
theorem fn82 : FnOK Try.prog 82 i82 := ⟨⟨Try.f82,(Try.f82.body).getD .skip,by kernel_rfl,by kernel_rfl,by kernel_rfl,by kernel_rfl,by kernel_rfl,by kernel_rfl⟩,by kernel_rfl⟩
theorem fn83 : FnOK Try.prog 83 i83 := ⟨⟨Try.f83,(Try.f83.body).getD .skip,by kernel_rfl,by kernel_rfl,by kernel_rfl,by kernel_rfl,by kernel_rfl,by kernel_rfl⟩,by kernel_rfl⟩
theorem fn84 : FnOK Try.prog 84 i84 := ⟨⟨Try.f84,(Try.f84.body).getD .skip,by kernel_rfl,by kernel_rfl,by kernel_rfl,by kernel_rfl,by kernel_rfl,by kernel_rfl⟩,by kernel_rfl⟩
theorem fn85 : FnOK Try.prog 85 i85 := ⟨⟨Try.f85,(Try.f85.body).getD .skip,by kernel_rfl,by kernel_rfl,by kernel_rfl,by kernel_rfl,by kernel_rfl,by kernel_rfl⟩,by kernel_rfl⟩
theorem fn86 : FnOK Try.prog 86 i86 := ⟨⟨Try.f86,(Try.f86.body).getD .skip,by kernel_rfl,by kernel_rfl,by kernel_rfl,by kernel_rfl,by kernel_rfl,by kernel_rfl⟩,by kernel_rfl⟩
theorem fn91 : FnOK Try.prog 91 i91 := ⟨⟨Try.f91,(Try.f91.body).getD .skip,by kernel_rfl,by kernel_rfl,by kernel_rfl,by kernel_rfl,by kernel_rfl,by kernel_rfl⟩,by kernel_rfl⟩
theorem fn94 : FnOK Try.prog 94 i94 := ⟨⟨Try.f94,(Try.f94.body).getD .skip,by kernel_rfl,by kernel_rfl,by kernel_rfl,by kernel_rfl,by kernel_rfl,by kernel_rfl⟩,by kernel_rfl⟩
theorem fn95 : FnOK Try.prog 95 i95 := ⟨⟨Try.f95,(Try.f95.body).getD .skip,by kernel_rfl,by kernel_rfl,by kernel_rfl,by kernel_rfl,by kernel_rfl,by kernel_rfl⟩,by kernel_rfl⟩
theorem fn96 : FnOK Try.prog 96 i96 := ⟨⟨Try.f96,(Try.f96.body).getD .skip,by kernel_rfl,by kernel_rfl,by kernel_rfl,by kernel_rfl,by kernel_rfl,by kernel_rfl⟩,by kernel_rfl⟩
theorem fn98 : FnOK Try.prog 98 i98 := ⟨⟨Try.f98,(Try.f98.body).getD .skip,by kernel_rfl,by kernel_rfl,by kernel_rfl,by kernel_rfl,by kernel_rfl,by kernel_rfl⟩,by kernel_rfl⟩
theorem fn99 : FnOK Try.prog 99 i99 := ⟨⟨Try.f99,(Try.f99.body).getD .skip,by kernel_rfl,by kernel_rfl,by kernel_rfl,by kernel_rfl,by kernel_rfl,by kernel_rfl⟩,by kernel_rfl⟩
theorem fn100 : FnOK Try.prog 100 i100 := ⟨⟨Try.f100,(Try.f100.body).getD .skip,by kernel_rfl,by kernel_rfl,by kernel_rfl,by kernel_rfl,by kernel_rfl,by kernel_rfl⟩,by kernel_rfl⟩
theorem fn103 : FnOK Try.prog 103 i103 := ⟨⟨Try.f103,(Try.f103.body).getD .skip,by kernel_rfl,by kernel_rfl,by kernel_rfl,by kernel_rfl,by kernel_rfl,by kernel_rfl⟩,by kernel_rfl⟩
theorem fn104 : FnOK Try.prog 104 i104 := ⟨⟨Try.f104,(Try.f104.body).getD .skip,by kernel_rfl,by kernel_rfl,by kernel_rfl,by kernel_rfl,by kernel_rfl,by kernel_rfl⟩,by kernel_rfl⟩
theorem fn117 : FnOK Try.prog 117 i117 := ⟨⟨Try.f117,(Try.f117.body).getD .skip,by kernel_rfl,by kernel_rfl,by kernel_rfl,by kernel_rfl,by kernel_rfl,by kernel_rfl⟩,by kernel_rfl⟩
theorem fn118 : FnOK Try.prog 118 i118 := ⟨⟨Try.f118,(Try.f118.body).getD .skip,by kernel_rfl,by kernel_rfl,by kernel_rfl,by kernel_rfl,by kernel_rfl,by kernel_rfl⟩,by kernel_rfl⟩
theorem fn119 : FnOK Try.prog 119 i119 := ⟨⟨Try.f119,(Try.f119.body).getD .skip,by kernel_rfl,by kernel_rfl,by kernel_rfl,by kernel_rfl,by kernel_rfl,by kernel_rfl⟩,by kernel_rfl⟩
theorem fn136 : FnOK Try.prog 136 i136 := ⟨⟨Try.f136,(Try.f136.body).getD .skip,by kernel_rfl,by kernel_rfl,by kernel_rfl,by kernel_rfl,by kernel_rfl,by kernel_rfl⟩,by kernel_rfl⟩
theorem fn142 : FnOK Try.prog 142 i142 := ⟨⟨Try.f142,(Try.f142.body).getD .skip,by kernel_rfl,by kernel_rfl,by kernel_rfl,by kernel_rfl,by kernel_rfl,by kernel_rfl⟩,by kernel_rfl⟩
theorem allFn : AllFn Try.prog ctx.fns := ⟨fn13,fn18,fn19,fn28,fn30,fn33,fn35,fn36,fn38,fn39,fn40,fn41,fn42,fn43,fn44,fn45,fn46,fn47,fn48,fn49,fn50,fn58,fn59,fn60,fn61,fn62,fn63,fn64,fn66,fn69,fn70,fn71,fn72,fn73,fn74,fn75,fn76,fn77,fn78,fn79,fn80,fn81,fn82,fn83,fn84,fn85,fn86,fn94,fn95,fn96,fn98,fn99,fn100,fn103,fn104,fn117,fn118,fn119,fn136,fn142,trivial⟩
theorem mix : Try.prog.follows .mixedOrders = true := by kernel_rfl
noncomputable def y29 : Code × Code := match Try.f29.body with | some (.seq a b) => (a,b) | _ => (.skip,.skip)
theorem alt29 : AltOK Try.prog 29 j29a j29b := ⟨⟨Try.f29,y29.1,y29.2,2,4,[0,1,3,4,2,5,6],c29z,c29a,c29b,by kernel_rfl,by kernel_rfl,by kernel_rfl,by kernel_rfl,by kernel_rfl,rfl,rfl,by kernel_rfl,by kernel_rfl,by kernel_rfl,by kernel_rfl⟩,by kernel_rfl,by kernel_rfl⟩
theorem allAlt : AllAlt Try.prog ctx.alt := ⟨alt29,trivial⟩
theorem ctxOK (hp : AllPr Try.prog ctx.prim) : CtxOK Try.prog ctx := ctxOK_of allTy mix allFn hp allAlt
end Go.Am.Try
