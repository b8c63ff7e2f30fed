/- What the abstract machine takes the program to be is what it is: written by genf.py. -/
import Derived.Test.YtflhndopabnipaaMCtx
import Derived.Test.YtflhndopabnipaaMTy
import Derived.Test.YtflhndopabnipaaProg
import Derived.KernelRfl
set_option maxRecDepth 100000
set_option maxHeartbeats 4000000
namespace Go.Am.Try
open Go
open Go.Proofs
theorem ty1 : TyOK Try.prog 1 ⟨.func,1,8,.nilf,[]⟩ := ⟨by kernel_rfl,by kernel_rfl,by kernel_rfl,by kernel_rfl,by kernel_rfl,by kernel_rfl,by decide,eq_none,eqn_none⟩
theorem ty2 : TyOK Try.prog 2 ⟨.int .i64,1,8,.int .i64 0,[.int .i64]⟩ := ⟨by kernel_rfl,by kernel_rfl,by kernel_rfl,by kernel_rfl,by kernel_rfl,by kernel_rfl,by decide,fun _ => eqTy_leaf (d := (Try.prog.underlying 2).getD .bool) (by kernel_rfl) (by kernel_rfl) (by kernel_rfl),eqn_leaf (by kernel_rfl)⟩
theorem ty3 : TyOK Try.prog 3 ⟨.int .i64,1,8,.int .i64 0,[.int .i64]⟩ := ⟨by kernel_rfl,by kernel_rfl,by kernel_rfl,by kernel_rfl,by kernel_rfl,by kernel_rfl,by decide,fun _ => eqTy_leaf (d := (Try.prog.underlying 3).getD .bool) (by kernel_rfl) (by kernel_rfl) (by kernel_rfl),eqn_leaf (by kernel_rfl)⟩
theorem ty4 : TyOK Try.prog 4 ⟨.bool,1,1,.bool false,[.bool]⟩ := ⟨by kernel_rfl,by kernel_rfl,by kernel_rfl,by kernel_rfl,by kernel_rfl,by kernel_rfl,by decide,fun _ => eqTy_leaf (d := (Try.prog.underlying 4).getD .bool) (by kernel_rfl) (by kernel_rfl) (by kernel_rfl),eqn_leaf (by kernel_rfl)⟩
theorem ty5 : TyOK Try.prog 5 ⟨.int .u8,1,1,.int .u8 0,[.int .u8]⟩ := ⟨by kernel_rfl,by kernel_rfl,by kernel_rfl,by kernel_rfl,by kernel_rfl,by kernel_rfl,by decide,fun _ => eqTy_leaf (d := (Try.prog.underlying 5).getD .bool) (by kernel_rfl) (by kernel_rfl) (by kernel_rfl),eqn_leaf (by kernel_rfl)⟩
theorem ty6 : TyOK Try.prog 6 ⟨.int .u8,1,1,.int .u8 0,[.int .u8]⟩ := ⟨by kernel_rfl,by kernel_rfl,by kernel_rfl,by kernel_rfl,by kernel_rfl,by kernel_rfl,by decide,fun _ => eqTy_leaf (d := (Try.prog.underlying 6).getD .bool) (by kernel_rfl) (by kernel_rfl) (by kernel_rfl),eqn_leaf (by kernel_rfl)⟩
theorem ty7 : TyOK Try.prog 7 ⟨.strct [(0,2),(1,3),(2,4),(3,6)],4,24,.agg [.int .i64 0,.int .i64 0,.bool false,.int .u8 0],[]⟩ := ⟨by kernel_rfl,by kernel_rfl,by kernel_rfl,by kernel_rfl,by kernel_rfl,by kernel_rfl,by decide,eq_none,eqn_none⟩
theorem ty8 : TyOK Try.prog 8 ⟨.strct [(0,2),(1,3),(2,4),(3,6)],4,24,.agg [.int .i64 0,.int .i64 0,.bool false,.int .u8 0],[]⟩ := ⟨by kernel_rfl,by kernel_rfl,by kernel_rfl,by kernel_rfl,by kernel_rfl,by kernel_rfl,by decide,eq_none,eqn_none⟩
theorem ty9 : TyOK Try.prog 9 ⟨.str,1,16,.str [],[.str]⟩ := ⟨by kernel_rfl,by kernel_rfl,by kernel_rfl,by kernel_rfl,by kernel_rfl,by kernel_rfl,by decide,fun _ => eqTy_leaf (d := (Try.prog.underlying 9).getD .bool) (by kernel_rfl) (by kernel_rfl) (by kernel_rfl),eqn_leaf (by kernel_rfl)⟩
theorem ty10 : TyOK Try.prog 10 ⟨.str,1,16,.str [],[.str]⟩ := ⟨by kernel_rfl,by kernel_rfl,by kernel_rfl,by kernel_rfl,by kernel_rfl,by kernel_rfl,by decide,fun _ => eqTy_leaf (d := (Try.prog.underlying 10).getD .bool) (by kernel_rfl) (by kernel_rfl) (by kernel_rfl),eqn_leaf (by kernel_rfl)⟩
theorem ty11 : TyOK Try.prog 11 ⟨.str,1,16,.str [],[.str]⟩ := ⟨by kernel_rfl,by kernel_rfl,by kernel_rfl,by kernel_rfl,by kernel_rfl,by kernel_rfl,by decide,fun _ => eqTy_leaf (d := (Try.prog.underlying 11).getD .bool) (by kernel_rfl) (by kernel_rfl) (by kernel_rfl),eqn_leaf (by kernel_rfl)⟩
theorem ty12 : TyOK Try.prog 12 ⟨.int .u64,1,8,.int .u64 0,[.int .u64]⟩ := ⟨by kernel_rfl,by kernel_rfl,by kernel_rfl,by kernel_rfl,by kernel_rfl,by kernel_rfl,by decide,fun _ => eqTy_leaf (d := (Try.prog.underlying 12).getD .bool) (by kernel_rfl) (by kernel_rfl) (by kernel_rfl),eqn_leaf (by kernel_rfl)⟩
theorem ty13 : TyOK Try.prog 13 ⟨.strct [(0,9),(1,12)],2,24,.agg [.str [],.int .u64 0],[]⟩ := ⟨by kernel_rfl,by kernel_rfl,by kernel_rfl,by kernel_rfl,by kernel_rfl,by kernel_rfl,by decide,eq_none,eqn_none⟩
theorem ty14 : TyOK Try.prog 14 ⟨.strct [(0,9),(1,12)],2,24,.agg [.str [],.int .u64 0],[]⟩ := ⟨by kernel_rfl,by kernel_rfl,by kernel_rfl,by kernel_rfl,by kernel_rfl,by kernel_rfl,by decide,eq_none,eqn_none⟩
theorem ty15 : TyOK Try.prog 15 ⟨.ptr,1,8,.nilp,[]⟩ := ⟨by kernel_rfl,by kernel_rfl,by kernel_rfl,by kernel_rfl,by kernel_rfl,by kernel_rfl,by decide,eq_none,eqn_none⟩
theorem ty16 : TyOK Try.prog 16 ⟨.ptr,1,8,.nilp,[]⟩ := ⟨by kernel_rfl,by kernel_rfl,by kernel_rfl,by kernel_rfl,by kernel_rfl,by kernel_rfl,by decide,eq_none,eqn_none⟩
theorem ty17 : TyOK Try.prog 17 ⟨.ptr,1,8,.nilp,[]⟩ := ⟨by kernel_rfl,by kernel_rfl,by kernel_rfl,by kernel_rfl,by kernel_rfl,by kernel_rfl,by decide,eq_none,eqn_none⟩
theorem ty18 : TyOK Try.prog 18 ⟨.strct [(0,17)],1,8,.agg [.nilp],[]⟩ := ⟨by kernel_rfl,by kernel_rfl,by kernel_rfl,by kernel_rfl,by kernel_rfl,by kernel_rfl,by decide,eq_none,eqn_none⟩
theorem ty19 : TyOK Try.prog 19 ⟨.strct [(0,17)],1,8,.agg [.nilp],[]⟩ := ⟨by kernel_rfl,by kernel_rfl,by kernel_rfl,by kernel_rfl,by kernel_rfl,by kernel_rfl,by decide,eq_none,eqn_none⟩
theorem ty21 : TyOK Try.prog 21 ⟨.int .i32,1,4,.int .i32 0,[.int .i32]⟩ := ⟨by kernel_rfl,by kernel_rfl,by kernel_rfl,by kernel_rfl,by kernel_rfl,by kernel_rfl,by decide,fun _ => eqTy_leaf (d := (Try.prog.underlying 21).getD .bool) (by kernel_rfl) (by kernel_rfl) (by kernel_rfl),eqn_leaf (by kernel_rfl)⟩
theorem ty22 : TyOK Try.prog 22 ⟨.slice 5,1,24,.nil,[]⟩ := ⟨by kernel_rfl,by kernel_rfl,by kernel_rfl,by kernel_rfl,by kernel_rfl,by kernel_rfl,by decide,eq_none,eqn_none⟩
theorem ty23 : TyOK Try.prog 23 ⟨.slice 26,1,24,.nil,[]⟩ := ⟨by kernel_rfl,by kernel_rfl,by kernel_rfl,by kernel_rfl,by kernel_rfl,by kernel_rfl,by decide,eq_none,eqn_none⟩
theorem ty24 : TyOK Try.prog 24 ⟨.func,1,8,.nilf,[]⟩ := ⟨by kernel_rfl,by kernel_rfl,by kernel_rfl,by kernel_rfl,by kernel_rfl,by kernel_rfl,by decide,eq_none,eqn_none⟩
theorem ty25 : TyOK Try.prog 25 ⟨.func,1,8,.nilf,[]⟩ := ⟨by kernel_rfl,by kernel_rfl,by kernel_rfl,by kernel_rfl,by kernel_rfl,by kernel_rfl,by decide,eq_none,eqn_none⟩
theorem ty26 : TyOK Try.prog 26 ⟨.slice 3,1,24,.nil,[]⟩ := ⟨by kernel_rfl,by kernel_rfl,by kernel_rfl,by kernel_rfl,by kernel_rfl,by kernel_rfl,by decide,eq_none,eqn_none⟩
theorem ty27 : TyOK Try.prog 27 ⟨.func,1,8,.nilf,[]⟩ := ⟨by kernel_rfl,by kernel_rfl,by kernel_rfl,by kernel_rfl,by kernel_rfl,by kernel_rfl,by decide,eq_none,eqn_none⟩
theorem ty28 : TyOK Try.prog 28 ⟨.func,1,8,.nilf,[]⟩ := ⟨by kernel_rfl,by kernel_rfl,by kernel_rfl,by kernel_rfl,by kernel_rfl,by kernel_rfl,by decide,eq_none,eqn_none⟩
theorem ty29 : TyOK Try.prog 29 ⟨.func,1,8,.nilf,[]⟩ := ⟨by kernel_rfl,by kernel_rfl,by kernel_rfl,by kernel_rfl,by kernel_rfl,by kernel_rfl,by decide,eq_none,eqn_none⟩
theorem ty30 : TyOK Try.prog 30 ⟨.func,1,8,.nilf,[]⟩ := ⟨by kernel_rfl,by kernel_rfl,by kernel_rfl,by kernel_rfl,by kernel_rfl,by kernel_rfl,by decide,eq_none,eqn_none⟩
theorem ty31 : TyOK Try.prog 31 ⟨.func,1,8,.nilf,[]⟩ := ⟨by kernel_rfl,by kernel_rfl,by kernel_rfl,by kernel_rfl,by kernel_rfl,by kernel_rfl,by decide,eq_none,eqn_none⟩
theorem ty32 : TyOK Try.prog 32 ⟨.func,1,8,.nilf,[]⟩ := ⟨by kernel_rfl,by kernel_rfl,by kernel_rfl,by kernel_rfl,by kernel_rfl,by kernel_rfl,by decide,eq_none,eqn_none⟩
theorem ty33 : TyOK Try.prog 33 ⟨.func,1,8,.nilf,[]⟩ := ⟨by kernel_rfl,by kernel_rfl,by kernel_rfl,by kernel_rfl,by kernel_rfl,by kernel_rfl,by decide,eq_none,eqn_none⟩
theorem ty34 : TyOK Try.prog 34 ⟨.func,1,8,.nilf,[]⟩ := ⟨by kernel_rfl,by kernel_rfl,by kernel_rfl,by kernel_rfl,by kernel_rfl,by kernel_rfl,by decide,eq_none,eqn_none⟩
theorem ty35 : TyOK Try.prog 35 ⟨.int .u16,1,2,.int .u16 0,[.int .u16]⟩ := ⟨by kernel_rfl,by kernel_rfl,by kernel_rfl,by kernel_rfl,by kernel_rfl,by kernel_rfl,by decide,fun _ => eqTy_leaf (d := (Try.prog.underlying 35).getD .bool) (by kernel_rfl) (by kernel_rfl) (by kernel_rfl),eqn_leaf (by kernel_rfl)⟩
theorem ty36 : TyOK Try.prog 36 ⟨.func,1,8,.nilf,[]⟩ := ⟨by kernel_rfl,by kernel_rfl,by kernel_rfl,by kernel_rfl,by kernel_rfl,by kernel_rfl,by decide,eq_none,eqn_none⟩
theorem ty37 : TyOK Try.prog 37 ⟨.func,1,8,.nilf,[]⟩ := ⟨by kernel_rfl,by kernel_rfl,by kernel_rfl,by kernel_rfl,by kernel_rfl,by kernel_rfl,by decide,eq_none,eqn_none⟩
theorem ty38 : TyOK Try.prog 38 ⟨.func,1,8,.nilf,[]⟩ := ⟨by kernel_rfl,by kernel_rfl,by kernel_rfl,by kernel_rfl,by kernel_rfl,by kernel_rfl,by decide,eq_none,eqn_none⟩
theorem ty39 : TyOK Try.prog 39 ⟨.func,1,8,.nilf,[]⟩ := ⟨by kernel_rfl,by kernel_rfl,by kernel_rfl,by kernel_rfl,by kernel_rfl,by kernel_rfl,by decide,eq_none,eqn_none⟩
theorem ty40 : TyOK Try.prog 40 ⟨.ptr,1,8,.nilp,[]⟩ := ⟨by kernel_rfl,by kernel_rfl,by kernel_rfl,by kernel_rfl,by kernel_rfl,by kernel_rfl,by decide,eq_none,eqn_none⟩
theorem ty41 : TyOK Try.prog 41 ⟨.slice 4,1,24,.nil,[]⟩ := ⟨by kernel_rfl,by kernel_rfl,by kernel_rfl,by kernel_rfl,by kernel_rfl,by kernel_rfl,by decide,eq_none,eqn_none⟩
theorem ty42 : TyOK Try.prog 42 ⟨.strct [(0,23),(1,26),(2,26),(3,26),(4,41),(5,3),(6,23)],7,152,.agg [.nil,.nil,.nil,.nil,.nil,.int .i64 0,.nil],[]⟩ := ⟨by kernel_rfl,by kernel_rfl,by kernel_rfl,by kernel_rfl,by kernel_rfl,by kernel_rfl,by decide,eq_none,eqn_none⟩
theorem ty43 : TyOK Try.prog 43 ⟨.strct [(0,23),(1,26),(2,26),(3,26),(4,41),(5,3),(6,23)],7,152,.agg [.nil,.nil,.nil,.nil,.nil,.int .i64 0,.nil],[]⟩ := ⟨by kernel_rfl,by kernel_rfl,by kernel_rfl,by kernel_rfl,by kernel_rfl,by kernel_rfl,by decide,eq_none,eqn_none⟩
theorem ty44 : TyOK Try.prog 44 ⟨.func,1,8,.nilf,[]⟩ := ⟨by kernel_rfl,by kernel_rfl,by kernel_rfl,by kernel_rfl,by kernel_rfl,by kernel_rfl,by decide,eq_none,eqn_none⟩
theorem ty45 : TyOK Try.prog 45 ⟨.func,1,8,.nilf,[]⟩ := ⟨by kernel_rfl,by kernel_rfl,by kernel_rfl,by kernel_rfl,by kernel_rfl,by kernel_rfl,by decide,eq_none,eqn_none⟩
theorem ty46 : TyOK Try.prog 46 ⟨.func,1,8,.nilf,[]⟩ := ⟨by kernel_rfl,by kernel_rfl,by kernel_rfl,by kernel_rfl,by kernel_rfl,by kernel_rfl,by decide,eq_none,eqn_none⟩
theorem ty47 : TyOK Try.prog 47 ⟨.func,1,8,.nilf,[]⟩ := ⟨by kernel_rfl,by kernel_rfl,by kernel_rfl,by kernel_rfl,by kernel_rfl,by kernel_rfl,by decide,eq_none,eqn_none⟩
theorem ty48 : TyOK Try.prog 48 ⟨.slice 41,1,24,.nil,[]⟩ := ⟨by kernel_rfl,by kernel_rfl,by kernel_rfl,by kernel_rfl,by kernel_rfl,by kernel_rfl,by decide,eq_none,eqn_none⟩
theorem ty49 : TyOK Try.prog 49 ⟨.func,1,8,.nilf,[]⟩ := ⟨by kernel_rfl,by kernel_rfl,by kernel_rfl,by kernel_rfl,by kernel_rfl,by kernel_rfl,by decide,eq_none,eqn_none⟩
theorem ty50 : TyOK Try.prog 50 ⟨.map 52 4,1,8,.nilm,[]⟩ := ⟨by kernel_rfl,by kernel_rfl,by kernel_rfl,by kernel_rfl,by kernel_rfl,by kernel_rfl,by decide,eq_none,eqn_none⟩
theorem ty51 : TyOK Try.prog 51 ⟨.arr 2 3,2,16,.agg [.int .i64 0,.int .i64 0],[]⟩ := ⟨by kernel_rfl,by kernel_rfl,by kernel_rfl,by kernel_rfl,by kernel_rfl,by kernel_rfl,by decide,eq_none,eqn_none⟩
theorem ty52 : TyOK Try.prog 52 ⟨.arr 2 3,2,16,.agg [.int .i64 0,.int .i64 0],[.int .i64,.int .i64]⟩ := ⟨by kernel_rfl,by kernel_rfl,by kernel_rfl,by kernel_rfl,by kernel_rfl,by kernel_rfl,by decide,fun _ => eqTy_array (n := 2) (e := 3) (by kernel_rfl) (by kernel_rfl) (by kernel_rfl) (by kernel_rfl),eqn_leaf' (by kernel_rfl)⟩
theorem ty53 : TyOK Try.prog 53 ⟨.strct [(0,3),(1,3)],2,16,.agg [.int .i64 0,.int .i64 0],[]⟩ := ⟨by kernel_rfl,by kernel_rfl,by kernel_rfl,by kernel_rfl,by kernel_rfl,by kernel_rfl,by decide,eq_none,eqn_none⟩
theorem ty54 : TyOK Try.prog 54 ⟨.strct [(0,3),(1,3)],2,16,.agg [.int .i64 0,.int .i64 0],[]⟩ := ⟨by kernel_rfl,by kernel_rfl,by kernel_rfl,by kernel_rfl,by kernel_rfl,by kernel_rfl,by decide,eq_none,eqn_none⟩
theorem ty55 : TyOK Try.prog 55 ⟨.func,1,8,.nilf,[]⟩ := ⟨by kernel_rfl,by kernel_rfl,by kernel_rfl,by kernel_rfl,by kernel_rfl,by kernel_rfl,by decide,eq_none,eqn_none⟩
theorem ty56 : TyOK Try.prog 56 ⟨.slice 54,1,24,.nil,[]⟩ := ⟨by kernel_rfl,by kernel_rfl,by kernel_rfl,by kernel_rfl,by kernel_rfl,by kernel_rfl,by decide,eq_none,eqn_none⟩
theorem ty57 : TyOK Try.prog 57 ⟨.ptr,1,8,.nilp,[]⟩ := ⟨by kernel_rfl,by kernel_rfl,by kernel_rfl,by kernel_rfl,by kernel_rfl,by kernel_rfl,by decide,eq_none,eqn_none⟩
theorem ty58 : TyOK Try.prog 58 ⟨.func,1,8,.nilf,[]⟩ := ⟨by kernel_rfl,by kernel_rfl,by kernel_rfl,by kernel_rfl,by kernel_rfl,by kernel_rfl,by decide,eq_none,eqn_none⟩
theorem ty59 : TyOK Try.prog 59 ⟨.func,1,8,.nilf,[]⟩ := ⟨by kernel_rfl,by kernel_rfl,by kernel_rfl,by kernel_rfl,by kernel_rfl,by kernel_rfl,by decide,eq_none,eqn_none⟩
theorem ty60 : TyOK Try.prog 60 ⟨.int .u64,1,8,.int .u64 0,[.int .u64]⟩ := ⟨by kernel_rfl,by kernel_rfl,by kernel_rfl,by kernel_rfl,by kernel_rfl,by kernel_rfl,by decide,fun _ => eqTy_leaf (d := (Try.prog.underlying 60).getD .bool) (by kernel_rfl) (by kernel_rfl) (by kernel_rfl),eqn_leaf (by kernel_rfl)⟩
theorem ty61 : TyOK Try.prog 61 ⟨.func,1,8,.nilf,[]⟩ := ⟨by kernel_rfl,by kernel_rfl,by kernel_rfl,by kernel_rfl,by kernel_rfl,by kernel_rfl,by decide,eq_none,eqn_none⟩
theorem ty62 : TyOK Try.prog 62 ⟨.map 63 4,1,8,.nilm,[]⟩ := ⟨by kernel_rfl,by kernel_rfl,by kernel_rfl,by kernel_rfl,by kernel_rfl,by kernel_rfl,by decide,eq_none,eqn_none⟩
theorem ty63 : TyOK Try.prog 63 ⟨.arr 2 3,2,16,.agg [.int .i64 0,.int .i64 0],[.int .i64,.int .i64]⟩ := ⟨by kernel_rfl,by kernel_rfl,by kernel_rfl,by kernel_rfl,by kernel_rfl,by kernel_rfl,by decide,fun _ => eqTy_array (n := 2) (e := 3) (by kernel_rfl) (by kernel_rfl) (by kernel_rfl) (by kernel_rfl),eqn_leaf' (by kernel_rfl)⟩
theorem ty64 : TyOK Try.prog 64 ⟨.func,1,8,.nilf,[]⟩ := ⟨by kernel_rfl,by kernel_rfl,by kernel_rfl,by kernel_rfl,by kernel_rfl,by kernel_rfl,by decide,eq_none,eqn_none⟩
theorem ty65 : TyOK Try.prog 65 ⟨.func,1,8,.nilf,[]⟩ := ⟨by kernel_rfl,by kernel_rfl,by kernel_rfl,by kernel_rfl,by kernel_rfl,by kernel_rfl,by decide,eq_none,eqn_none⟩
theorem ty66 : TyOK Try.prog 66 ⟨.func,1,8,.nilf,[]⟩ := ⟨by kernel_rfl,by kernel_rfl,by kernel_rfl,by kernel_rfl,by kernel_rfl,by kernel_rfl,by decide,eq_none,eqn_none⟩
theorem ty67 : TyOK Try.prog 67 ⟨.func,1,8,.nilf,[]⟩ := ⟨by kernel_rfl,by kernel_rfl,by kernel_rfl,by kernel_rfl,by kernel_rfl,by kernel_rfl,by decide,eq_none,eqn_none⟩
theorem ty68 : TyOK Try.prog 68 ⟨.int .i64,1,8,.int .i64 0,[.int .i64]⟩ := ⟨by kernel_rfl,by kernel_rfl,by kernel_rfl,by kernel_rfl,by kernel_rfl,by kernel_rfl,by decide,fun _ => eqTy_leaf (d := (Try.prog.underlying 68).getD .bool) (by kernel_rfl) (by kernel_rfl) (by kernel_rfl),eqn_leaf (by kernel_rfl)⟩
theorem ty70 : TyOK Try.prog 70 ⟨.func,1,8,.nilf,[]⟩ := ⟨by kernel_rfl,by kernel_rfl,by kernel_rfl,by kernel_rfl,by kernel_rfl,by kernel_rfl,by decide,eq_none,eqn_none⟩
theorem ty71 : TyOK Try.prog 71 ⟨.func,1,8,.nilf,[]⟩ := ⟨by kernel_rfl,by kernel_rfl,by kernel_rfl,by kernel_rfl,by kernel_rfl,by kernel_rfl,by decide,eq_none,eqn_none⟩
theorem ty72 : TyOK Try.prog 72 ⟨.func,1,8,.nilf,[]⟩ := ⟨by kernel_rfl,by kernel_rfl,by kernel_rfl,by kernel_rfl,by kernel_rfl,by kernel_rfl,by decide,eq_none,eqn_none⟩
theorem ty74 : TyOK Try.prog 74 ⟨.func,1,8,.nilf,[]⟩ := ⟨by kernel_rfl,by kernel_rfl,by kernel_rfl,by kernel_rfl,by kernel_rfl,by kernel_rfl,by decide,eq_none,eqn_none⟩
theorem ty75 : TyOK Try.prog 75 ⟨.func,1,8,.nilf,[]⟩ := ⟨by kernel_rfl,by kernel_rfl,by kernel_rfl,by kernel_rfl,by kernel_rfl,by kernel_rfl,by decide,eq_none,eqn_none⟩
theorem ty76 : TyOK Try.prog 76 ⟨.int .u32,1,4,.int .u32 0,[.int .u32]⟩ := ⟨by kernel_rfl,by kernel_rfl,by kernel_rfl,by kernel_rfl,by kernel_rfl,by kernel_rfl,by decide,fun _ => eqTy_leaf (d := (Try.prog.underlying 76).getD .bool) (by kernel_rfl) (by kernel_rfl) (by kernel_rfl),eqn_leaf (by kernel_rfl)⟩
theorem ty77 : TyOK Try.prog 77 ⟨.func,1,8,.nilf,[]⟩ := ⟨by kernel_rfl,by kernel_rfl,by kernel_rfl,by kernel_rfl,by kernel_rfl,by kernel_rfl,by decide,eq_none,eqn_none⟩
theorem ty78 : TyOK Try.prog 78 ⟨.int .u64,1,8,.int .u64 0,[.int .u64]⟩ := ⟨by kernel_rfl,by kernel_rfl,by kernel_rfl,by kernel_rfl,by kernel_rfl,by kernel_rfl,by decide,fun _ => eqTy_leaf (d := (Try.prog.underlying 78).getD .bool) (by kernel_rfl) (by kernel_rfl) (by kernel_rfl),eqn_leaf (by kernel_rfl)⟩
theorem ty79 : TyOK Try.prog 79 ⟨.func,1,8,.nilf,[]⟩ := ⟨by kernel_rfl,by kernel_rfl,by kernel_rfl,by kernel_rfl,by kernel_rfl,by kernel_rfl,by decide,eq_none,eqn_none⟩
theorem ty80 : TyOK Try.prog 80 ⟨.int .u64,1,8,.int .u64 0,[.int .u64]⟩ := ⟨by kernel_rfl,by kernel_rfl,by kernel_rfl,by kernel_rfl,by kernel_rfl,by kernel_rfl,by decide,fun _ => eqTy_leaf (d := (Try.prog.underlying 80).getD .bool) (by kernel_rfl) (by kernel_rfl) (by kernel_rfl),eqn_leaf (by kernel_rfl)⟩
theorem ty81 : TyOK Try.prog 81 ⟨.func,1,8,.nilf,[]⟩ := ⟨by kernel_rfl,by kernel_rfl,by kernel_rfl,by kernel_rfl,by kernel_rfl,by kernel_rfl,by decide,eq_none,eqn_none⟩
theorem ty82 : TyOK Try.prog 82 ⟨.func,1,8,.nilf,[]⟩ := ⟨by kernel_rfl,by kernel_rfl,by kernel_rfl,by kernel_rfl,by kernel_rfl,by kernel_rfl,by decide,eq_none,eqn_none⟩
theorem ty83 : TyOK Try.prog 83 ⟨.func,1,8,.nilf,[]⟩ := ⟨by kernel_rfl,by kernel_rfl,by kernel_rfl,by kernel_rfl,by kernel_rfl,by kernel_rfl,by decide,eq_none,eqn_none⟩
theorem ty84 : TyOK Try.prog 84 ⟨.ptr,1,8,.nilp,[]⟩ := ⟨by kernel_rfl,by kernel_rfl,by kernel_rfl,by kernel_rfl,by kernel_rfl,by kernel_rfl,by decide,eq_none,eqn_none⟩
theorem ty85 : TyOK Try.prog 85 ⟨.func,1,8,.nilf,[]⟩ := ⟨by kernel_rfl,by kernel_rfl,by kernel_rfl,by kernel_rfl,by kernel_rfl,by kernel_rfl,by decide,eq_none,eqn_none⟩
theorem ty86 : TyOK Try.prog 86 ⟨.func,1,8,.nilf,[]⟩ := ⟨by kernel_rfl,by kernel_rfl,by kernel_rfl,by kernel_rfl,by kernel_rfl,by kernel_rfl,by decide,eq_none,eqn_none⟩
theorem ty87 : TyOK Try.prog 87 ⟨.func,1,8,.nilf,[]⟩ := ⟨by kernel_rfl,by kernel_rfl,by kernel_rfl,by kernel_rfl,by kernel_rfl,by kernel_rfl,by decide,eq_none,eqn_none⟩
theorem ty88 : TyOK Try.prog 88 ⟨.func,1,8,.nilf,[]⟩ := ⟨by kernel_rfl,by kernel_rfl,by kernel_rfl,by kernel_rfl,by kernel_rfl,by kernel_rfl,by decide,eq_none,eqn_none⟩
theorem ty89 : TyOK Try.prog 89 ⟨.func,1,8,.nilf,[]⟩ := ⟨by kernel_rfl,by kernel_rfl,by kernel_rfl,by kernel_rfl,by kernel_rfl,by kernel_rfl,by decide,eq_none,eqn_none⟩
theorem ty90 : TyOK Try.prog 90 ⟨.func,1,8,.nilf,[]⟩ := ⟨by kernel_rfl,by kernel_rfl,by kernel_rfl,by kernel_rfl,by kernel_rfl,by kernel_rfl,by decide,eq_none,eqn_none⟩
theorem ty91 : TyOK Try.prog 91 ⟨.func,1,8,.nilf,[]⟩ := ⟨by kernel_rfl,by kernel_rfl,by kernel_rfl,by kernel_rfl,by kernel_rfl,by kernel_rfl,by decide,eq_none,eqn_none⟩
theorem ty92 : TyOK Try.prog 92 ⟨.ptr,1,8,.nilp,[]⟩ := ⟨by kernel_rfl,by kernel_rfl,by kernel_rfl,by kernel_rfl,by kernel_rfl,by kernel_rfl,by decide,eq_none,eqn_none⟩
theorem ty94 : TyOK Try.prog 94 ⟨.func,1,8,.nilf,[]⟩ := ⟨by kernel_rfl,by kernel_rfl,by kernel_rfl,by kernel_rfl,by kernel_rfl,by kernel_rfl,by decide,eq_none,eqn_none⟩
theorem ty95 : TyOK Try.prog 95 ⟨.func,1,8,.nilf,[]⟩ := ⟨by kernel_rfl,by kernel_rfl,by kernel_rfl,by kernel_rfl,by kernel_rfl,by kernel_rfl,by decide,eq_none,eqn_none⟩
theorem ty96 : TyOK Try.prog 96 ⟨.func,1,8,.nilf,[]⟩ := ⟨by kernel_rfl,by kernel_rfl,by kernel_rfl,by kernel_rfl,by kernel_rfl,by kernel_rfl,by decide,eq_none,eqn_none⟩
theorem ty97 : TyOK Try.prog 97 ⟨.func,1,8,.nilf,[]⟩ := ⟨by kernel_rfl,by kernel_rfl,by kernel_rfl,by kernel_rfl,by kernel_rfl,by kernel_rfl,by decide,eq_none,eqn_none⟩
theorem ty98 : TyOK Try.prog 98 ⟨.func,1,8,.nilf,[]⟩ := ⟨by kernel_rfl,by kernel_rfl,by kernel_rfl,by kernel_rfl,by kernel_rfl,by kernel_rfl,by decide,eq_none,eqn_none⟩
theorem ty99 : TyOK Try.prog 99 ⟨.strct [(0,17),(1,17),(2,17),(3,9)],4,40,.agg [.nilp,.nilp,.nilp,.str []],[]⟩ := ⟨by kernel_rfl,by kernel_rfl,by kernel_rfl,by kernel_rfl,by kernel_rfl,by kernel_rfl,by decide,eq_none,eqn_none⟩
theorem ty100 : TyOK Try.prog 100 ⟨.strct [(0,17),(1,17),(2,17),(3,9)],4,40,.agg [.nilp,.nilp,.nilp,.str []],[]⟩ := ⟨by kernel_rfl,by kernel_rfl,by kernel_rfl,by kernel_rfl,by kernel_rfl,by kernel_rfl,by decide,eq_none,eqn_none⟩
theorem ty104 : TyOK Try.prog 104 ⟨.func,1,8,.nilf,[]⟩ := ⟨by kernel_rfl,by kernel_rfl,by kernel_rfl,by kernel_rfl,by kernel_rfl,by kernel_rfl,by decide,eq_none,eqn_none⟩
theorem ty105 : TyOK Try.prog 105 ⟨.int .u8,1,1,.int .u8 0,[.int .u8]⟩ := ⟨by kernel_rfl,by kernel_rfl,by kernel_rfl,by kernel_rfl,by kernel_rfl,by kernel_rfl,by decide,fun _ => eqTy_leaf (d := (Try.prog.underlying 105).getD .bool) (by kernel_rfl) (by kernel_rfl) (by kernel_rfl),eqn_leaf (by kernel_rfl)⟩
theorem ty106 : TyOK Try.prog 106 ⟨.int .u8,1,1,.int .u8 0,[.int .u8]⟩ := ⟨by kernel_rfl,by kernel_rfl,by kernel_rfl,by kernel_rfl,by kernel_rfl,by kernel_rfl,by decide,fun _ => eqTy_leaf (d := (Try.prog.underlying 106).getD .bool) (by kernel_rfl) (by kernel_rfl) (by kernel_rfl),eqn_leaf (by kernel_rfl)⟩
theorem ty107 : TyOK Try.prog 107 ⟨.func,1,8,.nilf,[]⟩ := ⟨by kernel_rfl,by kernel_rfl,by kernel_rfl,by kernel_rfl,by kernel_rfl,by kernel_rfl,by decide,eq_none,eqn_none⟩
theorem ty108 : TyOK Try.prog 108 ⟨.ptr,1,8,.nilp,[]⟩ := ⟨by kernel_rfl,by kernel_rfl,by kernel_rfl,by kernel_rfl,by kernel_rfl,by kernel_rfl,by decide,eq_none,eqn_none⟩
theorem ty109 : TyOK Try.prog 109 ⟨.int .i32,1,4,.int .i32 0,[.int .i32]⟩ := ⟨by kernel_rfl,by kernel_rfl,by kernel_rfl,by kernel_rfl,by kernel_rfl,by kernel_rfl,by decide,fun _ => eqTy_leaf (d := (Try.prog.underlying 109).getD .bool) (by kernel_rfl) (by kernel_rfl) (by kernel_rfl),eqn_leaf (by kernel_rfl)⟩
theorem ty110 : TyOK Try.prog 110 ⟨.int .i32,1,4,.int .i32 0,[.int .i32]⟩ := ⟨by kernel_rfl,by kernel_rfl,by kernel_rfl,by kernel_rfl,by kernel_rfl,by kernel_rfl,by decide,fun _ => eqTy_leaf (d := (Try.prog.underlying 110).getD .bool) (by kernel_rfl) (by kernel_rfl) (by kernel_rfl),eqn_leaf (by kernel_rfl)⟩
theorem ty111 : TyOK Try.prog 111 ⟨.strct [(0,12),(1,12),(2,76),(3,105),(4,5),(5,5),(6,106),(7,107),(8,108),(9,109),(10,110)],11,48,.agg [.int .u64 0,.int .u64 0,.int .u32 0,.int .u8 0,.int .u8 0,.int .u8 0,.int .u8 0,.nilf,.nilp,.int .i32 0,.int .i32 0],[]⟩ := ⟨by kernel_rfl,by kernel_rfl,by kernel_rfl,by kernel_rfl,by kernel_rfl,by kernel_rfl,by decide,eq_none,eqn_none⟩
theorem ty112 : TyOK Try.prog 112 ⟨.strct [(0,12),(1,12),(2,76),(3,105),(4,5),(5,5),(6,106),(7,107),(8,108),(9,109),(10,110)],11,48,.agg [.int .u64 0,.int .u64 0,.int .u32 0,.int .u8 0,.int .u8 0,.int .u8 0,.int .u8 0,.nilf,.nilp,.int .i32 0,.int .i32 0],[]⟩ := ⟨by kernel_rfl,by kernel_rfl,by kernel_rfl,by kernel_rfl,by kernel_rfl,by kernel_rfl,by decide,eq_none,eqn_none⟩
theorem allTy : AllTy Try.prog ctx.types 0 := ⟨(fun h => (by cases h)),(fun _ => ty1),(fun _ => ty2),(fun _ => ty3),(fun _ => ty4),(fun _ => ty5),(fun _ => ty6),(fun _ => ty7),(fun _ => ty8),(fun _ => ty9),(fun _ => ty10),(fun _ => ty11),(fun _ => ty12),(fun _ => ty13),(fun _ => ty14),(fun _ => ty15),(fun _ => ty16),(fun _ => ty17),(fun _ => ty18),(fun _ => ty19),(fun h => (by cases h)),(fun _ => ty21),(fun _ => ty22),(fun _ => ty23),(fun _ => ty24),(fun _ => ty25),(fun _ => ty26),(fun _ => ty27),(fun _ => ty28),(fun _ => ty29),(fun _ => ty30),(fun _ => ty31),(fun _ => ty32),(fun _ => ty33),(fun _ => ty34),(fun _ => ty35),(fun _ => ty36),(fun _ => ty37),(fun _ => ty38),(fun _ => ty39),(fun _ => ty40),(fun _ => ty41),(fun _ => ty42),(fun _ => ty43),(fun _ => ty44),(fun _ => ty45),(fun _ => ty46),(fun _ => ty47),(fun _ => ty48),(fun _ => ty49),(fun _ => ty50),(fun _ => ty51),(fun _ => ty52),(fun _ => ty53),(fun _ => ty54),(fun _ => ty55),(fun _ => ty56),(fun _ => ty57),(fun _ => ty58),(fun _ => ty59),(fun _ => ty60),(fun _ => ty61),(fun _ => ty62),(fun _ => ty63),(fun _ => ty64),(fun _ => ty65),(fun _ => ty66),(fun _ => ty67),(fun _ => ty68),(fun h => (by cases h)),(fun _ => ty70),(fun _ => ty71),(fun _ => ty72),(fun h => (by cases h)),(fun _ => ty74),(fun _ => ty75),(fun _ => ty76),(fun _ => ty77),(fun _ => ty78),(fun _ => ty79),(fun _ => ty80),(fun _ => ty81),(fun _ => ty82),(fun _ => ty83),(fun _ => ty84),(fun _ => ty85),(fun _ => ty86),(fun _ => ty87),(fun _ => ty88),(fun _ => ty89),(fun _ => ty90),(fun _ => ty91),(fun _ => ty92),(fun h => (by cases h)),(fun _ => ty94),(fun _ => ty95),(fun _ => ty96),(fun _ => ty97),(fun _ => ty98),(fun _ => ty99),(fun _ => ty100),(fun h => (by cases h)),(fun h => (by cases h)),(fun h => (by cases h)),(fun _ => ty104),(fun _ => ty105),(fun _ => ty106),(fun _ => ty107),(fun _ => ty108),(fun _ => ty109),(fun _ => ty110),(fun _ => ty111),(fun _ => ty112),(fun h => (by cases h)),trivial⟩
theorem fn3 : FnOK Try.prog 3 i3 := ⟨⟨Try.f3,(Try.f3.body).getD .skip,by kernel_rfl,by kernel_rfl,by kernel_rfl,by kernel_rfl,by kernel_rfl,by kernel_rfl⟩,by kernel_rfl⟩
theorem fn4 : FnOK Try.prog 4 i4 := ⟨⟨Try.f4,(Try.f4.body).getD .skip,by kernel_rfl,by kernel_rfl,by kernel_rfl,by kernel_rfl,by kernel_rfl,by kernel_rfl⟩,by kernel_rfl⟩
theorem fn5 : FnOK Try.prog 5 i5 := ⟨⟨Try.f5,(Try.f5.body).getD .skip,by kernel_rfl,by kernel_rfl,by kernel_rfl,by kernel_rfl,by kernel_rfl,by kernel_rfl⟩,by kernel_rfl⟩
theorem fn6 : FnOK Try.prog 6 i6 := ⟨⟨Try.f6,(Try.f6.body).getD .skip,by kernel_rfl,by kernel_rfl,by kernel_rfl,by kernel_rfl,by kernel_rfl,by kernel_rfl⟩,by kernel_rfl⟩
theorem fn7 : FnOK Try.prog 7 i7 := ⟨⟨Try.f7,(Try.f7.body).getD .skip,by kernel_rfl,by kernel_rfl,by kernel_rfl,by kernel_rfl,by kernel_rfl,by kernel_rfl⟩,by kernel_rfl⟩
theorem fn8 : FnOK Try.prog 8 i8 := ⟨⟨Try.f8,(Try.f8.body).getD .skip,by kernel_rfl,by kernel_rfl,by kernel_rfl,by kernel_rfl,by kernel_rfl,by kernel_rfl⟩,by kernel_rfl⟩
theorem fn9 : FnOK Try.prog 9 i9 := ⟨⟨Try.f9,(Try.f9.body).getD .skip,by kernel_rfl,by kernel_rfl,by kernel_rfl,by kernel_rfl,by kernel_rfl,by kernel_rfl⟩,by kernel_rfl⟩
theorem fn10 : FnOK Try.prog 10 i10 := ⟨⟨Try.f10,(Try.f10.body).getD .skip,by kernel_rfl,by kernel_rfl,by kernel_rfl,by kernel_rfl,by kernel_rfl,by kernel_rfl⟩,by kernel_rfl⟩
theorem fn11 : FnOK Try.prog 11 i11 := ⟨⟨Try.f11,(Try.f11.body).getD .skip,by kernel_rfl,by kernel_rfl,by kernel_rfl,by kernel_rfl,by kernel_rfl,by kernel_rfl⟩,by kernel_rfl⟩
theorem fn12 : FnOK Try.prog 12 i12 := ⟨⟨Try.f12,(Try.f12.body).getD .skip,by kernel_rfl,by kernel_rfl,by kernel_rfl,by kernel_rfl,by kernel_rfl,by kernel_rfl⟩,by kernel_rfl⟩
theorem fn13 : FnOK Try.prog 13 i13 := ⟨⟨Try.f13,(Try.f13.body).getD .skip,by kernel_rfl,by kernel_rfl,by kernel_rfl,by kernel_rfl,by kernel_rfl,by kernel_rfl⟩,by kernel_rfl⟩
theorem fn14 : FnOK Try.prog 14 i14 := ⟨⟨Try.f14,(Try.f14.body).getD .skip,by kernel_rfl,by kernel_rfl,by kernel_rfl,by kernel_rfl,by kernel_rfl,by kernel_rfl⟩,by kernel_rfl⟩
theorem fn15 : FnOK Try.prog 15 i15 := ⟨⟨Try.f15,(Try.f15.body).getD .skip,by kernel_rfl,by kernel_rfl,by kernel_rfl,by kernel_rfl,by kernel_rfl,by kernel_rfl⟩,by kernel_rfl⟩
theorem fn16 : FnOK Try.prog 16 i16 := ⟨⟨Try.f16,(Try.f16.body).getD .skip,by kernel_rfl,by kernel_rfl,by kernel_rfl,by kernel_rfl,by kernel_rfl,by kernel_rfl⟩,by kernel_rfl⟩
theorem fn17 : FnOK Try.prog 17 i17 := ⟨⟨Try.f17,(Try.f17.body).getD .skip,by kernel_rfl,by kernel_rfl,by kernel_rfl,by kernel_rfl,by kernel_rfl,by kernel_rfl⟩,by kernel_rfl⟩
theorem fn18 : FnOK Try.prog 18 i18 := ⟨⟨Try.f18,(Try.f18.body).getD .skip,by kernel_rfl,by kernel_rfl,by kernel_rfl,by kernel_rfl,by kernel_rfl,by kernel_rfl⟩,by kernel_rfl⟩
theorem fn19 : FnOK Try.prog 19 i19 := ⟨⟨Try.f19,(Try.f19.body).getD .skip,by kernel_rfl,by kernel_rfl,by kernel_rfl,by kernel_rfl,by kernel_rfl,by kernel_rfl⟩,by kernel_rfl⟩
theorem fn20 : FnOK Try.prog 20 i20 := ⟨⟨Try.f20,(Try.f20.body).getD .skip,by kernel_rfl,by kernel_rfl,by kernel_rfl,by kernel_rfl,by kernel_rfl,by kernel_rfl⟩,by kernel_rfl⟩
theorem fn21 : FnOK Try.prog 21 i21 := ⟨⟨Try.f21,(Try.f21.body).getD .skip,by kernel_rfl,by kernel_rfl,by kernel_rfl,by kernel_rfl,by kernel_rfl,by kernel_rfl⟩,by kernel_rfl⟩
theorem fn22 : FnOK Try.prog 22 i22 := ⟨⟨Try.f22,(Try.f22.body).getD .skip,by kernel_rfl,by kernel_rfl,by kernel_rfl,by kernel_rfl,by kernel_rfl,by kernel_rfl⟩,by kernel_rfl⟩
theorem fn23 : FnOK Try.prog 23 i23 := ⟨⟨Try.f23,(Try.f23.body).getD .skip,by kernel_rfl,by kernel_rfl,by kernel_rfl,by kernel_rfl,by kernel_rfl,by kernel_rfl⟩,by kernel_rfl⟩
theorem fn24 : FnOK Try.prog 24 i24 := ⟨⟨Try.f24,(Try.f24.body).getD .skip,by kernel_rfl,by kernel_rfl,by kernel_rfl,by kernel_rfl,by kernel_rfl,by kernel_rfl⟩,by kernel_rfl⟩
theorem fn25 : FnOK Try.prog 25 i25 := ⟨⟨Try.f25,(Try.f25.body).getD .skip,by kernel_rfl,by kernel_rfl,by kernel_rfl,by kernel_rfl,by kernel_rfl,by kernel_rfl⟩,by kernel_rfl⟩
theorem fn26 : FnOK Try.prog 26 i26 := ⟨⟨Try.f26,(Try.f26.body).getD .skip,by kernel_rfl,by kernel_rfl,by kernel_rfl,by kernel_rfl,by kernel_rfl,by kernel_rfl⟩,by kernel_rfl⟩
theorem fn27 : FnOK Try.prog 27 i27 := ⟨⟨Try.f27,(Try.f27.body).getD .skip,by kernel_rfl,by kernel_rfl,by kernel_rfl,by kernel_rfl,by kernel_rfl,by kernel_rfl⟩,by kernel_rfl⟩
theorem fn28 : FnOK Try.prog 28 i28 := ⟨⟨Try.f28,(Try.f28.body).getD .skip,by kernel_rfl,by kernel_rfl,by kernel_rfl,by kernel_rfl,by kernel_rfl,by kernel_rfl⟩,by kernel_rfl⟩
theorem fn30 : FnOK Try.prog 30 i30 := ⟨⟨Try.f30,(Try.f30.body).getD .skip,by kernel_rfl,by kernel_rfl,by kernel_rfl,by kernel_rfl,by kernel_rfl,by kernel_rfl⟩,by kernel_rfl⟩
theorem fn31 : FnOK Try.prog 31 i31 := ⟨⟨Try.f31,(Try.f31.body).getD .skip,by kernel_rfl,by kernel_rfl,by kernel_rfl,by kernel_rfl,by kernel_rfl,by kernel_rfl⟩,by kernel_rfl⟩
theorem fn32 : FnOK Try.prog 32 i32 := ⟨⟨Try.f32,(Try.f32.body).getD .skip,by kernel_rfl,by kernel_rfl,by kernel_rfl,by kernel_rfl,by kernel_rfl,by kernel_rfl⟩,by kernel_rfl⟩
theorem fn33 : FnOK Try.prog 33 i33 := ⟨⟨Try.f33,(Try.f33.body).getD .skip,by kernel_rfl,by kernel_rfl,by kernel_rfl,by kernel_rfl,by kernel_rfl,by kernel_rfl⟩,by kernel_rfl⟩
theorem fn34 : FnOK Try.prog 34 i34 := ⟨⟨Try.f34,(Try.f34.body).getD .skip,by kernel_rfl,by kernel_rfl,by kernel_rfl,by kernel_rfl,by kernel_rfl,by kernel_rfl⟩,by kernel_rfl⟩
theorem fn35 : FnOK Try.prog 35 i35 := ⟨⟨Try.f35,(Try.f35.body).getD .skip,by kernel_rfl,by kernel_rfl,by kernel_rfl,by kernel_rfl,by kernel_rfl,by kernel_rfl⟩,by kernel_rfl⟩
theorem fn38 : FnOK Try.prog 38 i38 := ⟨⟨Try.f38,(Try.f38.body).getD .skip,by kernel_rfl,by kernel_rfl,by kernel_rfl,by kernel_rfl,by kernel_rfl,by kernel_rfl⟩,by kernel_rfl⟩
theorem fn39 : FnOK Try.prog 39 i39 := ⟨⟨Try.f39,(Try.f39.body).getD .skip,by kernel_rfl,by kernel_rfl,by kernel_rfl,by kernel_rfl,by kernel_rfl,by kernel_rfl⟩,by kernel_rfl⟩
theorem fn40 : FnOK Try.prog 40 i40 := ⟨⟨Try.f40,(Try.f40.body).getD .skip,by kernel_rfl,by kernel_rfl,by kernel_rfl,by kernel_rfl,by kernel_rfl,by kernel_rfl⟩,by kernel_rfl⟩
theorem allFn : AllFn Try.prog ctx.fns := ⟨fn3,fn4,fn5,fn6,fn7,fn8,fn9,fn10,fn11,fn12,fn13,fn14,fn15,fn16,fn17,fn18,fn19,fn20,fn21,fn22,fn23,fn24,fn25,fn26,fn27,fn28,fn30,fn31,fn32,fn33,fn34,fn35,fn38,fn39,trivial⟩
theorem mix : Try.prog.follows .mixedOrders = true := by kernel_rfl
theorem allAlt : AllAlt Try.prog ctx.alt := trivial
theorem ctxOK (hp : AllPr Try.prog ctx.prim) : CtxOK Try.prog ctx := ctxOK_of allTy mix allFn hp allAlt
end Go.Am.Try
