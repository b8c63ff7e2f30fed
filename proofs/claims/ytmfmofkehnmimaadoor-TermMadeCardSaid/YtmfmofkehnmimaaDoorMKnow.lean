/- How 'simp' steps through the abstract machine over this seat's context: written by genk.py. -/
import Derived.Test.YtmfmofkehnmimaaDoorMCtx
import Derived.Test.YtmfmofkehnmimaaDoorMAns
set_option maxRecDepth 100000
namespace Go.Am.Tryd
open Go
theorem ti2 : ctx.ti 2 = some ⟨.int .i64, 1, 8, .int .i64 0, [.int .i64]⟩ := by rfl
theorem ti3 : ctx.ti 3 = some ⟨.int .i64, 1, 8, .int .i64 0, [.int .i64]⟩ := by rfl
theorem ti4 : ctx.ti 4 = some ⟨.bool, 1, 1, .bool false, [.bool]⟩ := by rfl
theorem ti5 : ctx.ti 5 = some ⟨.int .u8, 1, 1, .int .u8 0, [.int .u8]⟩ := by rfl
theorem ti6 : ctx.ti 6 = some ⟨.int .u8, 1, 1, .int .u8 0, [.int .u8]⟩ := by rfl
theorem ti7 : ctx.ti 7 = some ⟨.strct [(0, 2), (1, 3), (2, 4), (3, 6)], 4, 24, .agg [.int .i64 0, .int .i64 0, .bool false, .int .u8 0], []⟩ := by rfl
theorem ti8 : ctx.ti 8 = some ⟨.strct [(0, 2), (1, 3), (2, 4), (3, 6)], 4, 24, .agg [.int .i64 0, .int .i64 0, .bool false, .int .u8 0], []⟩ := by rfl
theorem ti9 : ctx.ti 9 = some ⟨.str, 1, 16, .str [], [.str]⟩ := by rfl
theorem ti10 : ctx.ti 10 = some ⟨.str, 1, 16, .str [], [.str]⟩ := by rfl
theorem ti11 : ctx.ti 11 = some ⟨.str, 1, 16, .str [], [.str]⟩ := by rfl
theorem ti12 : ctx.ti 12 = some ⟨.int .u64, 1, 8, .int .u64 0, [.int .u64]⟩ := by rfl
theorem ti13 : ctx.ti 13 = some ⟨.strct [(0, 9), (1, 12)], 2, 24, .agg [.str [], .int .u64 0], []⟩ := by rfl
theorem ti14 : ctx.ti 14 = some ⟨.strct [(0, 9), (1, 12)], 2, 24, .agg [.str [], .int .u64 0], []⟩ := by rfl
theorem ti15 : ctx.ti 15 = some ⟨.ptr, 1, 8, .nilp, []⟩ := by rfl
theorem ti16 : ctx.ti 16 = some ⟨.ptr, 1, 8, .nilp, []⟩ := by rfl
theorem ti17 : ctx.ti 17 = some ⟨.ptr, 1, 8, .nilp, []⟩ := by rfl
theorem ti18 : ctx.ti 18 = some ⟨.strct [(0, 17)], 1, 8, .agg [.nilp], []⟩ := by rfl
theorem ti19 : ctx.ti 19 = some ⟨.strct [(0, 17)], 1, 8, .agg [.nilp], []⟩ := by rfl
theorem ti21 : ctx.ti 21 = some ⟨.int .i32, 1, 4, .int .i32 0, [.int .i32]⟩ := by rfl
theorem ti22 : ctx.ti 22 = some ⟨.slice 5, 1, 24, .nil, []⟩ := by rfl
theorem ti24 : ctx.ti 24 = some ⟨.slice 26, 1, 24, .nil, []⟩ := by rfl
theorem ti25 : ctx.ti 25 = some ⟨.strct [(0, 3), (1, 3), (2, 9), (3, 24)], 4, 56, .agg [.int .i64 0, .int .i64 0, .str [], .nil], []⟩ := by rfl
theorem ti26 : ctx.ti 26 = some ⟨.strct [(0, 3), (1, 3), (2, 9), (3, 24)], 4, 56, .agg [.int .i64 0, .int .i64 0, .str [], .nil], []⟩ := by rfl
theorem ti37 : ctx.ti 37 = some ⟨.slice 3, 1, 24, .nil, []⟩ := by rfl
theorem ti41 : ctx.ti 41 = some ⟨.int .u16, 1, 2, .int .u16 0, [.int .u16]⟩ := by rfl
theorem ti45 : ctx.ti 45 = some ⟨.slice 9, 1, 24, .nil, []⟩ := by rfl
theorem ti54 : ctx.ti 54 = some ⟨.map 3 4, 1, 8, .nilm, []⟩ := by rfl
theorem ti58 : ctx.ti 58 = some ⟨.map 3 3, 1, 8, .nilm, []⟩ := by rfl
theorem ti61 : ctx.ti 61 = some ⟨.slice 79, 1, 24, .nil, []⟩ := by rfl
theorem ti62 : ctx.ti 62 = some ⟨.slice 76, 1, 24, .nil, []⟩ := by rfl
theorem ti63 : ctx.ti 63 = some ⟨.strct [(0, 61), (1, 62)], 2, 48, .agg [.nil, .nil], []⟩ := by rfl
theorem ti64 : ctx.ti 64 = some ⟨.strct [(0, 61), (1, 62)], 2, 48, .agg [.nil, .nil], []⟩ := by rfl
theorem ti71 : ctx.ti 71 = some ⟨.slice 74, 1, 24, .nil, []⟩ := by rfl
theorem ti72 : ctx.ti 72 = some ⟨.slice 85, 1, 24, .nil, []⟩ := by rfl
theorem ti73 : ctx.ti 73 = some ⟨.strct [(0, 3), (1, 3), (2, 9), (3, 3), (4, 71), (5, 72)], 6, 88, .agg [.int .i64 0, .int .i64 0, .str [], .int .i64 0, .nil, .nil], []⟩ := by rfl
theorem ti74 : ctx.ti 74 = some ⟨.strct [(0, 3), (1, 3), (2, 9), (3, 3), (4, 71), (5, 72)], 6, 88, .agg [.int .i64 0, .int .i64 0, .str [], .int .i64 0, .nil, .nil], []⟩ := by rfl
theorem ti75 : ctx.ti 75 = some ⟨.strct [(0, 9), (1, 3), (2, 74)], 8, 112, .agg [.str [], .int .i64 0, .int .i64 0, .int .i64 0, .str [], .int .i64 0, .nil, .nil], []⟩ := by rfl
theorem ti76 : ctx.ti 76 = some ⟨.strct [(0, 9), (1, 3), (2, 74)], 8, 112, .agg [.str [], .int .i64 0, .int .i64 0, .int .i64 0, .str [], .int .i64 0, .nil, .nil], []⟩ := by rfl
theorem ti77 : ctx.ti 77 = some ⟨.slice 81, 1, 24, .nil, []⟩ := by rfl
theorem ti78 : ctx.ti 78 = some ⟨.strct [(0, 9), (1, 3), (2, 45), (3, 77)], 4, 72, .agg [.str [], .int .i64 0, .nil, .nil], []⟩ := by rfl
theorem ti79 : ctx.ti 79 = some ⟨.strct [(0, 9), (1, 3), (2, 45), (3, 77)], 4, 72, .agg [.str [], .int .i64 0, .nil, .nil], []⟩ := by rfl
theorem ti80 : ctx.ti 80 = some ⟨.strct [(0, 9), (1, 3), (2, 24)], 3, 48, .agg [.str [], .int .i64 0, .nil], []⟩ := by rfl
theorem ti81 : ctx.ti 81 = some ⟨.strct [(0, 9), (1, 3), (2, 24)], 3, 48, .agg [.str [], .int .i64 0, .nil], []⟩ := by rfl
theorem ti84 : ctx.ti 84 = some ⟨.strct [(0, 3), (1, 9), (2, 45), (3, 74)], 9, 136, .agg [.int .i64 0, .str [], .nil, .int .i64 0, .int .i64 0, .str [], .int .i64 0, .nil, .nil], []⟩ := by rfl
theorem ti85 : ctx.ti 85 = some ⟨.strct [(0, 3), (1, 9), (2, 45), (3, 74)], 9, 136, .agg [.int .i64 0, .str [], .nil, .int .i64 0, .int .i64 0, .str [], .int .i64 0, .nil, .nil], []⟩ := by rfl
theorem ti88 : ctx.ti 88 = some ⟨.arr 24 5, 24, 24, .agg [.int .u8 0, .int .u8 0, .int .u8 0, .int .u8 0, .int .u8 0, .int .u8 0, .int .u8 0, .int .u8 0, .int .u8 0, .int .u8 0, .int .u8 0, .int .u8 0, .int .u8 0, .int .u8 0, .int .u8 0, .int .u8 0, .int .u8 0, .int .u8 0, .int .u8 0, .int .u8 0, .int .u8 0, .int .u8 0, .int .u8 0, .int .u8 0], []⟩ := by rfl
theorem ti89 : ctx.ti 89 = some ⟨.int .u64, 1, 8, .int .u64 0, [.int .u64]⟩ := by rfl
theorem ti96 : ctx.ti 96 = some ⟨.arr 20 89, 20, 160, .agg [.int .u64 0, .int .u64 0, .int .u64 0, .int .u64 0, .int .u64 0, .int .u64 0, .int .u64 0, .int .u64 0, .int .u64 0, .int .u64 0, .int .u64 0, .int .u64 0, .int .u64 0, .int .u64 0, .int .u64 0, .int .u64 0, .int .u64 0, .int .u64 0, .int .u64 0, .int .u64 0], []⟩ := by rfl
theorem ti97 : ctx.ti 97 = some ⟨.int .u32, 1, 4, .int .u32 0, [.int .u32]⟩ := by rfl
theorem ti100 : ctx.ti 100 = some ⟨.int .u64, 1, 8, .int .u64 0, [.int .u64]⟩ := by rfl
theorem ti106 : ctx.ti 106 = some ⟨.strct [(0, 17), (1, 17), (2, 17), (3, 9)], 4, 40, .agg [.nilp, .nilp, .nilp, .str []], []⟩ := by rfl
theorem ti107 : ctx.ti 107 = some ⟨.strct [(0, 17), (1, 17), (2, 17), (3, 9)], 4, 40, .agg [.nilp, .nilp, .nilp, .str []], []⟩ := by rfl
theorem ti112 : ctx.ti 112 = some ⟨.int .u8, 1, 1, .int .u8 0, [.int .u8]⟩ := by rfl
theorem ti113 : ctx.ti 113 = some ⟨.int .u8, 1, 1, .int .u8 0, [.int .u8]⟩ := by rfl
theorem ti115 : ctx.ti 115 = some ⟨.ptr, 1, 8, .nilp, []⟩ := by rfl
theorem ti116 : ctx.ti 116 = some ⟨.int .i32, 1, 4, .int .i32 0, [.int .i32]⟩ := by rfl
theorem ti117 : ctx.ti 117 = some ⟨.int .i32, 1, 4, .int .i32 0, [.int .i32]⟩ := by rfl
theorem ti118 : ctx.ti 118 = some ⟨.strct [(0, 12), (1, 12), (2, 97), (3, 112), (4, 5), (5, 5), (6, 113), (7, 114), (8, 115), (9, 116), (10, 117)], 11, 48, .agg [.int .u64 0, .int .u64 0, .int .u32 0, .int .u8 0, .int .u8 0, .int .u8 0, .int .u8 0, .nilf, .nilp, .int .i32 0, .int .i32 0], []⟩ := by rfl
theorem ti119 : ctx.ti 119 = some ⟨.strct [(0, 12), (1, 12), (2, 97), (3, 112), (4, 5), (5, 5), (6, 113), (7, 114), (8, 115), (9, 116), (10, 117)], 11, 48, .agg [.int .u64 0, .int .u64 0, .int .u32 0, .int .u8 0, .int .u8 0, .int .u8 0, .int .u8 0, .nilf, .nilp, .int .i32 0, .int .i32 0], []⟩ := by rfl
theorem fn3_ : ctx.fn 3 = some i3 := by rfl
theorem fn4_ : ctx.fn 4 = some i4 := by rfl
theorem fn5_ : ctx.fn 5 = some i5 := by rfl
theorem fn6_ : ctx.fn 6 = some i6 := by rfl
theorem fn7_ : ctx.fn 7 = some i7 := by rfl
theorem fn8_ : ctx.fn 8 = some i8 := by rfl
theorem fn9_ : ctx.fn 9 = some i9 := by rfl
theorem fn10_ : ctx.fn 10 = some i10 := by rfl
theorem fn11_ : ctx.fn 11 = some i11 := by rfl
theorem fn12_ : ctx.fn 12 = some i12 := by rfl
theorem fn13_ : ctx.fn 13 = some i13 := by rfl
theorem fn14_ : ctx.fn 14 = some i14 := by rfl
theorem fn15_ : ctx.fn 15 = some i15 := by rfl
theorem fn16_ : ctx.fn 16 = some i16 := by rfl
theorem fn17_ : ctx.fn 17 = some i17 := by rfl
theorem fn18_ : ctx.fn 18 = some i18 := by rfl
theorem fn19_ : ctx.fn 19 = some i19 := by rfl
theorem fn20_ : ctx.fn 20 = some i20 := by rfl
theorem fn21_ : ctx.fn 21 = some i21 := by rfl
theorem fn22_ : ctx.fn 22 = some i22 := by rfl
theorem fn23_ : ctx.fn 23 = some i23 := by rfl
theorem fn24_ : ctx.fn 24 = some i24 := by rfl
theorem fn25_ : ctx.fn 25 = some i25 := by rfl
theorem fn26_ : ctx.fn 26 = some i26 := by rfl
theorem fn27_ : ctx.fn 27 = some i27 := by rfl
theorem fn28_ : ctx.fn 28 = some i28 := by rfl
theorem fn29_ : ctx.fn 29 = some i29 := by rfl
theorem fn30_ : ctx.fn 30 = some i30 := by rfl
theorem fn31_ : ctx.fn 31 = some i31 := by rfl
theorem fn32_ : ctx.fn 32 = some i32 := by rfl
theorem fn33_ : ctx.fn 33 = some i33 := by rfl
theorem fn34_ : ctx.fn 34 = some i34 := by rfl
theorem fn35_ : ctx.fn 35 = some i35 := by rfl
theorem fn36_ : ctx.fn 36 = some i36 := by rfl
theorem fn37_ : ctx.fn 37 = some i37 := by rfl
theorem fn38_ : ctx.fn 38 = some i38 := by rfl
theorem fn39_ : ctx.fn 39 = some i39 := by rfl
theorem fn40_ : ctx.fn 40 = some i40 := by rfl
theorem fn41_ : ctx.fn 41 = some i41 := by rfl
theorem fn42_ : ctx.fn 42 = some i42 := by rfl
theorem fn43_ : ctx.fn 43 = some i43 := by rfl
theorem fn44_ : ctx.fn 44 = some i44 := by rfl
theorem fn47_ : ctx.fn 47 = some i47 := by rfl
theorem fn48_ : ctx.fn 48 = some i48 := by rfl
theorem fn49_ : ctx.fn 49 = some i49 := by rfl
theorem fn50_ : ctx.fn 50 = some i50 := by rfl
theorem fn51_ : ctx.fn 51 = some i51 := by rfl
theorem fn52_ : ctx.fn 52 = some i52 := by rfl
theorem fn53_ : ctx.fn 53 = some i53 := by rfl
theorem fn54_ : ctx.fn 54 = some i54 := by rfl
theorem fn56_ : ctx.fn 56 = some i56 := by rfl
theorem fn57_ : ctx.fn 57 = some i57 := by rfl
theorem fn58_ : ctx.fn 58 = some i58 := by rfl
theorem fn59_ : ctx.fn 59 = some i59 := by rfl
theorem fn61_ : ctx.fn 61 = some i61 := by rfl
theorem fn66_ : ctx.fn 66 = some i66 := by rfl
theorem fn67_ : ctx.fn 67 = some i67 := by rfl
theorem fn45_ : ctx.fn 45 = none := by rfl
theorem fn46_ : ctx.fn 46 = none := by rfl
attribute [simp] ti2 ti3 ti4 ti5 ti6 ti7 ti8 ti9 ti10 ti11 ti12 ti13 ti14 ti15 ti16 ti17 ti18 ti19 ti21 ti22 ti24 ti25 ti26 ti37 ti41 ti45 ti54 ti58 ti61 ti62 ti63 ti64 ti71 ti72 ti73 ti74 ti75 ti76 ti77 ti78 ti79 ti80 ti81 ti84 ti85 ti88 ti89 ti96 ti97 ti100 ti106 ti107 ti112 ti113 ti115 ti116 ti117 ti118 ti119
attribute [simp] runOps runOp stepE opE kBin kUn kLen kLoad kStore kAlloc kBox kBuild kBuildSlice kMakeSlice kNil kPick kConv kFunc optA kSlice kMove kIndexAddr kIndex kField kFieldAddr kLookup kUpdate kEntry kEntryStore kExtract kAppend kCall bindM pureM obind failM retE retO retM av avs ev getS Fr.dstOk Fr.app Fr.put Fr.drop pkOps dstsF flatOps flatOp
attribute [simp] binA nilOp nilEq unA intOp strOp boolOp isShift cond boxAt newVarE newRowE fitAll elemAt putAt TK.isAgg memN loadA storeA elemsM part AV.sub AV.leafAt constA constLeaf constLeaves tupAt mmA rowOrText elemOf fieldOf partPlace buildA rowA setCells nzA sliceA byteRow newM arrAt appendH
attribute [simp] runD dstsD allD oneD DK.isS wantD seeD hideL hideS getR quietOp quietO calmO Eff.calm looksOp putsD storeD getW checkD endD putW DK.isW sameD between SV.same runPost norm keepS refsIn round1
attribute [simp] runFn argSlots results tupled AV.noRef AV.noRefs AV.scalar
end Go.Am.Tryd
