/- Parts of one machine and of the walks over it, joined: KT K62 K67 K73 KN. -/
import Derived.Test.YtgagaobijjahhaaGreatDoorChecked
import Derived.Test.YtgagaobijjahhaaGreatDoorAmB
import Derived.Test.YtgagaobijjahhaaGreatDoorJA
import Derived.Test.YtgagaobijjahhaaGreatDoorAmIter
import Derived.Test.YtgagaobijjahhaaGreatDoorAmMapR
/- Tables for the fast machine: types, bodies, regions that draw their order. -/
namespace Go.Am.R2
open Go.Proofs
set_option maxRecDepth 100000
noncomputable def ti3 : TI := ⟨1, false, .int .i64, .i .i64 0, 8, [], none, none⟩
noncomputable def ti4 : TI := ⟨1, false, .other, .b false, 1, [], none, none⟩
noncomputable def ti5 : TI := ⟨1, false, .int .u8, .i .u8 0, 1, [], none, none⟩
noncomputable def ti9 : TI := ⟨1, false, .string, .s .empty, 16, [], none, none⟩
noncomputable def ti23 : TI := ⟨1, false, .int .i64, .i .i64 0, 8, [], none, none⟩
noncomputable def ti27 : TI := ⟨1, false, .slice 145, .nils, 24, [], none, some 1⟩
noncomputable def ti28 : TI := ⟨1, false, .slice 116, .nils, 24, [], none, some 1⟩
noncomputable def ti30 : TI := ⟨4, true, .other, .agg ([.nils, .nils] ++ [.i .i64 0] ++ [.b false]), 64, [(0, (27, 1)), (1, (28, 1)), (2, (3, 1)), (3, (4, 1))], none, none⟩
noncomputable def ti31 : TI := ⟨1, false, .slice 119, .nils, 24, [], none, some 1⟩
noncomputable def ti33 : TI := ⟨2, true, .other, .agg ([.i .i64 0] ++ [.nils]), 32, [(0, (3, 1)), (1, (31, 1))], none, none⟩
noncomputable def ti34 : TI := ⟨2, true, .array 2 3, .agg ([.i .i64 0, .i .i64 0]), 16, [], some ([.i .i64, .i .i64]), none⟩
noncomputable def ti35 : TI := ⟨1, false, .slice 5, .nils, 24, [], none, some 1⟩
noncomputable def ti37 : TI := ⟨4, true, .other, .agg ([.i .i64 0, .i .i64 0, .i .i64 0] ++ [.nils]), 48, [(0, (34, 2)), (2, (3, 1)), (3, (35, 1))], none, none⟩
noncomputable def ti39 : TI := ⟨10, true, .other, .agg ([.nils, .nils] ++ [.i .i64 0] ++ [.b false] ++ [.i .i64 0] ++ [.nils] ++ [.i .i64 0, .i .i64 0, .i .i64 0] ++ [.nils]), 144, [(0, (30, 4)), (4, (33, 2)), (6, (37, 4))], none, none⟩
noncomputable def ti40 : TI := ⟨32, true, .array 32 5, .agg (List.replicate 32 (.i .u8 0)), 32, [], some (List.replicate 32 (.i .u8)), none⟩
noncomputable def ti42 : TI := ⟨34, true, .other, .agg ([.i .i64 0, .i .i64 0] ++ List.replicate 32 (.i .u8 0)), 48, [(0, (3, 1)), (1, (3, 1)), (2, (40, 32))], some ([.i .i64, .i .i64] ++ List.replicate 32 (.i .u8)), none⟩
noncomputable def ti44 : TI := ⟨36, true, .other, .agg ([.i .i64 0, .i .i64 0] ++ List.replicate 32 (.i .u8 0) ++ [.i .i64 0, .i .i64 0]), 64, [(0, (42, 34)), (34, (3, 1)), (35, (3, 1))], some ([.i .i64, .i .i64] ++ List.replicate 32 (.i .u8) ++ [.i .i64, .i .i64]), none⟩
noncomputable def ti51 : TI := ⟨1, false, .other, .nilp, 8, [], none, some 0⟩
noncomputable def ti52 : TI := ⟨1, false, .other, .nilp, 8, [], none, some 0⟩
noncomputable def ti68 : TI := ⟨6, true, .other, .agg (List.replicate 6 (.i .i64 0)), 48, [(0, (3, 1)), (1, (3, 1)), (2, (3, 1)), (3, (3, 1)), (4, (3, 1)), (5, (3, 1))], some (List.replicate 6 (.i .i64)), none⟩
noncomputable def ti80 : TI := ⟨1, false, .slice 93, .nils, 24, [], none, some 1⟩
noncomputable def ti86 : TI := ⟨39, true, .other, .agg (List.replicate 5 (.i .i64 0) ++ List.replicate 32 (.i .u8 0) ++ [.i .i64 0, .i .i64 0]), 88, [(0, (3, 1)), (1, (3, 1)), (2, (3, 1)), (3, (44, 36))], some (List.replicate 5 (.i .i64) ++ List.replicate 32 (.i .u8) ++ [.i .i64, .i .i64]), none⟩
noncomputable def ti93 : TI := ⟨2, true, .other, .agg ([.s .empty] ++ [.i .i64 0]), 24, [(0, (9, 1)), (1, (3, 1))], some ([.s] ++ [.i .i64]), none⟩
noncomputable def ti95 : TI := ⟨1, false, .map 3 4, .nilm, 8, [], none, some 2⟩
noncomputable def ti96 : TI := ⟨1, false, .slice 3, .nils, 24, [], none, some 1⟩
noncomputable def ti114 : TI := ⟨128, true, .array 128 5, .agg (List.replicate 128 (.i .u8 0)), 128, [], some (List.replicate 128 (.i .u8)), none⟩
noncomputable def ti116 : TI := ⟨129, true, .other, .agg ([.i .i64 0] ++ List.replicate 128 (.i .u8 0)), 136, [(0, (3, 1)), (1, (114, 128))], some ([.i .i64] ++ List.replicate 128 (.i .u8)), none⟩
noncomputable def ti119 : TI := ⟨2, true, .other, .agg ([.i .i64 0, .i .i64 0]), 16, [(0, (3, 1)), (1, (3, 1))], some ([.i .i64, .i .i64]), none⟩
noncomputable def ti132 : TI := ⟨64, true, .array 64 5, .agg (List.replicate 64 (.i .u8 0)), 64, [], some (List.replicate 64 (.i .u8)), none⟩
noncomputable def ti145 : TI := ⟨130, true, .other, .agg (List.replicate 128 (.i .u8 0) ++ [.b false, .b false]), 130, [(0, (114, 128)), (128, (4, 1)), (129, (4, 1))], some (List.replicate 128 (.i .u8) ++ [.b, .b]), none⟩
noncomputable def ti151 : TI := ⟨1, false, .other, .nilp, 8, [], none, some 0⟩
noncomputable def ti163 : TI := ⟨3, true, .other, .agg ([.i .i64 0, .i .i64 0, .i .i64 0]), 24, [(0, (3, 1)), (1, (3, 1)), (2, (3, 1))], some ([.i .i64, .i .i64, .i .i64]), none⟩
noncomputable def ti197 : TI := ⟨1, false, .int .u64, .i .u64 0, 8, [], none, none⟩
noncomputable def ti204 : TI := ⟨1, false, .slice 42, .nils, 24, [], none, some 1⟩
noncomputable def ti215 : TI := ⟨102, true, .array 3 42, .agg ([.i .i64 0, .i .i64 0] ++ List.replicate 32 (.i .u8 0) ++ [.i .i64 0, .i .i64 0] ++ List.replicate 32 (.i .u8 0) ++ [.i .i64 0, .i .i64 0] ++ List.replicate 32 (.i .u8 0)), 144, [], some ([.i .i64, .i .i64] ++ List.replicate 32 (.i .u8) ++ [.i .i64, .i .i64] ++ List.replicate 32 (.i .u8) ++ [.i .i64, .i .i64] ++ List.replicate 32 (.i .u8)), none⟩
noncomputable def ti221 : TI := ⟨1, false, .other, .nilp, 8, [], none, some 0⟩
noncomputable def ti222 : TI := ⟨2, true, .array 2 221, .agg ([.nilp, .nilp]), 16, [], none, none⟩
noncomputable def ti223 : TI := ⟨1, false, .int .u64, .i .u64 0, 8, [], none, none⟩
noncomputable def ti226 : TI := ⟨1, false, .other, .nilp, 8, [], none, some 0⟩
noncomputable def ti229 : TI := ⟨2, true, .array 2 95, .agg ([.nilm, .nilm]), 16, [], none, none⟩
noncomputable def ti230 : TI := ⟨1, false, .int .u32, .i .u32 0, 4, [], none, none⟩
noncomputable def ti231 : TI := ⟨8, true, .array 8 230, .agg (List.replicate 8 (.i .u32 0)), 32, [], some (List.replicate 8 (.i .u32)), none⟩
noncomputable def ti241 : TI := ⟨1, false, .other, .nilp, 8, [], none, some 0⟩
noncomputable def ti254 : TI := ⟨64, true, .array 64 230, .agg (List.replicate 64 (.i .u32 0)), 256, [], some (List.replicate 64 (.i .u32)), none⟩
def tyL : List Nat := [3, 4, 5, 9, 23, 27, 28, 30, 31, 33, 34, 35, 37, 39, 40, 42, 44, 51, 52, 68, 80, 86, 93, 95, 96, 114, 116, 119, 132, 145, 151, 163, 197, 204, 215, 221, 222, 223, 226, 229, 230, 231, 241, 254]
noncomputable def tyK : T TI := .n none (.n none (.n (some ti3) (.n none (.n none (.n (some ti31) (.l) (.n (some ti95) (.l) (.n (some ti223) (.l) (.l)))) (.l)) (.n (some ti23) (.n (some ti39) (.l) (.n none (.l) (.n (some ti231) (.l) (.l)))) (.n none (.n none (.n (some ti151) (.l) (.l)) (.n (some ti215) (.l) (.l))) (.n (some ti119) (.l) (.l))))) (.n none (.n none (.n (some ti35) (.l) (.n none (.n (some ti163) (.l) (.l)) (.l))) (.n (some ti51) (.l) (.l))) (.n (some ti27) (.l) (.l)))) (.n (some ti5) (.n (some ti9) (.n none (.n (some ti33) (.l) (.l)) (.n none (.n none (.n (some ti145) (.l) (.l)) (.l)) (.n none (.l) (.n (some ti241) (.l) (.l))))) (.l)) (.n none (.n none (.n (some ti37) (.n none (.l) (.n (some ti197) (.l) (.l))) (.n none (.l) (.n (some ti229) (.l) (.l)))) (.l)) (.n none (.l) (.n none (.n (some ti93) (.l) (.n (some ti221) (.l) (.l))) (.l)))))) (.n none (.n (some ti4) (.n none (.n none (.n none (.l) (.n (some ti96) (.l) (.l))) (.n none (.n (some ti80) (.l) (.l)) (.l))) (.n none (.n (some ti40) (.l) (.l)) (.l))) (.n none (.n none (.n none (.n (some ti68) (.n (some ti132) (.l) (.l)) (.l)) (.l)) (.n (some ti52) (.l) (.n (some ti116) (.l) (.l)))) (.n (some ti28) (.n (some ti44) (.n none (.l) (.n (some ti204) (.l) (.l))) (.l)) (.l)))) (.n none (.n none (.n none (.n (some ti34) (.l) (.n none (.l) (.n (some ti226) (.l) (.l)))) (.n none (.l) (.n (some ti114) (.l) (.l)))) (.n none (.n (some ti42) (.l) (.l)) (.l))) (.n none (.n none (.n none (.l) (.n none (.l) (.n (some ti230) (.l) (.l)))) (.n none (.n (some ti86) (.l) (.l)) (.l))) (.n (some ti30) (.l) (.n none (.n none (.l) (.n (some ti222) (.l) (.l))) (.n none (.l) (.n (some ti254) (.l) (.l))))))))
def fnL : List Nat := [6, 12, 13, 17, 18, 20, 21, 33, 34, 35, 36, 37, 38, 39, 40, 41, 43, 46, 50, 51, 52, 55, 59, 60, 72, 73, 74, 75, 76, 77, 78, 79, 80, 81, 82, 84, 85, 86, 87, 88, 89, 90, 93, 94, 95, 99, 100, 101, 102, 104, 105, 106, 107, 108, 109, 110, 111, 112, 113, 114, 115, 116, 117, 118, 119, 120, 121, 122, 123, 126, 127, 130, 132, 133, 134, 135, 136, 137, 140, 144, 145, 148, 151, 153, 154, 155, 156, 157, 158, 159, 160, 161, 162, 163, 168, 169, 170, 172, 173, 174, 175, 176, 177, 178, 184, 185, 186, 187, 188, 189, 190, 191, 192, 193, 194, 195, 196, 197, 198, 199, 200, 205, 206, 208, 209, 210, 211, 212, 213, 214, 215, 216, 217, 218, 219, 220, 221, 223, 224, 225, 226, 228, 229, 230, 231, 232, 233, 234, 235, 237, 238, 239, 240, 241, 242, 245, 247, 251, 253]
noncomputable def fnK : T Func := .n none (.n none (.n none (.n none (.n none (.n none (.n none (.n (some Tryz.f127) (.l) (.l)) (.n (some Tryz.f191) (.l) (.l))) (.n (some Tryz.f95) (.n (some Tryz.f159) (.l) (.l)) (.n (some Tryz.f223) (.l) (.l)))) (.n none (.n (some Tryz.f79) (.l) (.l)) (.n (some Tryz.f111) (.n (some Tryz.f175) (.l) (.l)) (.n (some Tryz.f239) (.l) (.l))))) (.n none (.n (some Tryz.f39) (.n none (.n (some Tryz.f135) (.l) (.l)) (.n (some Tryz.f199) (.l) (.l))) (.n none (.l) (.n (some Tryz.f231) (.l) (.l)))) (.n (some Tryz.f55) (.n (some Tryz.f87) (.n (some Tryz.f151) (.l) (.l)) (.n (some Tryz.f215) (.l) (.l))) (.n (some Tryz.f119) (.l) (.n (some Tryz.f247) (.l) (.l)))))) (.n none (.n none (.n (some Tryz.f35) (.n none (.l) (.n (some Tryz.f195) (.l) (.l))) (.n (some Tryz.f99) (.n (some Tryz.f163) (.l) (.l)) (.l))) (.n (some Tryz.f51) (.n none (.l) (.n (some Tryz.f211) (.l) (.l))) (.n (some Tryz.f115) (.l) (.l)))) (.n none (.n (some Tryz.f43) (.n (some Tryz.f75) (.l) (.l)) (.n (some Tryz.f107) (.l) (.n (some Tryz.f235) (.l) (.l)))) (.n (some Tryz.f59) (.n none (.n (some Tryz.f155) (.l) (.l)) (.n (some Tryz.f219) (.l) (.l))) (.n (some Tryz.f123) (.n (some Tryz.f187) (.l) (.l)) (.n (some Tryz.f251) (.l) (.l))))))) (.n none (.n none (.n (some Tryz.f17) (.n (some Tryz.f33) (.n none (.l) (.n (some Tryz.f193) (.l) (.l))) (.n none (.n (some Tryz.f161) (.l) (.l)) (.n (some Tryz.f225) (.l) (.l)))) (.n none (.n (some Tryz.f81) (.n (some Tryz.f145) (.l) (.l)) (.n (some Tryz.f209) (.l) (.l))) (.n (some Tryz.f113) (.n (some Tryz.f177) (.l) (.l)) (.n (some Tryz.f241) (.l) (.l))))) (.n none (.n (some Tryz.f41) (.n (some Tryz.f73) (.n (some Tryz.f137) (.l) (.l)) (.l)) (.n (some Tryz.f105) (.n (some Tryz.f169) (.l) (.l)) (.n (some Tryz.f233) (.l) (.l)))) (.n none (.n (some Tryz.f89) (.n (some Tryz.f153) (.l) (.l)) (.n (some Tryz.f217) (.l) (.l))) (.n (some Tryz.f121) (.n (some Tryz.f185) (.l) (.l)) (.l))))) (.n (some Tryz.f13) (.n (some Tryz.f21) (.n (some Tryz.f37) (.n none (.n (some Tryz.f133) (.l) (.l)) (.n (some Tryz.f197) (.l) (.l))) (.n (some Tryz.f101) (.l) (.n (some Tryz.f229) (.l) (.l)))) (.n none (.n (some Tryz.f85) (.l) (.n (some Tryz.f213) (.l) (.l))) (.n (some Tryz.f117) (.l) (.n (some Tryz.f245) (.l) (.l))))) (.n none (.n none (.n (some Tryz.f77) (.l) (.n (some Tryz.f205) (.l) (.l))) (.n (some Tryz.f109) (.n (some Tryz.f173) (.l) (.l)) (.n (some Tryz.f237) (.l) (.l)))) (.n none (.n (some Tryz.f93) (.n (some Tryz.f157) (.l) (.l)) (.n (some Tryz.f221) (.l) (.l))) (.n none (.n (some Tryz.f189) (.l) (.l)) (.n (some Tryz.f253) (.l) (.l)))))))) (.n none (.n none (.n none (.n none (.n none (.n none (.l) (.n (some Tryz.f192) (.l) (.l))) (.n none (.n (some Tryz.f160) (.l) (.l)) (.n (some Tryz.f224) (.l) (.l)))) (.n none (.n (some Tryz.f80) (.n (some Tryz.f144) (.l) (.l)) (.n (some Tryz.f208) (.l) (.l))) (.n (some Tryz.f112) (.n (some Tryz.f176) (.l) (.l)) (.n (some Tryz.f240) (.l) (.l))))) (.n none (.n (some Tryz.f40) (.n (some Tryz.f72) (.n (some Tryz.f136) (.l) (.l)) (.n (some Tryz.f200) (.l) (.l))) (.n (some Tryz.f104) (.n (some Tryz.f168) (.l) (.l)) (.n (some Tryz.f232) (.l) (.l)))) (.n none (.n (some Tryz.f88) (.l) (.n (some Tryz.f216) (.l) (.l))) (.n (some Tryz.f120) (.n (some Tryz.f184) (.l) (.l)) (.l))))) (.n (some Tryz.f12) (.n (some Tryz.f20) (.n (some Tryz.f36) (.n none (.n (some Tryz.f132) (.l) (.l)) (.n (some Tryz.f196) (.l) (.l))) (.n (some Tryz.f100) (.l) (.n (some Tryz.f228) (.l) (.l)))) (.n (some Tryz.f52) (.n (some Tryz.f84) (.n (some Tryz.f148) (.l) (.l)) (.n (some Tryz.f212) (.l) (.l))) (.n (some Tryz.f116) (.l) (.l)))) (.n none (.n none (.n (some Tryz.f76) (.n (some Tryz.f140) (.l) (.l)) (.l)) (.n (some Tryz.f108) (.n (some Tryz.f172) (.l) (.l)) (.l))) (.n (some Tryz.f60) (.n none (.n (some Tryz.f156) (.l) (.l)) (.n (some Tryz.f220) (.l) (.l))) (.n none (.n (some Tryz.f188) (.l) (.l)) (.l)))))) (.n (some Tryz.f6) (.n none (.n (some Tryz.f18) (.n (some Tryz.f34) (.n none (.n (some Tryz.f130) (.l) (.l)) (.n (some Tryz.f194) (.l) (.l))) (.n none (.n (some Tryz.f162) (.l) (.l)) (.n (some Tryz.f226) (.l) (.l)))) (.n (some Tryz.f50) (.n (some Tryz.f82) (.l) (.n (some Tryz.f210) (.l) (.l))) (.n (some Tryz.f114) (.n (some Tryz.f178) (.l) (.l)) (.n (some Tryz.f242) (.l) (.l))))) (.n none (.n none (.n (some Tryz.f74) (.l) (.l)) (.n (some Tryz.f106) (.n (some Tryz.f170) (.l) (.l)) (.n (some Tryz.f234) (.l) (.l)))) (.n none (.n (some Tryz.f90) (.n (some Tryz.f154) (.l) (.l)) (.n (some Tryz.f218) (.l) (.l))) (.n (some Tryz.f122) (.n (some Tryz.f186) (.l) (.l)) (.l))))) (.n none (.n none (.n (some Tryz.f38) (.n none (.n (some Tryz.f134) (.l) (.l)) (.n (some Tryz.f198) (.l) (.l))) (.n (some Tryz.f102) (.l) (.n (some Tryz.f230) (.l) (.l)))) (.n none (.n (some Tryz.f86) (.l) (.n (some Tryz.f214) (.l) (.l))) (.n (some Tryz.f118) (.l) (.l)))) (.n none (.n (some Tryz.f46) (.n (some Tryz.f78) (.l) (.n (some Tryz.f206) (.l) (.l))) (.n (some Tryz.f110) (.n (some Tryz.f174) (.l) (.l)) (.n (some Tryz.f238) (.l) (.l)))) (.n none (.n (some Tryz.f94) (.n (some Tryz.f158) (.l) (.l)) (.l)) (.n (some Tryz.f126) (.n (some Tryz.f190) (.l) (.l)) (.l)))))))
noncomputable def clsK : T (T (List (Nat × Nat))) := .n none (.n none (.n none (.n none (.n none (.n none (.n none (.l) (.n (some (.n none (.l) (.n (some ([(24, 22)])) (.l) (.l)))) (.l) (.l))) (.l)) (.l)) (.l)) (.n none (.n none (.l) (.n none (.l) (.n (some (.n none (.n (some ([(20, 15)])) (.l) (.l)) (.l))) (.l) (.l)))) (.n none (.n (some (.n none (.n none (.n (some ([(3, 1)])) (.l) (.l)) (.l)) (.l))) (.l) (.l)) (.n none (.l) (.n (some (.n none (.n (some ([(9, 6)])) (.l) (.l)) (.n none (.n (some ([(6, 3)])) (.l) (.l)) (.l)))) (.n (some (.n none (.l) (.n (some ([(0, 2)])) (.l) (.l)))) (.l) (.l)) (.l)))))) (.n none (.n none (.n none (.n (some (.n none (.n none (.n (some ([(9, 6)])) (.l) (.l)) (.l)) (.n none (.l) (.n (some ([(6, 3)])) (.l) (.l))))) (.n none (.l) (.n (some (.n none (.l) (.n none (.n (some ([(5, 0)])) (.l) (.l)) (.l)))) (.l) (.l))) (.l)) (.l)) (.n none (.n none (.l) (.n none (.l) (.n (some (.n none (.n none (.n (some ([(5, 6)])) (.l) (.l)) (.n none (.n (some ([(9, 3)])) (.l) (.l)) (.l))) (.l))) (.l) (.l)))) (.n none (.n none (.n (some (.n none (.n (some ([(10, 1), (10, 5), (11, 1), (11, 5), (10, 12), (11, 12), (10, 13), (11, 13), (10, 17), (11, 17)])) (.l) (.l)) (.l))) (.l) (.l)) (.l)) (.n none (.n (some (.n none (.l) (.n none (.n none (.n (some ([(5, 0)])) (.l) (.l)) (.l)) (.l)))) (.l) (.l)) (.l))))) (.l))) (.n none (.n none (.n none (.n none (.l) (.n none (.n none (.n (some (.n none (.n (some ([(1, 0)])) (.l) (.l)) (.l))) (.l) (.l)) (.l)) (.l))) (.n none (.l) (.n none (.l) (.n (some (.n none (.l) (.n none (.n (some ([(4, 2)])) (.l) (.l)) (.l)))) (.l) (.l))))) (.n none (.n (some (.n none (.l) (.n none (.n (some ([(8, 1)])) (.l) (.l)) (.l)))) (.l) (.n none (.n none (.n (some (.n none (.n (some ([(4, 5)])) (.l) (.l)) (.l))) (.l) (.l)) (.l)) (.l))) (.l))) (.n none (.n none (.n none (.n none (.l) (.n none (.l) (.n (some (.n none (.l) (.n (some ([(6, 0)])) (.l) (.l)))) (.l) (.l)))) (.l)) (.n none (.n none (.l) (.n none (.n (some (.n none (.n none (.n none (.l) (.n (some ([(8, 5), (8, 7)])) (.l) (.l))) (.l)) (.l))) (.l) (.l)) (.l))) (.l))) (.n none (.n none (.n none (.n none (.n (some (.n none (.l) (.n none (.n none (.n (some ([(9, 4)])) (.l) (.l)) (.l)) (.l)))) (.l) (.l)) (.n (some (.n none (.n none (.l) (.n (some ([(2, 14)])) (.l) (.l))) (.l))) (.l) (.l))) (.l)) (.l)) (.n none (.n none (.n (some (.n none (.n none (.n (some ([(9, 6)])) (.l) (.l)) (.l)) (.n none (.l) (.n (some ([(6, 3)])) (.l) (.l))))) (.l) (.n (some (.n none (.n none (.n (some ([(1, 3)])) (.l) (.l)) (.l)) (.l))) (.l) (.l))) (.l)) (.l)))))
noncomputable def preK : T (T (List Nat)) := .n none (.n none (.n none (.l) (.n none (.l) (.n none (.l) (.n none (.l) (.n (some (.n none (.n (some ([9, 9])) (.l) (.l)) (.l))) (.l) (.l)))))) (.n none (.n none (.n none (.n (some (.n none (.n none (.n (some ([9, 9])) (.l) (.l)) (.l)) (.l))) (.l) (.l)) (.l)) (.n none (.n none (.l) (.n none (.l) (.n (some (.n none (.n none (.l) (.n none (.n (some ([12])) (.l) (.l)) (.l))) (.l))) (.l) (.l)))) (.l))) (.l))) (.n none (.n none (.n none (.l) (.n none (.l) (.n none (.l) (.n none (.n (some (.n none (.n none (.n (some ([13])) (.l) (.l)) (.l)) (.l))) (.l) (.l)) (.l))))) (.l)) (.n none (.n none (.n none (.l) (.n (some (.n none (.n (some ([11])) (.l) (.l)) (.l))) (.l) (.l))) (.n none (.n none (.n (some (.n none (.l) (.n none (.n none (.l) (.n (some ([])) (.l) (.l))) (.l)))) (.l) (.l)) (.l)) (.n none (.n none (.n (some (.n none (.n none (.n none (.n (some ([18])) (.l) (.l)) (.l)) (.l)) (.l))) (.l) (.l)) (.l)) (.l)))) (.n none (.n none (.n none (.n none (.n (some (.n none (.l) (.n none (.n none (.n (some ([])) (.l) (.l)) (.l)) (.l)))) (.l) (.l)) (.l)) (.l)) (.l)) (.n none (.n none (.n (some (.n none (.n none (.n (some ([9, 9])) (.l) (.l)) (.l)) (.l))) (.l) (.l)) (.l)) (.n none (.l) (.n none (.n (some (.n none (.n none (.l) (.n none (.n (some ([14])) (.l) (.l)) (.l))) (.l))) (.l) (.l)) (.l)))))))
end Go.Am.R2

/- The fast machine at a sum: its tables, what it stands on. -/
namespace Go.Am.R2
open Go.Proofs
set_option maxRecDepth 100000
set_option linter.unusedSimpArgs false
set_option linter.unusedVariables false
noncomputable def pRot : List V → Option V
  | [.i .u32 (.ofNat x), .i .i64 k] => (match Nat.blt x 4294967296 with | true => (match amount k with | some s => some (.i .u32 (.ofNat (rot x s))) | none => none) | false => none)
  | _ => none
noncomputable def pMix : List V → Option V
  | [.i .u32 (.ofNat x), .i .i64 a, .i .i64 b, .i .i64 c] => (match Nat.blt x 4294967296 with
    | true => (match amount (IntKind.i64.wrap (-a)), amount (IntKind.i64.wrap (-b)), amount (IntKind.i64.wrap (-c)) with | some a, some b, some c => some (.i .u32 (.ofNat (mix3 x a b c))) | _, _, _ => none)
    | false => none)
  | _ => none
noncomputable def primS (f : Nat) : Option (List V → List O → Option V) :=
  match Nat.beq f 236 with | true => some (fun a _ => pRot a) | false => (match Nat.beq f 222 with | true => some (fun a _ => pMix a) | false => none)
noncomputable def primSB (f : Nat) : Option (List V → Mem → Option V) :=
  match Nat.beq f 236 with | true => some (fun a _ => pRot a) | false => (match Nat.beq f 222 with | true => some (fun a _ => pMix a) | false => none)
noncomputable def globB (g : Nat) : Option (List V) := match g with | 1 => some beginsV | 2 => some cubesV | _ => none
noncomputable def pClip : List V → Option V
  | [.sl r st o 0 129 cap] => some (.arr [] 0 true)
  | [.sl r st o (n + 1) 129 cap] => some (.sl r st o (n + 1) 129 (some (n + 1)))
  | [.nils] => some .nils
  | [.arr cs n c] => some (.arr (cs.take (n * 129)) n true)
  | _ => none
noncomputable def pCln : List V → Option V
  | [.nils] => some .nils
  | _ => none
noncomputable def stT (f : Nat) : Option (List V → Option V) := match Nat.beq f 174 with | true => some pClip | false => (match Nat.beq f 109 with | true => some pCln | false => none)
noncomputable def DS : CB := ⟨tyK, primSB, globB, fnK, clsK, fun _ => none, preK, stT⟩
def barS (f : Nat) : Bool := !(fnL.contains f || f == 171)
noncomputable def cfgS : Cfg := { P := Tryz.prog, bar := barS, cls := clsB DS, pre := preB DS, prim := primS, still := stT, glob := globB, keep := fun f _ => !(f == 171) }
noncomputable def yesV (r : Option V) (w : V) : Bool := match r with | some v => V.eqb v w | none => false
theorem yesV_eq {r : Option V} {w : V} (h : yesV r w = true) : r = some w := by
  cases r with
  | none => cases h
  | some v => have h : V.eqb v w = true := h; rw [V.eqb_eq h]
end Go.Am.R2

/- The fast machine at sums: it is sound. -/
namespace Go.Am.R2
open Go.Proofs
set_option maxRecDepth 100000
set_option linter.unusedSimpArgs false
set_option linter.unusedVariables false
theorem fnK_eq : fnK = mkF Tryz.prog fnL := by kernel_rfl
theorem glob_eq : globB = globT := by
  funext g
  match g with
  | 0 => rfl
  | 1 => rfl
  | 2 => rfl
  | n + 3 => simp [globB, globT]
theorem glob_cln : ∀ g cs, globB g = some cs → V.cleanL true cs = true := by
  intro g cs h
  unfold globB at h
  split at h <;> cases h
  · exact cleanL_ints _
  · exact cleanL_ints _
theorem callOk (k : Nat) : CallOk cfg (runA cfg k) := run_sound prims fns (draw_sound mixed prims.still) k
theorem primAtS : ∀ f g, primS f = some g → PrimAt cfgS f g := by
  intro f g h
  unfold primS at h
  have hg : ∀ g cs, cfg.glob g = some cs → V.cleanL true cs = true := fun g cs h => glob_cln g cs (by rw [glob_eq]; exact h)
  split at h
  · rename_i e
    cases Nat.eq_of_beq_eq_true e
    cases h
    refine primAt_frz (C := cfg) (C' := cfgS) callOk hg rfl glob_eq fun args σ v hv => ?_
    unfold pRot at hv
    split at hv
    · rename_i x k
      split at hv
      · rename_i hx
        split at hv
        · rename_i s hs
          cases hv
          obtain ⟨k, hk⟩ := runF_some (rot_ok (σ := []) (p := []) x (blt_true hx) _ s hs)
          exact ⟨k, [], _, hk, rfl, rfl, fun _ _ _ h => h⟩
        · cases hv
      · cases hv
    · cases hv
  · split at h
    · rename_i e
      cases Nat.eq_of_beq_eq_true e
      cases h
      refine primAt_frz (C := cfg) (C' := cfgS) callOk hg rfl glob_eq fun args σ v hv => ?_
      unfold pMix at hv
      split at hv
      · rename_i x a b c
        split at hv
        · rename_i hx
          split at hv
          · rename_i a' b' c' ha hb hc
            cases hv
            obtain ⟨k, hk⟩ := runF_some (mixed_ok (σ := []) (p := []) x (blt_true hx) _ _ _ a' b' c' ha hb hc)
            exact ⟨k, [], _, hk, rfl, rfl, fun _ _ _ h => h⟩
          · cases hv
        · cases hv
      · cases hv
    · cases h
theorem clip_ok {σ : List O} {p : List Nat} {args : List V} {v : V} (h : pClip args = some v) : runF cfg 174 args σ p = some (v, σ) := by
  unfold pClip at h
  split at h <;> cases h
  · rename_i r st o cap
    refine run_done rfl rfl Tryz.func174 rfl ?_
    have l1 := fun τ => len_sl (C := cfg) (σ := τ) (r := r) (st := st) (o := o) (n := 0) (es := 129) (cap := cap) sh28
    have s1 : sliceA cfg 28 (.sl r st o 0 129 cap) none (some (.i .i64 0)) (some (.i .i64 0)) = some (.arr [] 0 true) := by
      simp [sliceA, sh28, sz116, bnd]
    simp +contextual (disch := first | omega | exact rfl | decide | exact kpF (by decide) | exact kpT (by decide) | assumption | exact Z2z | exact Z30 | exact Z32 | exact Z31 | exact Z33 | exact Z34 | (simp only [ZI] <;> omega) | simp only [ZK] | (simp only [ZL] <;> assumption)) only [Tryz.f174, ZH, SOp, GOp, ↓Z1c, Int.reduceAdd, Int.reduceSub, Int.reduceMul, Int.reduceNeg, accs, touch, touchM, okPair, Nat.reduceAdd, Nat.reduceLeDiff, Nat.reduceMul, Nat.reduceSub, isV, opA, grdO, grd, Z41, Int.reduceLT, Int.reduceLE, Int.reduceToNat, builtinP, builtinA, changes, fieldAddrA, resA, tupled, ↓reduceIte, Nat.reduceEqDiff, Nat.reduceLT, Z70, Int.reduceEq, Y3, Y28, Y116, l1, s1, Int.natCast_zero]
  · rename_i r st o n cap
    refine run_done rfl rfl Tryz.func174 rfl ?_
    have l1 := fun τ => len_sl (C := cfg) (σ := τ) (r := r) (st := st) (o := o) (n := n + 1) (es := 129) (cap := cap) sh28
    have s1 : sliceA cfg 28 (.sl r st o (n + 1) 129 cap) none (some (.i .i64 ((n + 1 : Nat) : Int))) (some (.i .i64 ((n + 1 : Nat) : Int))) = some (.sl r st o (n + 1) 129 (some (n + 1))) := by
      simp only [sliceA, sh28, sz116, Option.bind_some, ne_eq, not_true_eq_false, if_false, bnd, Int.natCast_zero, Int.natCast_nonneg, if_true, Int.le_refl, Int.toNat_natCast, Nat.zero_lt_succ, Nat.zero_mul, Nat.add_zero, Nat.sub_zero]
    have hf : freeze σ.length σ (.sl r st o (n + 1) 129 (some (n + 1))) = .sl r st o (n + 1) 129 (some (n + 1)) := by
      simp only [freeze, freezeC, freeze1]
      split
      · rename_i hr
        have : rowAt σ r st = none := by simp [rowAt, List.getElem?_eq_none hr]
        rw [this]
      · rfl
    simp +contextual (disch := first | omega | exact rfl | decide | exact kpF (by decide) | exact kpT (by decide) | assumption | exact Z2z | exact Z30 | exact Z32 | exact Z31 | exact Z33 | exact Z34 | (simp only [ZI] <;> omega) | simp only [ZK] | (simp only [ZL] <;> assumption)) only [Tryz.f174, ZH, SOp, GOp, ↓Z1c, Int.reduceAdd, Int.reduceSub, Int.reduceMul, Int.reduceNeg, accs, touch, touchM, okPair, Nat.reduceAdd, Nat.reduceLeDiff, Nat.reduceMul, Nat.reduceSub, isV, opA, grdO, grd, Z41, Int.reduceLT, Int.reduceLE, Int.reduceToNat, builtinP, builtinA, changes, fieldAddrA, resA, tupled, ↓reduceIte, Nat.reduceEqDiff, Nat.reduceLT, Z70, Int.reduceEq, Y3, Y28, Y116, l1, s1, hf]
  · refine run_done rfl rfl Tryz.func174 rfl ?_
    have l1 := fun τ => len_nils (C := cfg) (σ := τ) sh28
    have s1 : sliceA cfg 28 .nils none (some (.i .i64 0)) (some (.i .i64 0)) = some .nils := by
      simp [sliceA, sh28, sz116, bnd]
    simp +contextual (disch := first | omega | exact rfl | decide | exact kpF (by decide) | exact kpT (by decide) | assumption | exact Z2z | exact Z30 | exact Z32 | exact Z31 | exact Z33 | exact Z34 | (simp only [ZI] <;> omega) | simp only [ZK] | (simp only [ZL] <;> assumption)) only [Tryz.f174, ZH, SOp, GOp, ↓Z1c, Int.reduceAdd, Int.reduceSub, Int.reduceMul, Int.reduceNeg, accs, touch, touchM, okPair, Nat.reduceAdd, Nat.reduceLeDiff, Nat.reduceMul, Nat.reduceSub, isV, opA, grdO, grd, Z41, Int.reduceLT, Int.reduceLE, Int.reduceToNat, builtinP, builtinA, changes, fieldAddrA, resA, tupled, ↓reduceIte, Nat.reduceEqDiff, Nat.reduceLT, Z70, Int.reduceEq, Y3, Y28, Y116, l1, s1]
  · rename_i cs n c
    refine run_done rfl rfl Tryz.func174 rfl ?_
    have l1 := fun τ => len_arr (C := cfg) (σ := τ) (cs := cs) (n := n) (cl := c) sh28
    have s1 : sliceA cfg 28 (.arr cs n c) none (some (.i .i64 (n : Int))) (some (.i .i64 (n : Int))) = some (.arr (cs.take (n * 129)) n true) := by
      simp [sliceA, sh28, sz116, bnd]
    simp +contextual (disch := first | omega | exact rfl | decide | exact kpF (by decide) | exact kpT (by decide) | assumption | exact Z2z | exact Z30 | exact Z32 | exact Z31 | exact Z33 | exact Z34 | (simp only [ZI] <;> omega) | simp only [ZK] | (simp only [ZL] <;> assumption)) only [Tryz.f174, ZH, SOp, GOp, ↓Z1c, Int.reduceAdd, Int.reduceSub, Int.reduceMul, Int.reduceNeg, accs, touch, touchM, okPair, Nat.reduceAdd, Nat.reduceLeDiff, Nat.reduceMul, Nat.reduceSub, isV, opA, grdO, grd, Z41, Int.reduceLT, Int.reduceLE, Int.reduceToNat, builtinP, builtinA, changes, fieldAddrA, resA, tupled, ↓reduceIte, Nat.reduceEqDiff, Nat.reduceLT, Z70, Int.reduceEq, Y3, Y28, Y116, l1, s1]
theorem cln_ok {σ : List O} {p : List Nat} {args : List V} {v : V} (h : pCln args = some v) : runF cfg 109 args σ p = some (v, σ) := by
  unfold pCln at h
  split at h
  case h_2 => cases h
  cases h
  have en : ∀ x y, binA cfg .eql 80 x y .nils .nils = some (.b true) := fun x y => by
    simp only [binA, toVal, toVal1, pureV]
    have h1 : pureRun cfg.P (do eqGuard .eql 80 x y (.slice none 0 0) (.slice none 0 0); binOp .eql 80 (.slice none 0 0) (.slice none 0 0) : Sem Value) = some (.bool true) := by
      show pureRun cfg.P ((eqGuard .eql 80 x y _ _).bind fun _ => (Op.equal 80 _ _).bind fun b => Sem.pure (Value.bool b)) = _
      kernel_rfl
    rw [h1]; rfl
  refine run_done rfl rfl Tryz.func109 rfl ?_
  simp +contextual (disch := first | omega | exact rfl | decide | exact kpF (by decide) | exact kpT (by decide) | assumption | exact Z2z | exact Z30 | exact Z32 | exact Z31 | exact Z33 | exact Z34 | (simp only [ZI] <;> omega) | simp only [ZK] | (simp only [ZL] <;> assumption)) only [Tryz.f109, ZH, SOp, GOp, ↓Z1c, Int.reduceAdd, Int.reduceSub, Int.reduceMul, Int.reduceNeg, accs, touch, touchM, okPair, Nat.reduceAdd, Nat.reduceLeDiff, Nat.reduceMul, Nat.reduceSub, isV, opA, grdO, grd, Z41, Int.reduceLT, Int.reduceLE, Int.reduceToNat, builtinP, builtinA, changes, fieldAddrA, resA, tupled, ↓reduceIte, Nat.reduceEqDiff, Nat.reduceLT, Z70, Int.reduceEq, en]
theorem stillAt {C' : Cfg} (hP : C'.P = cfg.P) (hG : C'.glob = cfg.glob) : ∀ f g, stT f = some g → CallOkAt C' f fun args σ p => (g args).map fun v => (v, σ) := by
  intro f g h
  unfold stT at h
  split at h
  · rename_i e
    cases Nat.eq_of_beq_eq_true e
    cases h
    intro B0 args σ p v σ' hv
    simp only [Option.map_eq_some_iff, Prod.mk.injEq] at hv
    obtain ⟨v', hv, rfl, rfl⟩ := hv
    obtain ⟨k, hk⟩ := runF_some (clip_ok (σ := σ) (p := p) hv)
    exact (callOk k).at hP.symm hG.symm 174 B0 args σ p v' σ hk
  · split at h
    · rename_i e
      cases Nat.eq_of_beq_eq_true e
      cases h
      intro B0 args σ p v σ' hv
      simp only [Option.map_eq_some_iff, Prod.mk.injEq] at hv
      obtain ⟨v', hv, rfl, rfl⟩ := hv
      obtain ⟨k, hk⟩ := runF_some (cln_ok (σ := σ) (p := p) hv)
      exact (callOk k).at hP.symm hG.symm 109 B0 args σ p v' σ hk
    · cases h
theorem primsS : PrimOk cfgS := { v := primOk_of primAtS, m := (fun f g h => by cases h), hook := hook_none fun _ _ => rfl, still := stillAt rfl glob_eq }
theorem fnsS : fnsOk cfgS = true := by decide +kernel
theorem mixedS : cfgS.P.follows .mixedOrders = true := mixed
theorem callOkS (k : Nat) : CallOk cfgS (runA cfgS k) := run_sound primsS fnsS (draw_sound mixedS primsS.still) k
theorem tokS : tyK = mkK cfgS tyL := by kernel_rfl
theorem dokS : DOk cfgS DS where
  ty := tok_of tokS
  glob _ := rfl
  cls _ _ := rfl
  hook _ _ := rfl
  pre _ _ := rfl
  still _ := rfl
  fn f fn h1 h2 := by
    have h2 : fnK.getB f = some fn := h2
    rw [fnK_eq] at h2
    obtain ⟨h3, h4⟩ := mkF_ok h2
    have h1 : primSB f = none := h1
    refine ⟨?_, rfl, ?_, h4, fun p => ?_⟩
    · show primS f = none
      unfold primS
      unfold primSB at h1
      split at h1
      · cases h1
      · rename_i e
        split at h1
        · cases h1
        · rename_i e2
          simp only [e, e2]
    · show barS f = false
      unfold barS
      rw [List.contains_iff_mem.2 h3]; rfl
    · show (!(f == 171)) = true
      have : ∀ f ∈ fnL, (!(f == 171)) = true := by decide +kernel
      exact this f h3
  iter f it h := by cases h
  prim f g h := by
    have h : primSB f = some g := h
    unfold primSB at h
    split at h
    · rename_i e
      cases h
      exact ⟨fun a _ => pRot a, (by show primS f = _; unfold primS; rw [e]), fun args m σ v _ hv => hv⟩
    · rename_i e
      split at h
      · rename_i e2
        cases h
        exact ⟨fun a _ => pMix a, (by show primS f = _; unfold primS; rw [e, e2]), fun args m σ v _ hv => hv⟩
      · cases h
theorem sumA {k : Nat} {ns o : List Nat} {n : Nat} (h : yesV (rootV DS k 171 Tryz.f171 [.arr (ints .u8 (ns.map Int.ofNat)) n false] [0]) (.agg (ints .u8 (o.map Int.ofNat))) = true) :
    runA cfgS (k + 1) 171 [.arr (ints .u8 (ns.map Int.ofNat)) n false] [] [0] = some (.agg (ints .u8 (o.map Int.ofNat)), []) :=
  rootV_sound dokS (yesV_eq h) (by simp only [V.clean]; exact cleanL_ints _) (by kernel_rfl) rfl (by decide +kernel) Tryz.func171 rfl rfl
end Go.Am.R2

/- A node's bytes: told by trying all orders of its map; the contract for any nodes that were tried. -/
namespace Go.Am.R2
open Go.Proofs
set_option maxRecDepth 100000
set_option linter.unusedSimpArgs false
set_option linter.unusedVariables false
noncomputable def b81 : Code := bodyOf Tryz.f83
noncomputable def z81 : Code := sR (sR (sR b81))
noncomputable def y81 : Code := sL z81
noncomputable def l81 : Code := bIn (bIn (sR y81))
noncomputable def k81 : Code := bIn (sR (sR l81))
noncomputable def q81 : RangeF where
  pre := [sL b81, sL (sR b81), sL (sR (sR b81))]
  r4 := 4
  om := (rOps (sL y81)).headD op0
  dm := 11
  l := (rOps (sL y81)).tail.dropLast
  og := (rOps (sL y81)).getLastD op0
  dr := 20
  tx := .tmp 19
  q := { it := 20, d1 := 21, tc := 22, d2 := 23, b0 := 0, b1 := 1, r1 := 5, r2 := 6, o1 := (rOps (sL l81)).headD op0, o2 := (rOps (sL k81)).headD op0, rest1 := (rOps (sL l81)).tail, rest2 := (rOps (sL k81)).tail, body := sR k81 }
  Z := sR z81
theorem body81 : Tryz.f83.body = some q81.code := by kernel_rfl
theorem shPut : cfg.shape 167 = .map 3 3 := by kernel_rfl
def NodeOk (x : V × V) : Prop := q81.chk cfg (runA cfg 100) 83 [0] 100 [x.1] Tryz.f83.results.toList (max 1 Tryz.f83.ntmps) x.2 = true
theorem callPut_ok {L : List (V × V)} (hL : ∀ x ∈ L, NodeOk x) : CallOk cfg (callT 83 (L.map fun x => ([x.1], x.2))) := by
  intro B0 f args σ p v σ' h M w cargs hM hg hargs hm hs
  unfold callT at h
  split at h
  case isFalse => cases h
  rename_i hc
  obtain ⟨rfl, rfl, rfl⟩ := hc
  simp only [Option.map_eq_some_iff, Prod.mk.injEq] at h
  obtain ⟨y, hy, rfl, rfl⟩ := h
  have hy1 := List.find?_some hy
  have hy2 := List.mem_of_find?_eq_some hy
  obtain ⟨x, hx, rfl⟩ := List.mem_map.1 hy2
  have ha := V.eqbL_eq hy1
  subst ha
  refine ⟨_, w, M, run_callFunc (by decide +kernel) Tryz.func83 body81 _ w, Ext.refl _ _ _, hM, rfl, .inr ⟨rfl, ?_⟩⟩
  exact range_fun (q := q81) (n := 100) (t0 := 167) (t := 167) (kt := 3) (et := 3) (tyA := 167) (tyB := 0) (ty1 := 0) (ty2 := 0) (posA := "inode.go:49") (posB := "inode.go:49") (pos1 := "inode.go:49") (pos2 := "inode.go:49") (afA := #[]) (afB := #[{ on := 11, ground := .data }]) (af1 := #[]) (af2 := #[])
    (callOk 100) (draw_sound mixed prims.still) prims.hook prims.iter Tryz.func83 body81 (by decide +kernel) (by decide +kernel) (by decide +kernel) (by decide +kernel) (by kernel_rfl) (by kernel_rfl) shPut (by kernel_rfl) (by kernel_rfl) (hL x hx) hM hg hargs hm
theorem glob_clnK : ∀ g cs, cfg.glob g = some cs → V.cleanL true cs = true := fun g cs h => glob_cln g cs (by rw [glob_eq]; exact h)
noncomputable def findV (x : V) : List (V × V) → Option V
  | [] => none
  | y :: l => match V.eqb y.1 x with | true => some y.2 | false => findV x l
theorem findV_some {x v : V} : ∀ {L : List (V × V)}, findV x L = some v → ∃ y, L.find? (fun y => V.eqb y.1 x) = some y ∧ y ∈ L ∧ y.1 = x ∧ y.2 = v
  | [], h => by cases h
  | y :: l, h => by
    unfold findV at h
    split at h
    · rename_i e
      cases h
      exact ⟨y, by simp [e], by simp, V.eqb_eq e, rfl⟩
    · rename_i e
      obtain ⟨z, h1, h2, h3, h4⟩ := findV_some h
      exact ⟨z, by simp [e, h1], by simp [h2], h3, h4⟩
noncomputable def pPut (L : List (V × V)) (args : List V) : Option V := match args with
  | [x] => findV x L
  | _ => none
theorem primAt_put {C' : Cfg} (hP : C'.P = cfg.P) (hG : C'.glob = cfg.glob) {L : List (V × V)} (hL : ∀ x ∈ L, NodeOk x) (hc : (L.all fun x => V.cleanL true [x.1] && x.2.clean false) = true) (hf : ∀ σ x, (∃ y ∈ L, y.1 = x) → freezeC 0 σ x = x) : PrimAt C' 83 fun args _ => pPut L args := by
  intro B0 args σ p v hv
  have hv : pPut L args = some v := hv
  unfold pPut at hv
  split at hv
  case h_2 => cases hv
  rename_i x
  obtain ⟨y, h1, h2, rfl, rfl⟩ := findV_some hv
  rw [List.all_eq_true] at hc
  have hcy := Bool.and_eq_true_iff.1 (hc y h2)
  refine prim_frz (callPut_ok hL) (f := 83) (args0 := [y.1]) (p0 := [0]) (v := y.2) ?_ hcy.1 hcy.2 glob_clnK hP hG (fun M w ys h => ?_)
  · unfold callT
    rw [if_pos ⟨rfl, rfl, rfl⟩]
    have key : ∀ l : List (V × V), (l.map fun x => (([x.1], x.2) : List V × V)).find? (fun x => V.eqbL x.1 [y.1]) = (l.find? fun z => V.eqb z.1 y.1).map fun x => ([x.1], x.2) := by
      intro l
      induction l with
      | nil => rfl
      | cons a l ih =>
        have e : V.eqbL [a.1] [y.1] = V.eqb a.1 y.1 := by simp [V.eqbL]
        simp only [List.map_cons, List.find?_cons, e, ih]
        cases V.eqb a.1 y.1 <;> rfl
    rw [key, h1]; rfl
  · rw [List.map_cons, List.map_nil, hf σ y.1 ⟨y, h2, rfl⟩] at h
    exact h
end Go.Am.R2

/- Bytes of nodes, tried. -/
namespace Go.Am.R2
open Go.Proofs
set_option maxRecDepth 100000
set_option linter.unusedSimpArgs false
set_option linter.unusedVariables false
noncomputable def nod0 : V × V := (.agg (ints .i64 [1, 2, 1, -1, -1] ++ ints .u8 [0, 0, 0, 0, 0, 0, 0, 0, 0, 0, 0, 0, 0, 0, 0, 0, 0, 0, 0, 0, 0, 0, 0, 0, 0, 0, 0, 0, 0, 0, 0, 0] ++ ints .i64 [0, 2]), .tup [.agg (ints .u8 [2, 1, 2, 0, 0, 0, 0, 0, 255, 255, 255, 255, 255, 255, 255, 255, 0, 0, 0, 0, 0, 0, 0, 0, 0, 0, 0, 0, 0, 0, 0, 0, 0, 0, 0, 0, 0, 0, 0, 0, 0, 0, 0, 0, 0, 0, 0, 0, 0, 0, 0, 0, 0, 0, 0, 0, 0, 0, 0, 0, 0, 0, 0, 0]), .i .i64 0])
theorem nod0_ok : NodeOk nod0 := by unfold NodeOk; decide +kernel
noncomputable def nod1 : V × V := (.agg (ints .i64 [2, 2, 1, -1, -1] ++ ints .u8 [0, 0, 0, 0, 0, 0, 0, 0, 0, 0, 0, 0, 0, 0, 0, 0, 0, 0, 0, 0, 0, 0, 0, 0, 0, 0, 0, 0, 0, 0, 0, 0] ++ ints .i64 [0, 2]), .tup [.agg (ints .u8 [2, 1, 2, 0, 0, 0, 0, 0, 255, 255, 255, 255, 255, 255, 255, 255, 0, 0, 0, 0, 0, 0, 0, 0, 0, 0, 0, 0, 0, 0, 0, 0, 0, 0, 0, 0, 0, 0, 0, 0, 0, 0, 0, 0, 0, 0, 0, 0, 0, 0, 0, 0, 0, 0, 0, 0, 0, 0, 0, 0, 0, 0, 0, 0]), .i .i64 0])
theorem nod1_ok : NodeOk nod1 := by unfold NodeOk; decide +kernel
noncomputable def nod2 : V × V := (.agg (ints .i64 [1, 2, 1, 30, 978] ++ ints .u8 [252, 57, 219, 81, 44, 116, 16, 120, 145, 127, 68, 231, 135, 61, 120, 121, 162, 137, 146, 30, 112, 57, 0, 127, 224, 214, 5, 219, 32, 173, 123, 212] ++ ints .i64 [3, 2]), .tup [.agg (ints .u8 [2, 1, 2, 0, 3, 0, 0, 0, 30, 0, 0, 0, 210, 3, 0, 0, 252, 57, 219, 81, 44, 116, 16, 120, 145, 127, 68, 231, 135, 61, 120, 121, 162, 137, 146, 30, 112, 57, 0, 127, 224, 214, 5, 219, 32, 173, 123, 212, 0, 0, 0, 0, 0, 0, 0, 0, 0, 0, 0, 0, 0, 0, 0, 0]), .i .i64 0])
theorem nod2_ok : NodeOk nod2 := by unfold NodeOk; decide +kernel
noncomputable def nod3 : V × V := (.agg (ints .i64 [3, 1, 1, -1, -1] ++ ints .u8 [0, 0, 0, 0, 0, 0, 0, 0, 0, 0, 0, 0, 0, 0, 0, 0, 0, 0, 0, 0, 0, 0, 0, 0, 0, 0, 0, 0, 0, 0, 0, 0] ++ ints .i64 [0, 1]), .tup [.agg (ints .u8 [1, 1, 1, 0, 0, 0, 0, 0, 255, 255, 255, 255, 255, 255, 255, 255, 0, 0, 0, 0, 0, 0, 0, 0, 0, 0, 0, 0, 0, 0, 0, 0, 0, 0, 0, 0, 0, 0, 0, 0, 0, 0, 0, 0, 0, 0, 0, 0, 0, 0, 0, 0, 0, 0, 0, 0, 0, 0, 0, 0, 0, 0, 0, 0]), .i .i64 0])
theorem nod3_ok : NodeOk nod3 := by unfold NodeOk; decide +kernel
noncomputable def nod4 : V × V := (.agg (ints .i64 [2, 2, 1, 35, 983] ++ ints .u8 [206, 61, 98, 21, 31, 157, 35, 233, 103, 240, 13, 46, 210, 19, 108, 217, 202, 83, 104, 47, 244, 152, 247, 210, 31, 229, 89, 109, 131, 183, 211, 239] ++ ints .i64 [3, 2]), .tup [.agg (ints .u8 [2, 1, 2, 0, 3, 0, 0, 0, 35, 0, 0, 0, 215, 3, 0, 0, 206, 61, 98, 21, 31, 157, 35, 233, 103, 240, 13, 46, 210, 19, 108, 217, 202, 83, 104, 47, 244, 152, 247, 210, 31, 229, 89, 109, 131, 183, 211, 239, 0, 0, 0, 0, 0, 0, 0, 0, 0, 0, 0, 0, 0, 0, 0, 0]), .i .i64 0])
theorem nod4_ok : NodeOk nod4 := by unfold NodeOk; decide +kernel
noncomputable def nods : List (V × V) := [nod0, nod1, nod2, nod3, nod4]
theorem nods_ok : ∀ x ∈ nods, NodeOk x := by
  intro x hx
  simp only [nods, List.mem_cons, List.not_mem_nil, or_false] at hx
  rcases hx with rfl | rfl | rfl | rfl | rfl
  · exact nod0_ok
  · exact nod1_ok
  · exact nod2_ok
  · exact nod3_ok
  · exact nod4_ok
theorem nods_frz (σ : List O) (x : V) (h : ∃ y ∈ nods, y.1 = x) : freezeC 0 σ x = x := by
  obtain ⟨y, hy, rfl⟩ := h
  simp only [nods, List.mem_cons, List.not_mem_nil, or_false] at hy
  rcases hy with rfl | rfl | rfl | rfl | rfl <;> rfl
end Go.Am.R2
