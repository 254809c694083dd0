/- Parts of one machine and of the walks over it, joined: KT K60 K61 K62. -/
import Derived.Test.YtibhpbpjdgodnaaGreatDoorChecked
import Derived.Test.YtibhpbpjdgodnaaGreatDoorAmB
import Derived.Test.YtibhpbpjdgodnaaGreatDoorJA
import Derived.Test.YtibhpbpjdgodnaaGreatDoorJP
import Derived.Test.YtibhpbpjdgodnaaGreatDoorAmIter
/- Tables for the fast machine: types, bodies, regions that draw their order. -/
namespace Go.Am.R2
open Go.Proofs
set_option maxRecDepth 100000
noncomputable def ti3 : TI := ⟨1, false, .int .i64, .i .i64 0, 8, [], none, none⟩
noncomputable def ti4 : TI := ⟨1, false, .other, .b false, 1, [], none, none⟩
noncomputable def ti5 : TI := ⟨1, false, .int .u8, .i .u8 0, 1, [], none, none⟩
noncomputable def ti9 : TI := ⟨1, false, .string, .s .empty, 16, [], none, none⟩
noncomputable def ti22 : TI := ⟨32, true, .array 32 5, .agg (List.replicate 32 (.i .u8 0)), 32, [], some (List.replicate 32 (.i .u8)), none⟩
noncomputable def ti24 : TI := ⟨34, true, .other, .agg ([.i .i64 0, .i .i64 0] ++ List.replicate 32 (.i .u8 0)), 48, [(0, (3, 1)), (1, (3, 1)), (2, (22, 32))], some ([.i .i64, .i .i64] ++ List.replicate 32 (.i .u8)), none⟩
noncomputable def ti26 : TI := ⟨36, true, .other, .agg ([.i .i64 0, .i .i64 0] ++ List.replicate 32 (.i .u8 0) ++ [.i .i64 0, .i .i64 0]), 64, [(0, (24, 34)), (34, (3, 1)), (35, (3, 1))], some ([.i .i64, .i .i64] ++ List.replicate 32 (.i .u8) ++ [.i .i64, .i .i64]), none⟩
noncomputable def ti31 : TI := ⟨1, false, .slice 148, .nils, 24, [], none, some 1⟩
noncomputable def ti32 : TI := ⟨1, false, .slice 132, .nils, 24, [], none, some 1⟩
noncomputable def ti34 : TI := ⟨4, true, .other, .agg ([.nils, .nils] ++ [.i .i64 0] ++ [.b false]), 64, [(0, (31, 1)), (1, (32, 1)), (2, (3, 1)), (3, (4, 1))], none, none⟩
noncomputable def ti35 : TI := ⟨1, false, .slice 134, .nils, 24, [], none, some 1⟩
noncomputable def ti37 : TI := ⟨2, true, .other, .agg ([.i .i64 0] ++ [.nils]), 32, [(0, (3, 1)), (1, (35, 1))], none, none⟩
noncomputable def ti38 : TI := ⟨2, true, .array 2 3, .agg ([.i .i64 0, .i .i64 0]), 16, [], some ([.i .i64, .i .i64]), none⟩
noncomputable def ti39 : TI := ⟨1, false, .slice 5, .nils, 24, [], none, some 1⟩
noncomputable def ti41 : TI := ⟨4, true, .other, .agg ([.i .i64 0, .i .i64 0, .i .i64 0] ++ [.nils]), 48, [(0, (38, 2)), (2, (3, 1)), (3, (39, 1))], none, none⟩
noncomputable def ti43 : TI := ⟨10, true, .other, .agg ([.nils, .nils] ++ [.i .i64 0] ++ [.b false] ++ [.i .i64 0] ++ [.nils] ++ [.i .i64 0, .i .i64 0, .i .i64 0] ++ [.nils]), 144, [(0, (34, 4)), (4, (37, 2)), (6, (41, 4))], none, none⟩
noncomputable def ti47 : TI := ⟨128, true, .array 128 5, .agg (List.replicate 128 (.i .u8 0)), 128, [], some (List.replicate 128 (.i .u8)), none⟩
noncomputable def ti48 : TI := ⟨1, false, .int .i64, .i .i64 0, 8, [], none, none⟩
noncomputable def ti51 : TI := ⟨1, false, .other, .nilp, 8, [], none, some 0⟩
noncomputable def ti52 : TI := ⟨1, false, .slice 24, .nils, 24, [], none, some 1⟩
noncomputable def ti56 : TI := ⟨1, false, .other, .nilp, 8, [], none, some 0⟩
noncomputable def ti63 : TI := ⟨1, false, .slice 3, .nils, 24, [], none, some 1⟩
noncomputable def ti69 : TI := ⟨39, true, .other, .agg (List.replicate 5 (.i .i64 0) ++ List.replicate 32 (.i .u8 0) ++ [.i .i64 0, .i .i64 0]), 88, [(0, (3, 1)), (1, (3, 1)), (2, (3, 1)), (3, (26, 36))], some (List.replicate 5 (.i .i64) ++ List.replicate 32 (.i .u8) ++ [.i .i64, .i .i64]), none⟩
noncomputable def ti85 : TI := ⟨6, true, .other, .agg (List.replicate 6 (.i .i64 0)), 48, [(0, (3, 1)), (1, (3, 1)), (2, (3, 1)), (3, (3, 1)), (4, (3, 1)), (5, (3, 1))], some (List.replicate 6 (.i .i64)), none⟩
noncomputable def ti112 : TI := ⟨3, true, .other, .agg ([.i .i64 0, .i .i64 0, .i .i64 0]), 24, [(0, (3, 1)), (1, (3, 1)), (2, (3, 1))], some ([.i .i64, .i .i64, .i .i64]), none⟩
noncomputable def ti120 : TI := ⟨64, true, .array 64 5, .agg (List.replicate 64 (.i .u8 0)), 64, [], some (List.replicate 64 (.i .u8)), none⟩
noncomputable def ti128 : TI := ⟨1, false, .other, .nilp, 8, [], none, some 0⟩
noncomputable def ti132 : TI := ⟨129, true, .other, .agg ([.i .i64 0] ++ List.replicate 128 (.i .u8 0)), 136, [(0, (3, 1)), (1, (47, 128))], some ([.i .i64] ++ List.replicate 128 (.i .u8)), none⟩
noncomputable def ti134 : TI := ⟨2, true, .other, .agg ([.i .i64 0, .i .i64 0]), 16, [(0, (3, 1)), (1, (3, 1))], some ([.i .i64, .i .i64]), none⟩
noncomputable def ti138 : TI := ⟨102, true, .array 3 24, .agg ([.i .i64 0, .i .i64 0] ++ List.replicate 32 (.i .u8 0) ++ [.i .i64 0, .i .i64 0] ++ List.replicate 32 (.i .u8 0) ++ [.i .i64 0, .i .i64 0] ++ List.replicate 32 (.i .u8 0)), 144, [], some ([.i .i64, .i .i64] ++ List.replicate 32 (.i .u8) ++ [.i .i64, .i .i64] ++ List.replicate 32 (.i .u8) ++ [.i .i64, .i .i64] ++ List.replicate 32 (.i .u8)), none⟩
noncomputable def ti148 : TI := ⟨130, true, .other, .agg (List.replicate 128 (.i .u8 0) ++ [.b false, .b false]), 130, [(0, (47, 128)), (128, (4, 1)), (129, (4, 1))], some (List.replicate 128 (.i .u8) ++ [.b, .b]), none⟩
noncomputable def ti153 : TI := ⟨1, false, .map 3 3, .nilm, 8, [], none, some 2⟩
noncomputable def ti167 : TI := ⟨1, false, .other, .nilp, 8, [], none, some 0⟩
noncomputable def ti171 : TI := ⟨1, false, .other, .nilp, 8, [], none, some 0⟩
noncomputable def ti204 : TI := ⟨1, false, .other, .nilp, 8, [], none, some 0⟩
noncomputable def ti205 : TI := ⟨2, true, .array 2 204, .agg ([.nilp, .nilp]), 16, [], none, none⟩
noncomputable def ti206 : TI := ⟨1, false, .int .u64, .i .u64 0, 8, [], none, none⟩
noncomputable def ti209 : TI := ⟨1, false, .map 3 4, .nilm, 8, [], none, some 2⟩
noncomputable def ti210 : TI := ⟨2, true, .array 2 209, .agg ([.nilm, .nilm]), 16, [], none, none⟩
noncomputable def ti211 : TI := ⟨1, false, .int .u32, .i .u32 0, 4, [], none, none⟩
noncomputable def ti212 : TI := ⟨8, true, .array 8 211, .agg (List.replicate 8 (.i .u32 0)), 32, [], some (List.replicate 8 (.i .u32)), none⟩
noncomputable def ti229 : TI := ⟨64, true, .array 64 211, .agg (List.replicate 64 (.i .u32 0)), 256, [], some (List.replicate 64 (.i .u32)), none⟩
def tyL : List Nat := [3, 4, 5, 9, 22, 24, 26, 31, 32, 34, 35, 37, 38, 39, 41, 43, 47, 48, 51, 52, 56, 63, 69, 85, 112, 120, 128, 132, 134, 138, 148, 153, 167, 171, 204, 205, 206, 209, 210, 211, 212, 229]
noncomputable def tyK : T TI := .n none (.n none (.n (some ti3) (.n none (.n none (.n (some ti31) (.n (some ti63) (.l) (.l)) (.l)) (.n (some ti47) (.l) (.l))) (.n none (.n (some ti39) (.l) (.n none (.n (some ti167) (.l) (.l)) (.l))) (.l))) (.n none (.n none (.n (some ti35) (.l) (.l)) (.n (some ti51) (.n none (.l) (.n (some ti211) (.l) (.l))) (.l))) (.n none (.n (some ti43) (.l) (.n none (.n (some ti171) (.l) (.l)) (.l))) (.l)))) (.n (some ti5) (.n (some ti9) (.n none (.l) (.n none (.n none (.l) (.n (some ti209) (.l) (.l))) (.l))) (.n none (.n (some ti41) (.l) (.l)) (.n none (.n none (.n (some ti153) (.l) (.l)) (.l)) (.l)))) (.n none (.n none (.n (some ti37) (.n (some ti69) (.l) (.l)) (.n none (.l) (.n (some ti229) (.l) (.l)))) (.n none (.n (some ti85) (.l) (.l)) (.l))) (.n none (.n none (.n none (.l) (.n (some ti205) (.l) (.l))) (.l)) (.l))))) (.n none (.n (some ti4) (.n none (.n none (.n (some ti32) (.n none (.n (some ti128) (.l) (.l)) (.l)) (.l)) (.n (some ti48) (.l) (.n (some ti112) (.l) (.l)))) (.n (some ti24) (.l) (.n (some ti56) (.l) (.n (some ti120) (.l) (.l))))) (.n none (.n none (.n none (.n none (.n (some ti132) (.l) (.l)) (.l)) (.l)) (.n (some ti52) (.n none (.n (some ti148) (.l) (.l)) (.n (some ti212) (.l) (.l))) (.l))) (.n none (.n none (.n none (.l) (.n (some ti204) (.l) (.l))) (.l)) (.l)))) (.n none (.n none (.n none (.n (some ti34) (.l) (.l)) (.n none (.n none (.l) (.n (some ti210) (.l) (.l))) (.l))) (.n (some ti26) (.n none (.n none (.n (some ti138) (.l) (.l)) (.l)) (.l)) (.l))) (.n none (.n (some ti22) (.n (some ti38) (.n none (.n (some ti134) (.l) (.l)) (.l)) (.l)) (.l)) (.n none (.n none (.n none (.l) (.n (some ti206) (.l) (.l))) (.l)) (.l)))))
def fnL : List Nat := [8, 9, 10, 12, 17, 19, 20, 21, 25, 27, 31, 32, 33, 35, 37, 38, 40, 41, 50, 51, 52, 53, 54, 55, 56, 57, 58, 59, 60, 61, 63, 64, 68, 69, 70, 71, 72, 76, 77, 78, 79, 80, 81, 83, 84, 85, 86, 87, 88, 89, 96, 97, 98, 99, 100, 101, 102, 103, 104, 107, 108, 109, 110, 111, 112, 113, 114, 115, 116, 117, 118, 119, 120, 121, 122, 123, 124, 125, 126, 127, 128, 129, 130, 131, 132, 133, 134, 135, 136, 137, 139, 140, 141, 142, 143, 144, 145, 146, 147, 148, 149, 150, 151, 152, 153, 154, 155, 156, 157, 158, 159, 160, 161, 162, 163, 164, 165, 166, 167, 168, 169, 170, 171, 172, 173, 174, 175, 176, 177, 178, 179, 180, 181, 182, 183, 184, 186, 187, 189, 190, 191, 192, 194]
noncomputable def fnK : T Func := .n none (.n none (.n none (.n none (.n none (.n (some Tryz.f31) (.n (some Tryz.f63) (.n (some Tryz.f127) (.l) (.l)) (.n (some Tryz.f191) (.l) (.l))) (.n none (.n (some Tryz.f159) (.l) (.l)) (.l))) (.n none (.n (some Tryz.f79) (.n (some Tryz.f143) (.l) (.l)) (.l)) (.n (some Tryz.f111) (.n (some Tryz.f175) (.l) (.l)) (.l)))) (.n none (.n none (.n (some Tryz.f71) (.n (some Tryz.f135) (.l) (.l)) (.l)) (.n (some Tryz.f103) (.n (some Tryz.f167) (.l) (.l)) (.l))) (.n (some Tryz.f55) (.n (some Tryz.f87) (.n (some Tryz.f151) (.l) (.l)) (.l)) (.n (some Tryz.f119) (.n (some Tryz.f183) (.l) (.l)) (.l))))) (.n none (.n (some Tryz.f19) (.n (some Tryz.f35) (.n none (.n (some Tryz.f131) (.l) (.l)) (.l)) (.n (some Tryz.f99) (.n (some Tryz.f163) (.l) (.l)) (.l))) (.n (some Tryz.f51) (.n (some Tryz.f83) (.n (some Tryz.f147) (.l) (.l)) (.l)) (.n (some Tryz.f115) (.n (some Tryz.f179) (.l) (.l)) (.l)))) (.n (some Tryz.f27) (.n none (.n none (.n (some Tryz.f139) (.l) (.l)) (.l)) (.n (some Tryz.f107) (.n (some Tryz.f171) (.l) (.l)) (.l))) (.n (some Tryz.f59) (.n none (.n (some Tryz.f155) (.l) (.l)) (.l)) (.n (some Tryz.f123) (.n (some Tryz.f187) (.l) (.l)) (.l)))))) (.n none (.n (some Tryz.f9) (.n (some Tryz.f17) (.n (some Tryz.f33) (.n none (.n (some Tryz.f129) (.l) (.l)) (.l)) (.n (some Tryz.f97) (.n (some Tryz.f161) (.l) (.l)) (.l))) (.n none (.n (some Tryz.f81) (.n (some Tryz.f145) (.l) (.l)) (.l)) (.n (some Tryz.f113) (.n (some Tryz.f177) (.l) (.l)) (.l)))) (.n (some Tryz.f25) (.n (some Tryz.f41) (.n none (.n (some Tryz.f137) (.l) (.l)) (.l)) (.n none (.n (some Tryz.f169) (.l) (.l)) (.l))) (.n (some Tryz.f57) (.n (some Tryz.f89) (.n (some Tryz.f153) (.l) (.l)) (.l)) (.n (some Tryz.f121) (.l) (.l))))) (.n none (.n (some Tryz.f21) (.n (some Tryz.f37) (.n (some Tryz.f69) (.n (some Tryz.f133) (.l) (.l)) (.l)) (.n (some Tryz.f101) (.n (some Tryz.f165) (.l) (.l)) (.l))) (.n (some Tryz.f53) (.n (some Tryz.f85) (.n (some Tryz.f149) (.l) (.l)) (.l)) (.n (some Tryz.f117) (.n (some Tryz.f181) (.l) (.l)) (.l)))) (.n none (.n none (.n (some Tryz.f77) (.n (some Tryz.f141) (.l) (.l)) (.l)) (.n (some Tryz.f109) (.n (some Tryz.f173) (.l) (.l)) (.l))) (.n (some Tryz.f61) (.n none (.n (some Tryz.f157) (.l) (.l)) (.l)) (.n (some Tryz.f125) (.n (some Tryz.f189) (.l) (.l)) (.l))))))) (.n none (.n none (.n (some Tryz.f8) (.n none (.n (some Tryz.f32) (.n (some Tryz.f64) (.n (some Tryz.f128) (.l) (.l)) (.n (some Tryz.f192) (.l) (.l))) (.n (some Tryz.f96) (.n (some Tryz.f160) (.l) (.l)) (.l))) (.n none (.n (some Tryz.f80) (.n (some Tryz.f144) (.l) (.l)) (.l)) (.n (some Tryz.f112) (.n (some Tryz.f176) (.l) (.l)) (.l)))) (.n none (.n (some Tryz.f40) (.n (some Tryz.f72) (.n (some Tryz.f136) (.l) (.l)) (.l)) (.n (some Tryz.f104) (.n (some Tryz.f168) (.l) (.l)) (.l))) (.n (some Tryz.f56) (.n (some Tryz.f88) (.n (some Tryz.f152) (.l) (.l)) (.l)) (.n (some Tryz.f120) (.n (some Tryz.f184) (.l) (.l)) (.l))))) (.n (some Tryz.f12) (.n (some Tryz.f20) (.n none (.n (some Tryz.f68) (.n (some Tryz.f132) (.l) (.l)) (.l)) (.n (some Tryz.f100) (.n (some Tryz.f164) (.l) (.l)) (.l))) (.n (some Tryz.f52) (.n (some Tryz.f84) (.n (some Tryz.f148) (.l) (.l)) (.l)) (.n (some Tryz.f116) (.n (some Tryz.f180) (.l) (.l)) (.l)))) (.n none (.n none (.n (some Tryz.f76) (.n (some Tryz.f140) (.l) (.l)) (.l)) (.n (some Tryz.f108) (.n (some Tryz.f172) (.l) (.l)) (.l))) (.n (some Tryz.f60) (.n none (.n (some Tryz.f156) (.l) (.l)) (.l)) (.n (some Tryz.f124) (.l) (.l)))))) (.n none (.n (some Tryz.f10) (.n none (.n none (.n none (.n (some Tryz.f130) (.l) (.l)) (.n (some Tryz.f194) (.l) (.l))) (.n (some Tryz.f98) (.n (some Tryz.f162) (.l) (.l)) (.l))) (.n (some Tryz.f50) (.n none (.n (some Tryz.f146) (.l) (.l)) (.l)) (.n (some Tryz.f114) (.n (some Tryz.f178) (.l) (.l)) (.l)))) (.n none (.n none (.l) (.n none (.n (some Tryz.f170) (.l) (.l)) (.l))) (.n (some Tryz.f58) (.n none (.n (some Tryz.f154) (.l) (.l)) (.l)) (.n (some Tryz.f122) (.n (some Tryz.f186) (.l) (.l)) (.l))))) (.n none (.n none (.n (some Tryz.f38) (.n (some Tryz.f70) (.n (some Tryz.f134) (.l) (.l)) (.l)) (.n (some Tryz.f102) (.n (some Tryz.f166) (.l) (.l)) (.l))) (.n (some Tryz.f54) (.n (some Tryz.f86) (.n (some Tryz.f150) (.l) (.l)) (.l)) (.n (some Tryz.f118) (.n (some Tryz.f182) (.l) (.l)) (.l)))) (.n none (.n none (.n (some Tryz.f78) (.n (some Tryz.f142) (.l) (.l)) (.l)) (.n (some Tryz.f110) (.n (some Tryz.f174) (.l) (.l)) (.l))) (.n none (.n none (.n (some Tryz.f158) (.l) (.l)) (.l)) (.n (some Tryz.f126) (.n (some Tryz.f190) (.l) (.l)) (.l)))))))
noncomputable def clsK : T (T (List (Nat × Nat))) := .n none (.n none (.n none (.n none (.l) (.n none (.n none (.l) (.n none (.n (some (.n none (.n none (.l) (.n (some ([(2, 14)])) (.l) (.l))) (.l))) (.l) (.l)) (.l))) (.n none (.n (some (.n none (.n (some ([(1, 0)])) (.l) (.l)) (.l))) (.l) (.l)) (.l)))) (.n none (.n (some (.n none (.n (some ([(20, 15)])) (.l) (.l)) (.l))) (.l) (.l)) (.l))) (.n none (.n none (.n (some (.n none (.l) (.n none (.n (some ([(4, 2)])) (.l) (.l)) (.l)))) (.l) (.l)) (.n none (.n (some (.n none (.n (some ([(1, 0)])) (.l) (.l)) (.l))) (.n none (.n (some (.n none (.n none (.n none (.l) (.n (some ([(8, 5), (8, 7)])) (.l) (.l))) (.l)) (.l))) (.l) (.l)) (.l)) (.l)) (.n (some (.n none (.l) (.n none (.n (some ([(0, 2)])) (.l) (.l)) (.l)))) (.l) (.l)))) (.n none (.n none (.n none (.l) (.n (some (.n none (.l) (.n (some ([(0, 2)])) (.l) (.l)))) (.l) (.l))) (.n (some (.n none (.n (some ([(9, 6)])) (.l) (.l)) (.n none (.n (some ([(6, 3)])) (.l) (.l)) (.l)))) (.l) (.l))) (.l)))) (.n none (.n none (.n none (.n none (.n (some (.n none (.n none (.n (some ([(3, 1)])) (.l) (.l)) (.l)) (.l))) (.l) (.l)) (.l)) (.n none (.l) (.n (some (.n none (.n (some ([(4, 5)])) (.l) (.l)) (.l))) (.l) (.l)))) (.n none (.n none (.n none (.l) (.n (some (.n none (.l) (.n none (.n none (.n (some ([(5, 0)])) (.l) (.l)) (.l)) (.l)))) (.l) (.l))) (.l)) (.n none (.n none (.n (some (.n none (.l) (.n (some ([(1, 0)])) (.l) (.l)))) (.l) (.l)) (.l)) (.n (some (.n none (.l) (.n (some ([(10, 1), (10, 5), (11, 1), (11, 5), (10, 12), (11, 12)])) (.l) (.l)))) (.l) (.n (some (.n none (.l) (.n none (.n (some ([(5, 0)])) (.l) (.l)) (.l)))) (.l) (.l)))))) (.n none (.n none (.n none (.n none (.l) (.n none (.n (some (.n none (.n none (.n (some ([(5, 6)])) (.l) (.l)) (.n none (.n (some ([(9, 3)])) (.l) (.l)) (.l))) (.l))) (.l) (.l)) (.l))) (.n none (.l) (.n (some (.n none (.l) (.n none (.n none (.n (some ([(9, 4)])) (.l) (.l)) (.l)) (.l)))) (.l) (.l)))) (.n none (.l) (.n none (.l) (.n (some (.n none (.n none (.n (some ([(1, 3)])) (.l) (.l)) (.l)) (.l))) (.l) (.l))))) (.n none (.n none (.n none (.n (some (.n none (.n none (.n (some ([(9, 6)])) (.l) (.l)) (.l)) (.n none (.l) (.n (some ([(6, 3)])) (.l) (.l))))) (.l) (.l)) (.l)) (.n (some (.n none (.n (some ([(10, 1), (10, 5), (11, 1), (11, 5), (10, 12), (11, 12), (10, 13), (11, 13), (10, 17), (11, 17)])) (.l) (.l)) (.l))) (.n none (.n (some (.n none (.l) (.n (some ([(6, 0)])) (.l) (.l)))) (.l) (.l)) (.l)) (.n (some (.n none (.l) (.n (some ([(24, 22)])) (.l) (.l)))) (.n (some (.n none (.n none (.l) (.n (some ([(8, 1), (8, 10)])) (.l) (.l))) (.l))) (.l) (.l)) (.l)))) (.l))))
noncomputable def preK : T (T (List Nat)) := .n none (.n none (.n none (.n none (.l) (.n none (.l) (.n (some (.n none (.n none (.n none (.n (some ([18])) (.l) (.l)) (.l)) (.l)) (.l))) (.l) (.l)))) (.n none (.n none (.n none (.l) (.n (some (.n none (.n none (.n (some ([13])) (.l) (.l)) (.l)) (.l))) (.l) (.l))) (.l)) (.l))) (.n none (.l) (.n none (.n none (.l) (.n (some (.n none (.n (some ([9, 9])) (.l) (.l)) (.l))) (.l) (.l))) (.l)))) (.n none (.n none (.n none (.l) (.n none (.n none (.l) (.n (some (.n none (.n none (.l) (.n none (.n (some ([14])) (.l) (.l)) (.l))) (.l))) (.l) (.l))) (.l))) (.l)) (.n none (.n none (.n none (.n none (.l) (.n none (.n (some (.n none (.n none (.l) (.n none (.n (some ([12])) (.l) (.l)) (.l))) (.l))) (.l) (.l)) (.l))) (.n none (.l) (.n (some (.n none (.l) (.n none (.n none (.n (some ([])) (.l) (.l)) (.l)) (.l)))) (.l) (.l)))) (.l)) (.n none (.n none (.n none (.n (some (.n none (.n none (.n (some ([9, 9])) (.l) (.l)) (.l)) (.l))) (.l) (.l)) (.l)) (.n none (.l) (.n none (.n (some (.n none (.n (some ([11])) (.l) (.l)) (.l))) (.l) (.l)) (.l)))) (.l))))
end Go.Am.R2

/- Sums: a word turned, and mixed. -/
namespace Go.Am.R2
open Go.Proofs
set_option maxRecDepth 100000
set_option linter.unusedSimpArgs false
set_option linter.unusedVariables false
variable {σ : List O} {p : List Nat}
theorem conv_int {C : Cfg} {a b : TypeId} {σ : List O} {k k' : IntKind} {n : Int} (h0 : known C a = true) (h1 : C.shape a = .int k) (h2 : C.shape b = .int k') : convertP C a b σ (.i k n) = some (.i k' (k'.wrap n)) := by
  simp [convertP, h0, h1, h2]
noncomputable def rot (x s : Nat) : Nat := Nat.lor (Nat.mod (Nat.shiftLeft x s) 4294967296) (Nat.shiftRight x (Nat.sub 32 s))
theorem rot_run (x : Int) (k s s' : Int) (h1 : IntKind.u64.wrap ((BitVec.ofInt IntKind.u64.bits (IntKind.u64.wrap k) &&& BitVec.ofInt IntKind.u64.bits 31).toNat) = s) (h2 : IntKind.u64.wrap (32 - s) = s') (h3 : 0 ≤ s) (h4 : 0 ≤ s') (h5 : min s.toNat IntKind.u32.bits = s.toNat) (h6 : min s'.toNat IntKind.u32.bits = s'.toNat) :
    runF cfg 193 [.i .u32 x, .i .i64 k] σ p = some (.i .u32 (IntKind.u32.wrap ((BitVec.ofInt IntKind.u32.bits (IntKind.u32.wrap (x * 2 ^ s.toNat)) ||| BitVec.ofInt IntKind.u32.bits (x.fdiv (2 ^ s'.toNat))).toNat)), σ) := by
  refine run_done rfl rfl Tryz.func193 rfl ?_
  have cv := fun (τ : List O) n => conv_int (C := cfg) (σ := τ) (n := n) (k := .i64) kn3 sh3 sh183
  simp +contextual (disch := first | omega | exact rfl | decide | exact kpF (by decide) | exact kpT (by decide) | assumption | exact Z2z | exact Z30 | exact Z32 | exact Z31 | exact Z33 | exact Z34 | (simp only [ZI] <;> omega) | simp only [ZK] | (simp only [ZL] <;> assumption)) only [Tryz.f193, ZH, SOp, GOp, ↓Z1c, Int.reduceAdd, Int.reduceSub, Int.reduceMul, Int.reduceNeg, accs, touch, touchM, okPair, Nat.reduceAdd, Nat.reduceLeDiff, Nat.reduceMul, Nat.reduceSub, isV, opA, grdO, grd, Z41, Int.reduceLT, Int.reduceLE, Int.reduceToNat, builtinP, builtinA, changes, fieldAddrA, resA, tupled, ↓reduceIte, Nat.reduceEqDiff, Nat.reduceLT, Z70, Int.reduceEq, Y3, Y183, Y211, cv, h1, h2, h3, h4, h5, h6, binA_and, binA_or, binA_shl h3, binA_shr h4]
theorem or_u32 {x y : Nat} (hx : x < 4294967296) (hy : y < 4294967296) : IntKind.u32.wrap ((BitVec.ofInt IntKind.u32.bits (x : Int) ||| BitVec.ofInt IntKind.u32.bits (y : Int)).toNat : Nat) = ((Nat.lor x y : Nat) : Int) := by
  have e : (BitVec.ofInt IntKind.u32.bits (x : Int) ||| BitVec.ofInt IntKind.u32.bits (y : Int)).toNat = Nat.lor x y := by
    simp only [BitVec.ofInt_natCast, BitVec.toNat_or, BitVec.toNat_ofNat]
    rw [Nat.mod_eq_of_lt (show x < 2 ^ IntKind.u32.bits from hx), Nat.mod_eq_of_lt (show y < 2 ^ IntKind.u32.bits from hy)]; rfl
  rw [e, uwrap (k := .u32) (by decide)]
  exact Nat.or_lt_two_pow (n := 32) hx hy
theorem rot_fin (x : Nat) (hx : x < 4294967296) (k : Int) (s : Nat) (h1 : IntKind.u64.wrap ((BitVec.ofInt IntKind.u64.bits (IntKind.u64.wrap k) &&& BitVec.ofInt IntKind.u64.bits 31).toNat) = (s : Int)) (h2 : s ≤ 32) :
    runF cfg 193 [.i .u32 (x : Int), .i .i64 k] σ p = some (.i .u32 ((rot x s : Nat) : Int), σ) := by
  have e2 : (32 : Int) - (s : Int) = ((32 - s : Nat) : Int) := by omega
  have hm : ∀ n : Nat, n ≤ 32 → min (n : Int).toNat IntKind.u32.bits = (n : Int).toNat := fun n hn => Nat.min_eq_left (by show n ≤ 32; exact hn)
  rw [rot_run (x : Int) k s ((32 - s : Nat) : Int) h1 (by rw [e2]; exact uwrap (k := .u64) (by decide) _ (by show _ < 18446744073709551616; omega)) (by omega) (by omega) (hm _ h2) (hm _ (by omega))]
  have a1 : IntKind.u32.wrap ((x : Int) * 2 ^ (s : Int).toNat) = ((Nat.mod (Nat.shiftLeft x s) 4294967296 : Nat) : Int) := by
    rw [IntKind.wrap_u32]
    show _ = (((x <<< s) % 4294967296 : Nat) : Int)
    rw [Nat.shiftLeft_eq, Int.toNat_natCast, Int.natCast_emod, Int.natCast_mul, Int.natCast_pow]; rfl
  have a2 : ((x : Int).fdiv (2 ^ ((32 - s : Nat) : Int).toNat)) = ((Nat.shiftRight x (Nat.sub 32 s) : Nat) : Int) := by
    show _ = ((x >>> (32 - s) : Nat) : Int)
    rw [Nat.shiftRight_eq_div_pow, Int.fdiv_eq_ediv_of_nonneg _ (by exact_mod_cast Nat.zero_le _), Int.toNat_natCast]
    push_cast; rfl
  rw [a1, a2, or_u32 (x := Nat.mod (Nat.shiftLeft x s) 4294967296) (y := Nat.shiftRight x (Nat.sub 32 s)) (Nat.mod_lt _ (by decide)) (Nat.lt_of_le_of_lt (by show x >>> (32 - s) ≤ x; rw [Nat.shiftRight_eq_div_pow]; exact Nat.div_le_self _ _) hx)]
  rfl
theorem rot_lt {x s : Nat} (hx : x < 4294967296) : rot x s < 4294967296 :=
  Nat.or_lt_two_pow (n := 32) (Nat.mod_lt _ (by decide)) (Nat.lt_of_le_of_lt (by show x >>> (32 - s) ≤ x; rw [Nat.shiftRight_eq_div_pow]; exact Nat.div_le_self _ _) hx)
/-- By how much the program turns. -/
noncomputable def amount : Int → Option Nat
  | .negSucc 1 => some 30 | .negSucc 5 => some 26 | .negSucc 6 => some 25 | .negSucc 10 => some 21 | .negSucc 12 => some 19
  | .negSucc 16 => some 15 | .negSucc 17 => some 14 | .negSucc 18 => some 13 | .negSucc 21 => some 10 | .negSucc 24 => some 7
  | _ => none
theorem rot_ok (x : Nat) (hx : x < 4294967296) (k : Int) (s : Nat) (hk : amount k = some s) : runF cfg 193 [.i .u32 (x : Int), .i .i64 k] σ p = some (.i .u32 ((rot x s : Nat) : Int), σ) := by
  unfold amount at hk
  split at hk <;> cases hk <;> exact rot_fin x hx _ _ (by decide) (by decide)
theorem xor_u32 {x y : Nat} (hx : x < 4294967296) (hy : y < 4294967296) {C : Cfg} {t : TypeId} {a b : Operand} : binA C .xor t a b (.i .u32 (x : Int)) (.i .u32 (y : Int)) = some (.i .u32 ((Nat.xor x y : Nat) : Int)) := binA_xor' (k := .u32) hx hy
noncomputable def mix3 (x a b c : Nat) : Nat := Nat.xor (Nat.xor (rot x a) (rot x b)) (rot x c)
theorem mixed_ok (x : Nat) (hx : x < 4294967296) (a b c : Int) (a' b' c' : Nat) (ha : amount (IntKind.i64.wrap (-a)) = some a') (hb : amount (IntKind.i64.wrap (-b)) = some b') (hc : amount (IntKind.i64.wrap (-c)) = some c') :
    runF cfg 185 [.i .u32 (x : Int), .i .i64 a, .i .i64 b, .i .i64 c] σ p = some (.i .u32 ((mix3 x a' b' c' : Nat) : Int), σ) := by
  refine run_done rfl rfl Tryz.func185 rfl ?_
  have r1 := fun (τ : List O) q => rot_ok (σ := τ) (p := q) x hx _ _ ha
  have r2 := fun (τ : List O) q => rot_ok (σ := τ) (p := q) x hx _ _ hb
  have r3 := fun (τ : List O) q => rot_ok (σ := τ) (p := q) x hx _ _ hc
  have x1 := fun (t : TypeId) (u v : Operand) => xor_u32 (C := cfg) (t := t) (a := u) (b := v) (rot_lt (s := a') hx) (rot_lt (s := b') hx)
  have x2 := fun (t : TypeId) (u v : Operand) => xor_u32 (C := cfg) (t := t) (a := u) (b := v) (x := Nat.xor (rot x a') (rot x b')) (Nat.xor_lt_two_pow (n := 32) (rot_lt (s := a') hx) (rot_lt (s := b') hx)) (rot_lt (s := c') hx)
  have ng : ∀ a : Int, pureV cfg (Op.unary .neg (.int .i64 a)) = some (.i .i64 (IntKind.i64.wrap (-a))) := fun a => (unA_neg .i64 a).trans (by rw [Int.zero_sub])
  simp +contextual (disch := first | omega | exact rfl | decide | exact kpF (by decide) | exact kpT (by decide) | assumption | exact Z2z | exact Z30 | exact Z32 | exact Z31 | exact Z33 | exact Z34 | (simp only [ZI] <;> omega) | simp only [ZK] | (simp only [ZL] <;> assumption)) only [Tryz.f185, ZH, SOp, GOp, ↓Z1c, Int.reduceAdd, Int.reduceSub, Int.reduceMul, Int.reduceNeg, accs, touch, touchM, okPair, Nat.reduceAdd, Nat.reduceLeDiff, Nat.reduceMul, Nat.reduceSub, isV, opA, grdO, grd, Z41, Int.reduceLT, Int.reduceLE, Int.reduceToNat, builtinP, builtinA, changes, fieldAddrA, resA, tupled, ↓reduceIte, Nat.reduceEqDiff, Nat.reduceLT, Z70, Int.reduceEq, Y211, ng, r1, r2, r3, x1, x2, mix3]
end Go.Am.R2

/- The greatest of a list, told whole. -/
namespace Go.Am.R2
open Go.Proofs
set_option maxRecDepth 100000
set_option linter.unusedSimpArgs false
set_option linter.unusedVariables false
variable {σ : List O} {p : List Nat}
def maxI : List Int → Int
  | [] => 0
  | a :: l => l.foldl (fun m q => if m < q then q else m) a
theorem maxI_snoc {l : List Int} {q : Int} (h : 0 < l.length) : maxI (l ++ [q]) = if maxI l < q then q else maxI l := by
  cases l with
  | nil => simp at h
  | cons a l => simp only [maxI, List.cons_append, List.foldl_append, List.foldl_cons, List.foldl_nil]; rfl
theorem maxx_ok (l : List Int) (h0 : 0 < l.length) (hb : l.length ≤ 140737488355328) {x : V} (hv : ∀ σ, View σ x (ints .u8 l)) : runF cfg 170 [x] σ p = some (.i .u8 (maxI l), σ) := by
  suffices hs : ∃ res, runF cfg 170 [x] σ p = some res ∧ res = (.i .u8 (maxI l), σ) by
    obtain ⟨res, h1, rfl⟩ := hs
    exact h1
  refine run_doneP rfl rfl Tryz.func170 rfl ?_
  have l1 := fun τ => (hv τ).len (C := cfg) (t := 39) sh39
  simp only [ints_len] at l1
  have e0 : ((l.length : Int) < 1) = False := eq_false (by omega)
  obtain ⟨a0, ha0, hla0⟩ := (hv []).at (C := cfg) sh39 sz5 ag5 .i64 0 (by rw [ints_len]; exact h0)
  have hl0 := fun τ => hla0 τ _ (hv τ)
  have ha0' : indexAddrA cfg 39 x (.i .i64 0) = some a0 := ha0
  have hg0 : (ints .u8 l)[0]? = some (.i .u8 (l.getD 0 0)) := ints_get' h0
  simp only [hg0] at hl0
  simp +contextual (disch := first | omega | exact rfl | decide | exact kpF (by decide) | exact kpT (by decide) | assumption | exact Z2z | exact Z30 | exact Z32 | exact Z31 | exact Z33 | exact Z34 | (simp only [ZI] <;> omega) | simp only [ZK] | (simp only [ZL] <;> assumption)) only [Tryz.f170, ZH, SOp, GOp, ↓Z1c, Int.reduceAdd, Int.reduceSub, Int.reduceMul, Int.reduceNeg, accs, touch, touchM, okPair, Nat.reduceAdd, Nat.reduceLeDiff, Nat.reduceMul, Nat.reduceSub, isV, opA, grdO, grd, Z41, Int.reduceLT, Int.reduceLE, Int.reduceToNat, builtinP, builtinA, changes, fieldAddrA, resA, tupled, ↓reduceIte, Nat.reduceEqDiff, Nat.reduceLT, Z70, Int.reduceEq, Y3, Y5, Y9, Y39, l1, e0, ha0', hl0]
  refine Wq.up (fun i s => s.nt = 25 ∧ s.σ = σ ∧ i + 1 ≤ l.length ∧ s.t.get 0 = some x ∧ s.t.get 4 = some (.i .i64 ((i : Int) + 1)) ∧ ∃ m : Int, s.t.get 3 = some (.i .u8 m) ∧ m = maxI (l.take (i + 1))) (l.length - 1) ?_ ?_
  · refine ⟨rfl, rfl, by omega, ?_⟩
    simp +contextual (disch := first | omega | exact rfl | decide | exact kpF (by decide) | exact kpT (by decide) | assumption | exact Z2z | exact Z30 | exact Z32 | exact Z31 | exact Z33 | exact Z34 | (simp only [ZI] <;> omega) | simp only [ZK] | (simp only [ZL] <;> assumption)) only [ZH, SOp, GOp, ↓Z1c, Int.reduceAdd, Int.reduceSub, Int.reduceMul, Int.reduceNeg, accs, touch, touchM, okPair, Nat.reduceAdd, Nat.reduceLeDiff, Nat.reduceMul, Nat.reduceSub, isV, opA, grdO, grd, Z41, Int.reduceLT, Int.reduceLE, Int.reduceToNat, builtinP, builtinA, changes, fieldAddrA, resA, tupled, ↓reduceIte, Nat.reduceEqDiff, Nat.reduceLT, Z70, Int.reduceEq]
    refine ⟨_, rfl, ?_⟩
    cases l with
    | nil => simp at h0
    | cons a l => simp [maxI]
  · rintro i ⟨t, nt, σ', c⟩ hi ⟨rfl, rfl, hil, g0, g4, m, g3, hm⟩
    by_cases hlt : i + 1 < l.length
    · have hlt' : (i : Int) + 1 < (l.length : Int) := by omega
      obtain ⟨a, ha, hla⟩ := (hv []).at (C := cfg) sh39 sz5 ag5 .i64 (i + 1) (by rw [ints_len]; exact hlt)
      have ha' : indexAddrA cfg 39 x (.i .i64 ((i : Int) + 1)) = some a := ha
      have hl1 := fun τ => hla τ _ (hv τ)
      simp only [ints_get' hlt] at hl1
      generalize hq : l.getD (i + 1) 0 = q at hl1
      have hm' : (if m < q then q else m) = maxI (l.take (i + 1 + 1)) := by
        have ht : l.take (i + 1 + 1) = l.take (i + 1) ++ [q] := by
          rw [List.take_add_one, List.getElem?_eq_getElem hlt, ← hq, List.getD_eq_getElem?_getD, List.getElem?_eq_getElem hlt]; rfl
        rw [ht, maxI_snoc (by rw [List.length_take]; omega), ← hm]
      simp +contextual (disch := first | omega | exact rfl | decide | exact kpF (by decide) | exact kpT (by decide) | assumption | exact Z2z | exact Z30 | exact Z32 | exact Z31 | exact Z33 | exact Z34 | (simp only [ZI] <;> omega) | simp only [ZK] | (simp only [ZL] <;> assumption)) only [ZH, SOp, GOp, ↓Z1c, Int.reduceAdd, Int.reduceSub, Int.reduceMul, Int.reduceNeg, accs, touch, touchM, okPair, Nat.reduceAdd, Nat.reduceLeDiff, Nat.reduceMul, Nat.reduceSub, isV, opA, grdO, grd, Z41, Int.reduceLT, Int.reduceLE, Int.reduceToNat, builtinP, builtinA, changes, fieldAddrA, resA, tupled, ↓reduceIte, Nat.reduceEqDiff, Nat.reduceLT, Z70, Int.reduceEq, Y3, Y5, Y9, Y39, g0, g3, g4, l1, hlt', ha', hl1]
      exact ⟨by omega, hlt, rfl, _, rfl, hm'⟩
    · have hi' : i + 1 = l.length := by omega
      have hf : ((i : Int) + 1 < (l.length : Int)) = False := eq_false (by omega)
      simp +contextual (disch := first | omega | exact rfl | decide | exact kpF (by decide) | exact kpT (by decide) | assumption | exact Z2z | exact Z30 | exact Z32 | exact Z31 | exact Z33 | exact Z34 | (simp only [ZI] <;> omega) | simp only [ZK] | (simp only [ZL] <;> assumption)) only [ZH, SOp, GOp, ↓Z1c, Int.reduceAdd, Int.reduceSub, Int.reduceMul, Int.reduceNeg, accs, touch, touchM, okPair, Nat.reduceAdd, Nat.reduceLeDiff, Nat.reduceMul, Nat.reduceSub, isV, opA, grdO, grd, Z41, Int.reduceLT, Int.reduceLE, Int.reduceToNat, builtinP, builtinA, changes, fieldAddrA, resA, tupled, ↓reduceIte, Nat.reduceEqDiff, Nat.reduceLT, Z70, Int.reduceEq, Y3, Y5, Y9, Y39, g0, g3, g4, l1, hf, DoneP_ret, DoneP_normal]
      rw [hi', List.take_length] at hm
      rw [hm]
end Go.Am.R2

/- The fast machine at a sum: its tables, what it stands on. -/
namespace Go.Am.R2
open Go.Proofs
set_option maxRecDepth 100000
set_option linter.unusedSimpArgs false
set_option linter.unusedVariables false
noncomputable def pRot : List V → Option V
  | [.i .u32 (.ofNat x), .i .i64 k] => (match Nat.blt x 4294967296 with | true => (match amount k with | some s => some (.i .u32 (.ofNat (rot x s))) | none => none) | false => none)
  | _ => none
noncomputable def pMix : List V → Option V
  | [.i .u32 (.ofNat x), .i .i64 a, .i .i64 b, .i .i64 c] => (match Nat.blt x 4294967296 with
    | true => (match amount (IntKind.i64.wrap (-a)), amount (IntKind.i64.wrap (-b)), amount (IntKind.i64.wrap (-c)) with | some a, some b, some c => some (.i .u32 (.ofNat (mix3 x a b c))) | _, _, _ => none)
    | false => none)
  | _ => none
noncomputable def primS (f : Nat) : Option (List V → List O → Option V) :=
  match Nat.beq f 193 with | true => some (fun a _ => pRot a) | false => (match Nat.beq f 185 with | true => some (fun a _ => pMix a) | false => none)
noncomputable def primSB (f : Nat) : Option (List V → Mem → Option V) :=
  match Nat.beq f 193 with | true => some (fun a _ => pRot a) | false => (match Nat.beq f 185 with | true => some (fun a _ => pMix a) | false => none)
noncomputable def globB (g : Nat) : Option (List V) := match g with | 0 => some beginsV | 1 => some cubesV | _ => none
/-- slices.Clip. -/
noncomputable def pClip : List V → Option V
  | [.sl r st o 0 129 cap] => some (.arr [] 0 true)
  | [.sl r st o (n + 1) 129 cap] => some (.sl r st o (n + 1) 129 (some (n + 1)))
  | [.nils] => some .nils
  | [.arr cs n c] => some (.arr (cs.take (n * 129)) n true)
  | _ => none
noncomputable def stT (f : Nat) : Option (List V → Option V) := match Nat.beq f 141 with | true => some pClip | false => none
noncomputable def DS : CB := ⟨tyK, primSB, globB, fnK, clsK, fun _ => none, preK, stT⟩
def barS (f : Nat) : Bool := !(fnL.contains f || f == 138)
noncomputable def cfgS : Cfg := { P := Tryz.prog, bar := barS, cls := clsB DS, pre := preB DS, prim := primS, still := stT, glob := globB, keep := fun f _ => !(f == 138) }
noncomputable def yesV (r : Option V) (w : V) : Bool := match r with | some v => V.eqb v w | none => false
theorem yesV_eq {r : Option V} {w : V} (h : yesV r w = true) : r = some w := by
  cases r with
  | none => cases h
  | some v => have h : V.eqb v w = true := h; rw [V.eqb_eq h]
end Go.Am.R2
