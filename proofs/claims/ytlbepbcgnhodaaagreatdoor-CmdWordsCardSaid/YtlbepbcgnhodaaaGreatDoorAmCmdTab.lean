import Derived.Test.YtlbepbcgnhodaaaGreatDoorAmEnv
import Derived.Test.YtlbepbcgnhodaaaGreatDoorProg
set_option linter.all false
set_option maxRecDepth 100000
namespace Go.AM
namespace Tryz
noncomputable def ty1 : TI := ⟨.func, 1, 8, (some (.nilFunc))⟩
noncomputable def ty2 : TI := ⟨.int .i64, 1, 8, (some (.int .i64 0))⟩
noncomputable def ty3 : TI := ⟨.int .i64, 1, 8, (some (.int .i64 0))⟩
noncomputable def ty4 : TI := ⟨.bool, 1, 1, (some (.bool false))⟩
noncomputable def ty5 : TI := ⟨.int .u8, 1, 1, (some (.int .u8 0))⟩
noncomputable def ty6 : TI := ⟨.int .u8, 1, 1, (some (.int .u8 0))⟩
noncomputable def ty7 : TI := ⟨.struct [(0, 2), (1, 3), (2, 4), (3, 6)], 4, 24, (some (.agg #[.int .i64 0, .int .i64 0, .bool false, .int .u8 0]))⟩
noncomputable def ty8 : TI := ⟨.struct [(0, 2), (1, 3), (2, 4), (3, 6)], 4, 24, (some (.agg #[.int .i64 0, .int .i64 0, .bool false, .int .u8 0]))⟩
noncomputable def ty9 : TI := ⟨.string, 1, 16, (some (.string ⟨#[]⟩))⟩
noncomputable def ty10 : TI := ⟨.string, 1, 16, (some (.string ⟨#[]⟩))⟩
noncomputable def ty11 : TI := ⟨.string, 1, 16, (some (.string ⟨#[]⟩))⟩
noncomputable def ty12 : TI := ⟨.int .u64, 1, 8, (some (.int .u64 0))⟩
noncomputable def ty13 : TI := ⟨.struct [(0, 9), (1, 12)], 2, 24, (some (.agg #[.string ⟨#[]⟩, .int .u64 0]))⟩
noncomputable def ty14 : TI := ⟨.struct [(0, 9), (1, 12)], 2, 24, (some (.agg #[.string ⟨#[]⟩, .int .u64 0]))⟩
noncomputable def ty15 : TI := ⟨.pointer 243, 1, 8, (some (.pointer none))⟩
noncomputable def ty16 : TI := ⟨.pointer 246, 1, 8, (some (.pointer none))⟩
noncomputable def ty17 : TI := ⟨.pointer 253, 1, 8, (some (.pointer none))⟩
noncomputable def ty18 : TI := ⟨.struct [(0, 17)], 1, 8, (some (.agg #[.pointer none]))⟩
noncomputable def ty19 : TI := ⟨.struct [(0, 17)], 1, 8, (some (.agg #[.pointer none]))⟩
noncomputable def ty20 : TI := ⟨.iface, 1, 16, (some (.nilIface))⟩
noncomputable def ty21 : TI := ⟨.int .i32, 1, 4, (some (.int .i32 0))⟩
noncomputable def ty22 : TI := ⟨.func, 1, 8, (some (.nilFunc))⟩
noncomputable def ty23 : TI := ⟨.slice 41, 1, 24, (some (.slice none 0 0))⟩
noncomputable def ty24 : TI := ⟨.func, 1, 8, (some (.nilFunc))⟩
noncomputable def ty25 : TI := ⟨.slice 9, 1, 24, (some (.slice none 0 0))⟩
noncomputable def ty26 : TI := ⟨.slice 96, 1, 24, (some (.slice none 0 0))⟩
noncomputable def ty27 : TI := ⟨.slice 54, 1, 24, (some (.slice none 0 0))⟩
noncomputable def ty28 : TI := ⟨.slice 30, 1, 24, (some (.slice none 0 0))⟩
noncomputable def ty29 : TI := ⟨.struct [(0, 3), (1, 9), (2, 9), (3, 3), (4, 26), (5, 28)], 6, 96, (some (.agg #[.int .i64 0, .string ⟨#[]⟩, .string ⟨#[]⟩, .int .i64 0, .slice none 0 0, .slice none 0 0]))⟩
noncomputable def ty30 : TI := ⟨.struct [(0, 3), (1, 9), (2, 9), (3, 3), (4, 26), (5, 28)], 6, 96, (some (.agg #[.int .i64 0, .string ⟨#[]⟩, .string ⟨#[]⟩, .int .i64 0, .slice none 0 0, .slice none 0 0]))⟩
noncomputable def ty31 : TI := ⟨.struct [(0, 2), (1, 3)], 2, 16, (some (.agg #[.int .i64 0, .int .i64 0]))⟩
noncomputable def ty32 : TI := ⟨.struct [(0, 2), (1, 3)], 2, 16, (some (.agg #[.int .i64 0, .int .i64 0]))⟩
noncomputable def ty33 : TI := ⟨.struct [(0, 9), (1, 9), (2, 4), (3, 9), (4, 9), (5, 25), (6, 3), (7, 4), (8, 26), (9, 27), (10, 30), (16, 32), (18, 4), (19, 25)], 20, 304, (some (.agg #[.string ⟨#[]⟩, .string ⟨#[]⟩, .bool false, .string ⟨#[]⟩, .string ⟨#[]⟩, .slice none 0 0, .int .i64 0, .bool false, .slice none 0 0, .slice none 0 0, .int .i64 0, .string ⟨#[]⟩, .string ⟨#[]⟩, .int .i64 0, .slice none 0 0, .slice none 0 0, .int .i64 0, .int .i64 0, .bool false, .slice none 0 0]))⟩
noncomputable def ty34 : TI := ⟨.struct [(0, 9), (1, 9), (2, 4), (3, 9), (4, 9), (5, 25), (6, 3), (7, 4), (8, 26), (9, 27), (10, 30), (16, 32), (18, 4), (19, 25)], 20, 304, (some (.agg #[.string ⟨#[]⟩, .string ⟨#[]⟩, .bool false, .string ⟨#[]⟩, .string ⟨#[]⟩, .slice none 0 0, .int .i64 0, .bool false, .slice none 0 0, .slice none 0 0, .int .i64 0, .string ⟨#[]⟩, .string ⟨#[]⟩, .int .i64 0, .slice none 0 0, .slice none 0 0, .int .i64 0, .int .i64 0, .bool false, .slice none 0 0]))⟩
noncomputable def ty35 : TI := ⟨.int .i64, 1, 8, (some (.int .i64 0))⟩
noncomputable def ty37 : TI := ⟨.func, 1, 8, (some (.nilFunc))⟩
noncomputable def ty39 : TI := ⟨.func, 1, 8, (some (.nilFunc))⟩
noncomputable def ty40 : TI := ⟨.struct [(0, 3), (1, 9)], 2, 24, (some (.agg #[.int .i64 0, .string ⟨#[]⟩]))⟩
noncomputable def ty41 : TI := ⟨.struct [(0, 3), (1, 9)], 2, 24, (some (.agg #[.int .i64 0, .string ⟨#[]⟩]))⟩
noncomputable def ty42 : TI := ⟨.func, 1, 8, (some (.nilFunc))⟩
noncomputable def ty43 : TI := ⟨.func, 1, 8, (some (.nilFunc))⟩
noncomputable def ty44 : TI := ⟨.slice 5, 1, 24, (some (.slice none 0 0))⟩
noncomputable def ty45 : TI := ⟨.slice 3, 1, 24, (some (.slice none 0 0))⟩
noncomputable def ty46 : TI := ⟨.struct [(0, 45), (1, 9), (2, 25)], 3, 64, (some (.agg #[.slice none 0 0, .string ⟨#[]⟩, .slice none 0 0]))⟩
noncomputable def ty47 : TI := ⟨.struct [(0, 45), (1, 9), (2, 25)], 3, 64, (some (.agg #[.slice none 0 0, .string ⟨#[]⟩, .slice none 0 0]))⟩
noncomputable def ty48 : TI := ⟨.int .u16, 1, 2, (some (.int .u16 0))⟩
noncomputable def ty49 : TI := ⟨.struct [(0, 47), (3, 48), (4, 48), (5, 4)], 6, 72, (some (.agg #[.slice none 0 0, .string ⟨#[]⟩, .slice none 0 0, .int .u16 0, .int .u16 0, .bool false]))⟩
noncomputable def ty50 : TI := ⟨.struct [(0, 47), (3, 48), (4, 48), (5, 4)], 6, 72, (some (.agg #[.slice none 0 0, .string ⟨#[]⟩, .slice none 0 0, .int .u16 0, .int .u16 0, .bool false]))⟩
noncomputable def ty51 : TI := ⟨.func, 1, 8, (some (.nilFunc))⟩
noncomputable def ty52 : TI := ⟨.func, 1, 8, (some (.nilFunc))⟩
noncomputable def ty53 : TI := ⟨.struct [(0, 3), (1, 9), (2, 47), (5, 4), (6, 4), (7, 3), (8, 3)], 9, 112, (some (.agg #[.int .i64 0, .string ⟨#[]⟩, .slice none 0 0, .string ⟨#[]⟩, .slice none 0 0, .bool false, .bool false, .int .i64 0, .int .i64 0]))⟩
noncomputable def ty54 : TI := ⟨.struct [(0, 3), (1, 9), (2, 47), (5, 4), (6, 4), (7, 3), (8, 3)], 9, 112, (some (.agg #[.int .i64 0, .string ⟨#[]⟩, .slice none 0 0, .string ⟨#[]⟩, .slice none 0 0, .bool false, .bool false, .int .i64 0, .int .i64 0]))⟩
noncomputable def ty55 : TI := ⟨.func, 1, 8, (some (.nilFunc))⟩
noncomputable def ty56 : TI := ⟨.func, 1, 8, (some (.nilFunc))⟩
noncomputable def ty57 : TI := ⟨.struct [(0, 9), (1, 9), (2, 4), (3, 4)], 4, 40, (some (.agg #[.string ⟨#[]⟩, .string ⟨#[]⟩, .bool false, .bool false]))⟩
noncomputable def ty58 : TI := ⟨.struct [(0, 9), (1, 9), (2, 4), (3, 4)], 4, 40, (some (.agg #[.string ⟨#[]⟩, .string ⟨#[]⟩, .bool false, .bool false]))⟩
noncomputable def ty59 : TI := ⟨.func, 1, 8, (some (.nilFunc))⟩
noncomputable def ty60 : TI := ⟨.func, 1, 8, (some (.nilFunc))⟩
noncomputable def ty61 : TI := ⟨.pointer 64, 1, 8, (some (.pointer none))⟩
noncomputable def ty62 : TI := ⟨.pointer 34, 1, 8, (some (.pointer none))⟩
noncomputable def ty63 : TI := ⟨.struct [(0, 23), (1, 3), (2, 62)], 3, 40, (some (.agg #[.slice none 0 0, .int .i64 0, .pointer none]))⟩
noncomputable def ty64 : TI := ⟨.struct [(0, 23), (1, 3), (2, 62)], 3, 40, (some (.agg #[.slice none 0 0, .int .i64 0, .pointer none]))⟩
noncomputable def ty65 : TI := ⟨.func, 1, 8, (some (.nilFunc))⟩
noncomputable def ty66 : TI := ⟨.func, 1, 8, (some (.nilFunc))⟩
noncomputable def ty68 : TI := ⟨.map 9 66, 1, 8, (some (.map none))⟩
noncomputable def ty69 : TI := ⟨.func, 1, 8, (some (.nilFunc))⟩
noncomputable def ty70 : TI := ⟨.func, 1, 8, (some (.nilFunc))⟩
noncomputable def ty71 : TI := ⟨.pointer 73, 1, 8, (some (.pointer none))⟩
noncomputable def ty72 : TI := ⟨.struct [(0, 23), (1, 3), (2, 4), (3, 34)], 23, 344, (some (.agg #[.slice none 0 0, .int .i64 0, .bool false, .string ⟨#[]⟩, .string ⟨#[]⟩, .bool false, .string ⟨#[]⟩, .string ⟨#[]⟩, .slice none 0 0, .int .i64 0, .bool false, .slice none 0 0, .slice none 0 0, .int .i64 0, .string ⟨#[]⟩, .string ⟨#[]⟩, .int .i64 0, .slice none 0 0, .slice none 0 0, .int .i64 0, .int .i64 0, .bool false, .slice none 0 0]))⟩
noncomputable def ty73 : TI := ⟨.struct [(0, 23), (1, 3), (2, 4), (3, 34)], 23, 344, (some (.agg #[.slice none 0 0, .int .i64 0, .bool false, .string ⟨#[]⟩, .string ⟨#[]⟩, .bool false, .string ⟨#[]⟩, .string ⟨#[]⟩, .slice none 0 0, .int .i64 0, .bool false, .slice none 0 0, .slice none 0 0, .int .i64 0, .string ⟨#[]⟩, .string ⟨#[]⟩, .int .i64 0, .slice none 0 0, .slice none 0 0, .int .i64 0, .int .i64 0, .bool false, .slice none 0 0]))⟩
noncomputable def ty74 : TI := ⟨.func, 1, 8, (some (.nilFunc))⟩
noncomputable def ty75 : TI := ⟨.func, 1, 8, (some (.nilFunc))⟩
noncomputable def ty76 : TI := ⟨.func, 1, 8, (some (.nilFunc))⟩
noncomputable def ty77 : TI := ⟨.func, 1, 8, (some (.nilFunc))⟩
noncomputable def ty78 : TI := ⟨.func, 1, 8, (some (.nilFunc))⟩
noncomputable def ty80 : TI := ⟨.func, 1, 8, (some (.nilFunc))⟩
noncomputable def ty81 : TI := ⟨.struct [(0, 4), (1, 9)], 2, 24, (some (.agg #[.bool false, .string ⟨#[]⟩]))⟩
noncomputable def ty82 : TI := ⟨.struct [(0, 4), (1, 9)], 2, 24, (some (.agg #[.bool false, .string ⟨#[]⟩]))⟩
noncomputable def ty83 : TI := ⟨.slice 82, 1, 24, (some (.slice none 0 0))⟩
noncomputable def ty84 : TI := ⟨.func, 1, 8, (some (.nilFunc))⟩
noncomputable def ty85 : TI := ⟨.func, 1, 8, (some (.nilFunc))⟩
noncomputable def ty86 : TI := ⟨.array 6 9, 6, 96, (some (.agg #[.string ⟨#[]⟩, .string ⟨#[]⟩, .string ⟨#[]⟩, .string ⟨#[]⟩, .string ⟨#[]⟩, .string ⟨#[]⟩]))⟩
noncomputable def ty87 : TI := ⟨.array 4 9, 4, 64, (some (.agg #[.string ⟨#[]⟩, .string ⟨#[]⟩, .string ⟨#[]⟩, .string ⟨#[]⟩]))⟩
noncomputable def ty88 : TI := ⟨.struct [], 0, 0, (some (.agg #[]))⟩
noncomputable def ty89 : TI := ⟨.struct [], 0, 0, (some (.agg #[]))⟩
noncomputable def ty90 : TI := ⟨.func, 1, 8, (some (.nilFunc))⟩
noncomputable def ty91 : TI := ⟨.func, 1, 8, (some (.nilFunc))⟩
noncomputable def ty92 : TI := ⟨.func, 1, 8, (some (.nilFunc))⟩
noncomputable def ty94 : TI := ⟨.func, 1, 8, (some (.nilFunc))⟩
noncomputable def ty95 : TI := ⟨.struct [(0, 3), (1, 3)], 2, 16, (some (.agg #[.int .i64 0, .int .i64 0]))⟩
noncomputable def ty96 : TI := ⟨.struct [(0, 3), (1, 3)], 2, 16, (some (.agg #[.int .i64 0, .int .i64 0]))⟩
noncomputable def ty97 : TI := ⟨.func, 1, 8, (some (.nilFunc))⟩
noncomputable def ty98 : TI := ⟨.func, 1, 8, (some (.nilFunc))⟩
noncomputable def ty99 : TI := ⟨.func, 1, 8, (some (.nilFunc))⟩
noncomputable def ty100 : TI := ⟨.func, 1, 8, (some (.nilFunc))⟩
noncomputable def ty101 : TI := ⟨.pointer 103, 1, 8, (some (.pointer none))⟩
noncomputable def ty102 : TI := ⟨.struct [(0, 101), (1, 44)], 2, 32, (some (.agg #[.pointer none, .slice none 0 0]))⟩
noncomputable def ty103 : TI := ⟨.struct [(0, 101), (1, 44)], 2, 32, (some (.agg #[.pointer none, .slice none 0 0]))⟩
noncomputable def ty104 : TI := ⟨.func, 1, 8, (some (.nilFunc))⟩
noncomputable def ty105 : TI := ⟨.iface, 1, 16, (some (.nilIface))⟩
noncomputable def ty106 : TI := ⟨.iface, 1, 16, (some (.nilIface))⟩
noncomputable def ty108 : TI := ⟨.func, 1, 8, (some (.nilFunc))⟩
noncomputable def ty110 : TI := ⟨.func, 1, 8, (some (.nilFunc))⟩
noncomputable def ty111 : TI := ⟨.func, 1, 8, (some (.nilFunc))⟩
noncomputable def ty113 : TI := ⟨.func, 1, 8, (some (.nilFunc))⟩
noncomputable def ty114 : TI := ⟨.func, 1, 8, (some (.nilFunc))⟩
noncomputable def ty115 : TI := ⟨.func, 1, 8, (some (.nilFunc))⟩
noncomputable def ty116 : TI := ⟨.func, 1, 8, (some (.nilFunc))⟩
noncomputable def ty117 : TI := ⟨.func, 1, 8, (some (.nilFunc))⟩
noncomputable def ty118 : TI := ⟨.func, 1, 8, (some (.nilFunc))⟩
noncomputable def ty120 : TI := ⟨.func, 1, 8, (some (.nilFunc))⟩
noncomputable def ty122 : TI := ⟨.func, 1, 8, (some (.nilFunc))⟩
noncomputable def ty123 : TI := ⟨.func, 1, 8, (some (.nilFunc))⟩
noncomputable def ty125 : TI := ⟨.func, 1, 8, (some (.nilFunc))⟩
noncomputable def ty127 : TI := ⟨.func, 1, 8, (some (.nilFunc))⟩
noncomputable def ty128 : TI := ⟨.func, 1, 8, (some (.nilFunc))⟩
noncomputable def ty129 : TI := ⟨.func, 1, 8, (some (.nilFunc))⟩
noncomputable def ty130 : TI := ⟨.func, 1, 8, (some (.nilFunc))⟩
noncomputable def ty131 : TI := ⟨.func, 1, 8, (some (.nilFunc))⟩
noncomputable def ty132 : TI := ⟨.pointer 5, 1, 8, (some (.pointer none))⟩
noncomputable def ty133 : TI := ⟨.func, 1, 8, (some (.nilFunc))⟩
noncomputable def ty135 : TI := ⟨.func, 1, 8, (some (.nilFunc))⟩
noncomputable def ty136 : TI := ⟨.array 2 3, 2, 16, (some (.agg #[.int .i64 0, .int .i64 0]))⟩
noncomputable def ty137 : TI := ⟨.slice 136, 1, 24, (some (.slice none 0 0))⟩
noncomputable def ty139 : TI := ⟨.func, 1, 8, (some (.nilFunc))⟩
noncomputable def ty140 : TI := ⟨.func, 1, 8, (some (.nilFunc))⟩
noncomputable def ty141 : TI := ⟨.func, 1, 8, (some (.nilFunc))⟩
noncomputable def ty142 : TI := ⟨.func, 1, 8, (some (.nilFunc))⟩
noncomputable def ty144 : TI := ⟨.func, 1, 8, (some (.nilFunc))⟩
noncomputable def ty145 : TI := ⟨.func, 1, 8, (some (.nilFunc))⟩
noncomputable def ty146 : TI := ⟨.func, 1, 8, (some (.nilFunc))⟩
noncomputable def ty148 : TI := ⟨.func, 1, 8, (some (.nilFunc))⟩
noncomputable def ty150 : TI := ⟨.func, 1, 8, (some (.nilFunc))⟩
noncomputable def ty151 : TI := ⟨.func, 1, 8, (some (.nilFunc))⟩
noncomputable def ty152 : TI := ⟨.pointer 54, 1, 8, (some (.pointer none))⟩
noncomputable def ty153 : TI := ⟨.func, 1, 8, (some (.nilFunc))⟩
noncomputable def ty154 : TI := ⟨.func, 1, 8, (some (.nilFunc))⟩
noncomputable def ty155 : TI := ⟨.func, 1, 8, (some (.nilFunc))⟩
noncomputable def ty157 : TI := ⟨.func, 1, 8, (some (.nilFunc))⟩
noncomputable def ty158 : TI := ⟨.func, 1, 8, (some (.nilFunc))⟩
noncomputable def ty160 : TI := ⟨.func, 1, 8, (some (.nilFunc))⟩
noncomputable def ty162 : TI := ⟨.func, 1, 8, (some (.nilFunc))⟩
noncomputable def ty163 : TI := ⟨.array 24 5, 24, 24, (some (.agg #[.int .u8 0, .int .u8 0, .int .u8 0, .int .u8 0, .int .u8 0, .int .u8 0, .int .u8 0, .int .u8 0, .int .u8 0, .int .u8 0, .int .u8 0, .int .u8 0, .int .u8 0, .int .u8 0, .int .u8 0, .int .u8 0, .int .u8 0, .int .u8 0, .int .u8 0, .int .u8 0, .int .u8 0, .int .u8 0, .int .u8 0, .int .u8 0]))⟩
noncomputable def ty164 : TI := ⟨.int .u64, 1, 8, (some (.int .u64 0))⟩
noncomputable def ty165 : TI := ⟨.func, 1, 8, (some (.nilFunc))⟩
noncomputable def ty166 : TI := ⟨.func, 1, 8, (some (.nilFunc))⟩
noncomputable def ty168 : TI := ⟨.func, 1, 8, (some (.nilFunc))⟩
noncomputable def ty169 : TI := ⟨.other, 1, 8, (some (.pointer none))⟩
noncomputable def ty170 : TI := ⟨.func, 1, 8, (some (.nilFunc))⟩
noncomputable def ty171 : TI := ⟨.func, 1, 8, (some (.nilFunc))⟩
noncomputable def ty172 : TI := ⟨.func, 1, 8, (some (.nilFunc))⟩
noncomputable def ty173 : TI := ⟨.array 12 9, 12, 192, (some (.agg #[.string ⟨#[]⟩, .string ⟨#[]⟩, .string ⟨#[]⟩, .string ⟨#[]⟩, .string ⟨#[]⟩, .string ⟨#[]⟩, .string ⟨#[]⟩, .string ⟨#[]⟩, .string ⟨#[]⟩, .string ⟨#[]⟩, .string ⟨#[]⟩, .string ⟨#[]⟩]))⟩
noncomputable def ty174 : TI := ⟨.func, 1, 8, (some (.nilFunc))⟩
noncomputable def ty175 : TI := ⟨.func, 1, 8, (some (.nilFunc))⟩
noncomputable def ty176 : TI := ⟨.func, 1, 8, (some (.nilFunc))⟩
noncomputable def ty177 : TI := ⟨.int .i64, 1, 8, (some (.int .i64 0))⟩
noncomputable def ty178 : TI := ⟨.func, 1, 8, (some (.nilFunc))⟩
noncomputable def ty179 : TI := ⟨.func, 1, 8, (some (.nilFunc))⟩
noncomputable def ty180 : TI := ⟨.func, 1, 8, (some (.nilFunc))⟩
noncomputable def ty181 : TI := ⟨.func, 1, 8, (some (.nilFunc))⟩
noncomputable def ty182 : TI := ⟨.func, 1, 8, (some (.nilFunc))⟩
noncomputable def ty183 : TI := ⟨.func, 1, 8, (some (.nilFunc))⟩
noncomputable def ty185 : TI := ⟨.func, 1, 8, (some (.nilFunc))⟩
noncomputable def ty186 : TI := ⟨.array 5 9, 5, 80, (some (.agg #[.string ⟨#[]⟩, .string ⟨#[]⟩, .string ⟨#[]⟩, .string ⟨#[]⟩, .string ⟨#[]⟩]))⟩
noncomputable def ty187 : TI := ⟨.func, 1, 8, (some (.nilFunc))⟩
noncomputable def ty188 : TI := ⟨.func, 1, 8, (some (.nilFunc))⟩
noncomputable def ty189 : TI := ⟨.func, 1, 8, (some (.nilFunc))⟩
noncomputable def ty190 : TI := ⟨.func, 1, 8, (some (.nilFunc))⟩
noncomputable def ty191 : TI := ⟨.func, 1, 8, (some (.nilFunc))⟩
noncomputable def ty192 : TI := ⟨.func, 1, 8, (some (.nilFunc))⟩
noncomputable def ty193 : TI := ⟨.func, 1, 8, (some (.nilFunc))⟩
noncomputable def ty194 : TI := ⟨.array 20 164, 20, 160, (some (.agg #[.int .u64 0, .int .u64 0, .int .u64 0, .int .u64 0, .int .u64 0, .int .u64 0, .int .u64 0, .int .u64 0, .int .u64 0, .int .u64 0, .int .u64 0, .int .u64 0, .int .u64 0, .int .u64 0, .int .u64 0, .int .u64 0, .int .u64 0, .int .u64 0, .int .u64 0, .int .u64 0]))⟩
noncomputable def ty195 : TI := ⟨.int .u32, 1, 4, (some (.int .u32 0))⟩
noncomputable def ty196 : TI := ⟨.array 65 5, 65, 65, (some (.agg (List.replicate 65 (.int .u8 0)).toArray))⟩
noncomputable def ty197 : TI := ⟨.int .u64, 1, 8, (some (.int .u64 0))⟩
noncomputable def ty198 : TI := ⟨.func, 1, 8, (some (.nilFunc))⟩
noncomputable def ty199 : TI := ⟨.array 12 3, 12, 96, (some (.agg #[.int .i64 0, .int .i64 0, .int .i64 0, .int .i64 0, .int .i64 0, .int .i64 0, .int .i64 0, .int .i64 0, .int .i64 0, .int .i64 0, .int .i64 0, .int .i64 0]))⟩
noncomputable def ty200 : TI := ⟨.func, 1, 8, (some (.nilFunc))⟩
noncomputable def ty201 : TI := ⟨.func, 1, 8, (some (.nilFunc))⟩
noncomputable def ty202 : TI := ⟨.func, 1, 8, (some (.nilFunc))⟩
noncomputable def ty203 : TI := ⟨.array 256 4, 256, 256, (some (.agg (List.replicate 256 (.bool false)).toArray))⟩
noncomputable def ty204 : TI := ⟨.array 256 4, 256, 256, (some (.agg (List.replicate 256 (.bool false)).toArray))⟩
noncomputable def ty206 : TI := ⟨.func, 1, 8, (some (.nilFunc))⟩
noncomputable def ty207 : TI := ⟨.func, 1, 8, (some (.nilFunc))⟩
noncomputable def ty208 : TI := ⟨.pointer 204, 1, 8, (some (.pointer none))⟩
noncomputable def ty209 : TI := ⟨.func, 1, 8, (some (.nilFunc))⟩
noncomputable def ty210 : TI := ⟨.func, 1, 8, (some (.nilFunc))⟩
noncomputable def ty211 : TI := ⟨.func, 1, 8, (some (.nilFunc))⟩
noncomputable def ty212 : TI := ⟨.func, 1, 8, (some (.nilFunc))⟩
noncomputable def ty213 : TI := ⟨.func, 1, 8, (some (.nilFunc))⟩
noncomputable def ty214 : TI := ⟨.func, 1, 8, (some (.nilFunc))⟩
noncomputable def ty216 : TI := ⟨.func, 1, 8, (some (.nilFunc))⟩
noncomputable def ty217 : TI := ⟨.func, 1, 8, (some (.nilFunc))⟩
noncomputable def ty218 : TI := ⟨.int .i64, 1, 8, (some (.int .i64 0))⟩
noncomputable def ty220 : TI := ⟨.func, 1, 8, (some (.nilFunc))⟩
noncomputable def ty221 : TI := ⟨.pointer 231, 1, 8, (some (.pointer none))⟩
noncomputable def ty222 : TI := ⟨.func, 1, 8, (some (.nilFunc))⟩
noncomputable def ty223 : TI := ⟨.func, 1, 8, (some (.nilFunc))⟩
noncomputable def ty224 : TI := ⟨.func, 1, 8, (some (.nilFunc))⟩
noncomputable def ty225 : TI := ⟨.array 32 5, 32, 32, (some (.agg #[.int .u8 0, .int .u8 0, .int .u8 0, .int .u8 0, .int .u8 0, .int .u8 0, .int .u8 0, .int .u8 0, .int .u8 0, .int .u8 0, .int .u8 0, .int .u8 0, .int .u8 0, .int .u8 0, .int .u8 0, .int .u8 0, .int .u8 0, .int .u8 0, .int .u8 0, .int .u8 0, .int .u8 0, .int .u8 0, .int .u8 0, .int .u8 0, .int .u8 0, .int .u8 0, .int .u8 0, .int .u8 0, .int .u8 0, .int .u8 0, .int .u8 0, .int .u8 0]))⟩
noncomputable def ty226 : TI := ⟨.array 64 5, 64, 64, (some (.agg (List.replicate 64 (.int .u8 0)).toArray))⟩
noncomputable def ty227 : TI := ⟨.func, 1, 8, (some (.nilFunc))⟩
noncomputable def ty229 : TI := ⟨.func, 1, 8, (some (.nilFunc))⟩
noncomputable def ty230 : TI := ⟨.struct [(0, 9), (1, 9), (2, 106)], 3, 48, (some (.agg #[.string ⟨#[]⟩, .string ⟨#[]⟩, .nilIface]))⟩
noncomputable def ty231 : TI := ⟨.struct [(0, 9), (1, 9), (2, 106)], 3, 48, (some (.agg #[.string ⟨#[]⟩, .string ⟨#[]⟩, .nilIface]))⟩
noncomputable def ty232 : TI := ⟨.func, 1, 8, (some (.nilFunc))⟩
noncomputable def ty233 : TI := ⟨.array 256 5, 256, 256, (some (.agg (List.replicate 256 (.int .u8 0)).toArray))⟩
noncomputable def ty234 : TI := ⟨.struct [(0, 5), (1, 5)], 2, 2, (some (.agg #[.int .u8 0, .int .u8 0]))⟩
noncomputable def ty235 : TI := ⟨.struct [(0, 5), (1, 5)], 2, 2, (some (.agg #[.int .u8 0, .int .u8 0]))⟩
noncomputable def ty236 : TI := ⟨.array 16 235, 32, 32, (some (.agg #[.int .u8 0, .int .u8 0, .int .u8 0, .int .u8 0, .int .u8 0, .int .u8 0, .int .u8 0, .int .u8 0, .int .u8 0, .int .u8 0, .int .u8 0, .int .u8 0, .int .u8 0, .int .u8 0, .int .u8 0, .int .u8 0, .int .u8 0, .int .u8 0, .int .u8 0, .int .u8 0, .int .u8 0, .int .u8 0, .int .u8 0, .int .u8 0, .int .u8 0, .int .u8 0, .int .u8 0, .int .u8 0, .int .u8 0, .int .u8 0, .int .u8 0, .int .u8 0]))⟩
noncomputable def ty237 : TI := ⟨.pointer 239, 1, 8, (some (.pointer none))⟩
noncomputable def ty238 : TI := ⟨.struct [(0, 9)], 1, 16, (some (.agg #[.string ⟨#[]⟩]))⟩
noncomputable def ty239 : TI := ⟨.struct [(0, 9)], 1, 16, (some (.agg #[.string ⟨#[]⟩]))⟩
noncomputable def ty241 : TI := ⟨.func, 1, 8, (some (.nilFunc))⟩
noncomputable def ty242 : TI := ⟨.struct [(0, 17), (1, 17), (2, 17), (3, 9)], 4, 40, (some (.agg #[.pointer none, .pointer none, .pointer none, .string ⟨#[]⟩]))⟩
noncomputable def ty243 : TI := ⟨.struct [(0, 17), (1, 17), (2, 17), (3, 9)], 4, 40, (some (.agg #[.pointer none, .pointer none, .pointer none, .string ⟨#[]⟩]))⟩
noncomputable def ty244 : TI := ⟨.array 0 16, 0, 0, (some (.agg #[]))⟩
noncomputable def ty245 : TI := ⟨.struct [(0, 244)], 0, 0, (some (.agg #[]))⟩
noncomputable def ty246 : TI := ⟨.struct [(0, 244)], 0, 0, (some (.agg #[]))⟩
noncomputable def ty247 : TI := ⟨.int .u8, 1, 1, (some (.int .u8 0))⟩
noncomputable def ty248 : TI := ⟨.int .u8, 1, 1, (some (.int .u8 0))⟩
noncomputable def ty249 : TI := ⟨.func, 1, 8, (some (.nilFunc))⟩
noncomputable def ty250 : TI := ⟨.int .i32, 1, 4, (some (.int .i32 0))⟩
noncomputable def ty251 : TI := ⟨.int .i32, 1, 4, (some (.int .i32 0))⟩
noncomputable def ty252 : TI := ⟨.struct [(0, 12), (1, 12), (2, 195), (3, 247), (4, 5), (5, 5), (6, 248), (7, 249), (8, 132), (9, 250), (10, 251)], 11, 48, (some (.agg #[.int .u64 0, .int .u64 0, .int .u32 0, .int .u8 0, .int .u8 0, .int .u8 0, .int .u8 0, .nilFunc, .pointer none, .int .i32 0, .int .i32 0]))⟩
noncomputable def ty253 : TI := ⟨.struct [(0, 12), (1, 12), (2, 195), (3, 247), (4, 5), (5, 5), (6, 248), (7, 249), (8, 132), (9, 250), (10, 251)], 11, 48, (some (.agg #[.int .u64 0, .int .u64 0, .int .u32 0, .int .u8 0, .int .u8 0, .int .u8 0, .int .u8 0, .nilFunc, .pointer none, .int .i32 0, .int .i32 0]))⟩
noncomputable def fi0 : FI := ⟨0, none, (#[] : Array ResultVar).toList⟩
theorem fnok0 : FnOk Go.Proofs.Tryz.prog 0 fi0 := FnOk.of (n := 0) (b := none) (rs := #[]) Go.Proofs.Tryz.func0 (by kernel_rfl) (by kernel_rfl) (by kernel_rfl) (by kernel_rfl)
noncomputable def fi1 : FI := ⟨0, none, (#[] : Array ResultVar).toList⟩
theorem fnok1 : FnOk Go.Proofs.Tryz.prog 1 fi1 := FnOk.of (n := 0) (b := none) (rs := #[]) Go.Proofs.Tryz.func1 (by kernel_rfl) (by kernel_rfl) (by kernel_rfl) (by kernel_rfl)
noncomputable def fi2 : FI := ⟨1, Go.Proofs.Tryz.f2.body, (#[] : Array ResultVar).toList⟩
theorem fnok2 : FnOk Go.Proofs.Tryz.prog 2 fi2 := FnOk.of (n := 1) (b := Go.Proofs.Tryz.f2.body) (rs := #[]) Go.Proofs.Tryz.func2 (by kernel_rfl) (by kernel_rfl) (by kernel_rfl) (by kernel_rfl)
noncomputable def fi3 : FI := ⟨4, Go.Proofs.Tryz.f3.body, (#[.tmp 0] : Array ResultVar).toList⟩
theorem fnok3 : FnOk Go.Proofs.Tryz.prog 3 fi3 := FnOk.of (n := 4) (b := Go.Proofs.Tryz.f3.body) (rs := #[.tmp 0]) Go.Proofs.Tryz.func3 (by kernel_rfl) (by kernel_rfl) (by kernel_rfl) (by kernel_rfl)
noncomputable def fi4 : FI := ⟨49, Go.Proofs.Tryz.f4.body, (#[.tmp 2] : Array ResultVar).toList⟩
theorem fnok4 : FnOk Go.Proofs.Tryz.prog 4 fi4 := FnOk.of (n := 49) (b := Go.Proofs.Tryz.f4.body) (rs := #[.tmp 2]) Go.Proofs.Tryz.func4 (by kernel_rfl) (by kernel_rfl) (by kernel_rfl) (by kernel_rfl)
noncomputable def fi5 : FI := ⟨124, Go.Proofs.Tryz.f5.body, (#[.tmp 2] : Array ResultVar).toList⟩
theorem fnok5 : FnOk Go.Proofs.Tryz.prog 5 fi5 := FnOk.of (n := 124) (b := Go.Proofs.Tryz.f5.body) (rs := #[.tmp 2]) Go.Proofs.Tryz.func5 (by kernel_rfl) (by kernel_rfl) (by kernel_rfl) (by kernel_rfl)
noncomputable def fi6 : FI := ⟨165, Go.Proofs.Tryz.f6.body, (#[.tmp 2] : Array ResultVar).toList⟩
theorem fnok6 : FnOk Go.Proofs.Tryz.prog 6 fi6 := FnOk.of (n := 165) (b := Go.Proofs.Tryz.f6.body) (rs := #[.tmp 2]) Go.Proofs.Tryz.func6 (by kernel_rfl) (by kernel_rfl) (by kernel_rfl) (by kernel_rfl)
noncomputable def fi7 : FI := ⟨88, Go.Proofs.Tryz.f7.body, (#[.tmp 2] : Array ResultVar).toList⟩
theorem fnok7 : FnOk Go.Proofs.Tryz.prog 7 fi7 := FnOk.of (n := 88) (b := Go.Proofs.Tryz.f7.body) (rs := #[.tmp 2]) Go.Proofs.Tryz.func7 (by kernel_rfl) (by kernel_rfl) (by kernel_rfl) (by kernel_rfl)
noncomputable def fi8 : FI := ⟨77, Go.Proofs.Tryz.f8.body, (#[.tmp 0] : Array ResultVar).toList⟩
theorem fnok8 : FnOk Go.Proofs.Tryz.prog 8 fi8 := FnOk.of (n := 77) (b := Go.Proofs.Tryz.f8.body) (rs := #[.tmp 0]) Go.Proofs.Tryz.func8 (by kernel_rfl) (by kernel_rfl) (by kernel_rfl) (by kernel_rfl)
noncomputable def fi9 : FI := ⟨34, Go.Proofs.Tryz.f9.body, (#[.tmp 2] : Array ResultVar).toList⟩
theorem fnok9 : FnOk Go.Proofs.Tryz.prog 9 fi9 := FnOk.of (n := 34) (b := Go.Proofs.Tryz.f9.body) (rs := #[.tmp 2]) Go.Proofs.Tryz.func9 (by kernel_rfl) (by kernel_rfl) (by kernel_rfl) (by kernel_rfl)
noncomputable def fi10 : FI := ⟨67, Go.Proofs.Tryz.f10.body, (#[.cell 2 34, .cell 3 35] : Array ResultVar).toList⟩
theorem fnok10 : FnOk Go.Proofs.Tryz.prog 10 fi10 := FnOk.of (n := 67) (b := Go.Proofs.Tryz.f10.body) (rs := #[.cell 2 34, .cell 3 35]) Go.Proofs.Tryz.func10 (by kernel_rfl) (by kernel_rfl) (by kernel_rfl) (by kernel_rfl)
noncomputable def fi11 : FI := ⟨42, Go.Proofs.Tryz.f11.body, (#[.cell 2 34, .tmp 3] : Array ResultVar).toList⟩
theorem fnok11 : FnOk Go.Proofs.Tryz.prog 11 fi11 := FnOk.of (n := 42) (b := Go.Proofs.Tryz.f11.body) (rs := #[.cell 2 34, .tmp 3]) Go.Proofs.Tryz.func11 (by kernel_rfl) (by kernel_rfl) (by kernel_rfl) (by kernel_rfl)
noncomputable def fi12 : FI := ⟨173, Go.Proofs.Tryz.f12.body, (#[.tmp 4] : Array ResultVar).toList⟩
theorem fnok12 : FnOk Go.Proofs.Tryz.prog 12 fi12 := FnOk.of (n := 173) (b := Go.Proofs.Tryz.f12.body) (rs := #[.tmp 4]) Go.Proofs.Tryz.func12 (by kernel_rfl) (by kernel_rfl) (by kernel_rfl) (by kernel_rfl)
noncomputable def fi13 : FI := ⟨45, Go.Proofs.Tryz.f13.body, (#[.tmp 2] : Array ResultVar).toList⟩
theorem fnok13 : FnOk Go.Proofs.Tryz.prog 13 fi13 := FnOk.of (n := 45) (b := Go.Proofs.Tryz.f13.body) (rs := #[.tmp 2]) Go.Proofs.Tryz.func13 (by kernel_rfl) (by kernel_rfl) (by kernel_rfl) (by kernel_rfl)
noncomputable def fi14 : FI := ⟨16, Go.Proofs.Tryz.f14.body, (#[.tmp 2] : Array ResultVar).toList⟩
theorem fnok14 : FnOk Go.Proofs.Tryz.prog 14 fi14 := FnOk.of (n := 16) (b := Go.Proofs.Tryz.f14.body) (rs := #[.tmp 2]) Go.Proofs.Tryz.func14 (by kernel_rfl) (by kernel_rfl) (by kernel_rfl) (by kernel_rfl)
noncomputable def fi15 : FI := ⟨66, Go.Proofs.Tryz.f15.body, (#[.tmp 4] : Array ResultVar).toList⟩
theorem fnok15 : FnOk Go.Proofs.Tryz.prog 15 fi15 := FnOk.of (n := 66) (b := Go.Proofs.Tryz.f15.body) (rs := #[.tmp 4]) Go.Proofs.Tryz.func15 (by kernel_rfl) (by kernel_rfl) (by kernel_rfl) (by kernel_rfl)
noncomputable def fi16 : FI := ⟨13, Go.Proofs.Tryz.f16.body, (#[.tmp 2] : Array ResultVar).toList⟩
theorem fnok16 : FnOk Go.Proofs.Tryz.prog 16 fi16 := FnOk.of (n := 13) (b := Go.Proofs.Tryz.f16.body) (rs := #[.tmp 2]) Go.Proofs.Tryz.func16 (by kernel_rfl) (by kernel_rfl) (by kernel_rfl) (by kernel_rfl)
noncomputable def fi17 : FI := ⟨12, Go.Proofs.Tryz.f17.body, (#[] : Array ResultVar).toList⟩
theorem fnok17 : FnOk Go.Proofs.Tryz.prog 17 fi17 := FnOk.of (n := 12) (b := Go.Proofs.Tryz.f17.body) (rs := #[]) Go.Proofs.Tryz.func17 (by kernel_rfl) (by kernel_rfl) (by kernel_rfl) (by kernel_rfl)
noncomputable def fi18 : FI := ⟨7, Go.Proofs.Tryz.f18.body, (#[.tmp 2] : Array ResultVar).toList⟩
theorem fnok18 : FnOk Go.Proofs.Tryz.prog 18 fi18 := FnOk.of (n := 7) (b := Go.Proofs.Tryz.f18.body) (rs := #[.tmp 2]) Go.Proofs.Tryz.func18 (by kernel_rfl) (by kernel_rfl) (by kernel_rfl) (by kernel_rfl)
noncomputable def fi19 : FI := ⟨32, Go.Proofs.Tryz.f19.body, (#[.tmp 0] : Array ResultVar).toList⟩
theorem fnok19 : FnOk Go.Proofs.Tryz.prog 19 fi19 := FnOk.of (n := 32) (b := Go.Proofs.Tryz.f19.body) (rs := #[.tmp 0]) Go.Proofs.Tryz.func19 (by kernel_rfl) (by kernel_rfl) (by kernel_rfl) (by kernel_rfl)
noncomputable def fi20 : FI := ⟨6, Go.Proofs.Tryz.f20.body, (#[] : Array ResultVar).toList⟩
theorem fnok20 : FnOk Go.Proofs.Tryz.prog 20 fi20 := FnOk.of (n := 6) (b := Go.Proofs.Tryz.f20.body) (rs := #[]) Go.Proofs.Tryz.func20 (by kernel_rfl) (by kernel_rfl) (by kernel_rfl) (by kernel_rfl)
noncomputable def fi21 : FI := ⟨31, Go.Proofs.Tryz.f21.body, (#[.tmp 4] : Array ResultVar).toList⟩
theorem fnok21 : FnOk Go.Proofs.Tryz.prog 21 fi21 := FnOk.of (n := 31) (b := Go.Proofs.Tryz.f21.body) (rs := #[.tmp 4]) Go.Proofs.Tryz.func21 (by kernel_rfl) (by kernel_rfl) (by kernel_rfl) (by kernel_rfl)
noncomputable def fi22 : FI := ⟨293, Go.Proofs.Tryz.f22.body, (#[] : Array ResultVar).toList⟩
theorem fnok22 : FnOk Go.Proofs.Tryz.prog 22 fi22 := FnOk.of (n := 293) (b := Go.Proofs.Tryz.f22.body) (rs := #[]) Go.Proofs.Tryz.func22 (by kernel_rfl) (by kernel_rfl) (by kernel_rfl) (by kernel_rfl)
noncomputable def fi23 : FI := ⟨26, Go.Proofs.Tryz.f23.body, (#[.tmp 4] : Array ResultVar).toList⟩
theorem fnok23 : FnOk Go.Proofs.Tryz.prog 23 fi23 := FnOk.of (n := 26) (b := Go.Proofs.Tryz.f23.body) (rs := #[.tmp 4]) Go.Proofs.Tryz.func23 (by kernel_rfl) (by kernel_rfl) (by kernel_rfl) (by kernel_rfl)
noncomputable def fi24 : FI := ⟨26, Go.Proofs.Tryz.f24.body, (#[.tmp 4] : Array ResultVar).toList⟩
theorem fnok24 : FnOk Go.Proofs.Tryz.prog 24 fi24 := FnOk.of (n := 26) (b := Go.Proofs.Tryz.f24.body) (rs := #[.tmp 4]) Go.Proofs.Tryz.func24 (by kernel_rfl) (by kernel_rfl) (by kernel_rfl) (by kernel_rfl)
noncomputable def fi25 : FI := ⟨68, Go.Proofs.Tryz.f25.body, (#[.tmp 4] : Array ResultVar).toList⟩
theorem fnok25 : FnOk Go.Proofs.Tryz.prog 25 fi25 := FnOk.of (n := 68) (b := Go.Proofs.Tryz.f25.body) (rs := #[.tmp 4]) Go.Proofs.Tryz.func25 (by kernel_rfl) (by kernel_rfl) (by kernel_rfl) (by kernel_rfl)
noncomputable def fi26 : FI := ⟨52, Go.Proofs.Tryz.f26.body, (#[.tmp 2] : Array ResultVar).toList⟩
theorem fnok26 : FnOk Go.Proofs.Tryz.prog 26 fi26 := FnOk.of (n := 52) (b := Go.Proofs.Tryz.f26.body) (rs := #[.tmp 2]) Go.Proofs.Tryz.func26 (by kernel_rfl) (by kernel_rfl) (by kernel_rfl) (by kernel_rfl)
noncomputable def fi27 : FI := ⟨5, Go.Proofs.Tryz.f27.body, (#[.tmp 2] : Array ResultVar).toList⟩
theorem fnok27 : FnOk Go.Proofs.Tryz.prog 27 fi27 := FnOk.of (n := 5) (b := Go.Proofs.Tryz.f27.body) (rs := #[.tmp 2]) Go.Proofs.Tryz.func27 (by kernel_rfl) (by kernel_rfl) (by kernel_rfl) (by kernel_rfl)
noncomputable def fi28 : FI := ⟨75, Go.Proofs.Tryz.f28.body, (#[.tmp 4] : Array ResultVar).toList⟩
theorem fnok28 : FnOk Go.Proofs.Tryz.prog 28 fi28 := FnOk.of (n := 75) (b := Go.Proofs.Tryz.f28.body) (rs := #[.tmp 4]) Go.Proofs.Tryz.func28 (by kernel_rfl) (by kernel_rfl) (by kernel_rfl) (by kernel_rfl)
noncomputable def fi29 : FI := ⟨112, Go.Proofs.Tryz.f29.body, (#[.tmp 2, .tmp 3] : Array ResultVar).toList⟩
theorem fnok29 : FnOk Go.Proofs.Tryz.prog 29 fi29 := FnOk.of (n := 112) (b := Go.Proofs.Tryz.f29.body) (rs := #[.tmp 2, .tmp 3]) Go.Proofs.Tryz.func29 (by kernel_rfl) (by kernel_rfl) (by kernel_rfl) (by kernel_rfl)
noncomputable def fi30 : FI := ⟨29, Go.Proofs.Tryz.f30.body, (#[.tmp 2] : Array ResultVar).toList⟩
theorem fnok30 : FnOk Go.Proofs.Tryz.prog 30 fi30 := FnOk.of (n := 29) (b := Go.Proofs.Tryz.f30.body) (rs := #[.tmp 2]) Go.Proofs.Tryz.func30 (by kernel_rfl) (by kernel_rfl) (by kernel_rfl) (by kernel_rfl)
noncomputable def fi31 : FI := ⟨38, Go.Proofs.Tryz.f31.body, (#[.tmp 4] : Array ResultVar).toList⟩
theorem fnok31 : FnOk Go.Proofs.Tryz.prog 31 fi31 := FnOk.of (n := 38) (b := Go.Proofs.Tryz.f31.body) (rs := #[.tmp 4]) Go.Proofs.Tryz.func31 (by kernel_rfl) (by kernel_rfl) (by kernel_rfl) (by kernel_rfl)
noncomputable def fi32 : FI := ⟨7, Go.Proofs.Tryz.f32.body, (#[] : Array ResultVar).toList⟩
theorem fnok32 : FnOk Go.Proofs.Tryz.prog 32 fi32 := FnOk.of (n := 7) (b := Go.Proofs.Tryz.f32.body) (rs := #[]) Go.Proofs.Tryz.func32 (by kernel_rfl) (by kernel_rfl) (by kernel_rfl) (by kernel_rfl)
noncomputable def fi33 : FI := ⟨55, Go.Proofs.Tryz.f33.body, (#[] : Array ResultVar).toList⟩
theorem fnok33 : FnOk Go.Proofs.Tryz.prog 33 fi33 := FnOk.of (n := 55) (b := Go.Proofs.Tryz.f33.body) (rs := #[]) Go.Proofs.Tryz.func33 (by kernel_rfl) (by kernel_rfl) (by kernel_rfl) (by kernel_rfl)
noncomputable def fi34 : FI := ⟨64, Go.Proofs.Tryz.f34.body, (#[] : Array ResultVar).toList⟩
theorem fnok34 : FnOk Go.Proofs.Tryz.prog 34 fi34 := FnOk.of (n := 64) (b := Go.Proofs.Tryz.f34.body) (rs := #[]) Go.Proofs.Tryz.func34 (by kernel_rfl) (by kernel_rfl) (by kernel_rfl) (by kernel_rfl)
noncomputable def fi35 : FI := ⟨42, Go.Proofs.Tryz.f35.body, (#[] : Array ResultVar).toList⟩
theorem fnok35 : FnOk Go.Proofs.Tryz.prog 35 fi35 := FnOk.of (n := 42) (b := Go.Proofs.Tryz.f35.body) (rs := #[]) Go.Proofs.Tryz.func35 (by kernel_rfl) (by kernel_rfl) (by kernel_rfl) (by kernel_rfl)
noncomputable def fi36 : FI := ⟨68, Go.Proofs.Tryz.f36.body, (#[] : Array ResultVar).toList⟩
theorem fnok36 : FnOk Go.Proofs.Tryz.prog 36 fi36 := FnOk.of (n := 68) (b := Go.Proofs.Tryz.f36.body) (rs := #[]) Go.Proofs.Tryz.func36 (by kernel_rfl) (by kernel_rfl) (by kernel_rfl) (by kernel_rfl)
noncomputable def fi37 : FI := ⟨12, Go.Proofs.Tryz.f37.body, (#[] : Array ResultVar).toList⟩
theorem fnok37 : FnOk Go.Proofs.Tryz.prog 37 fi37 := FnOk.of (n := 12) (b := Go.Proofs.Tryz.f37.body) (rs := #[]) Go.Proofs.Tryz.func37 (by kernel_rfl) (by kernel_rfl) (by kernel_rfl) (by kernel_rfl)
noncomputable def fi38 : FI := ⟨38, Go.Proofs.Tryz.f38.body, (#[] : Array ResultVar).toList⟩
theorem fnok38 : FnOk Go.Proofs.Tryz.prog 38 fi38 := FnOk.of (n := 38) (b := Go.Proofs.Tryz.f38.body) (rs := #[]) Go.Proofs.Tryz.func38 (by kernel_rfl) (by kernel_rfl) (by kernel_rfl) (by kernel_rfl)
noncomputable def fi39 : FI := ⟨2, Go.Proofs.Tryz.f39.body, (#[] : Array ResultVar).toList⟩
theorem fnok39 : FnOk Go.Proofs.Tryz.prog 39 fi39 := FnOk.of (n := 2) (b := Go.Proofs.Tryz.f39.body) (rs := #[]) Go.Proofs.Tryz.func39 (by kernel_rfl) (by kernel_rfl) (by kernel_rfl) (by kernel_rfl)
noncomputable def fi40 : FI := ⟨10, Go.Proofs.Tryz.f40.body, (#[] : Array ResultVar).toList⟩
theorem fnok40 : FnOk Go.Proofs.Tryz.prog 40 fi40 := FnOk.of (n := 10) (b := Go.Proofs.Tryz.f40.body) (rs := #[]) Go.Proofs.Tryz.func40 (by kernel_rfl) (by kernel_rfl) (by kernel_rfl) (by kernel_rfl)
noncomputable def fi41 : FI := ⟨18, Go.Proofs.Tryz.f41.body, (#[] : Array ResultVar).toList⟩
theorem fnok41 : FnOk Go.Proofs.Tryz.prog 41 fi41 := FnOk.of (n := 18) (b := Go.Proofs.Tryz.f41.body) (rs := #[]) Go.Proofs.Tryz.func41 (by kernel_rfl) (by kernel_rfl) (by kernel_rfl) (by kernel_rfl)
noncomputable def fi42 : FI := ⟨43, Go.Proofs.Tryz.f42.body, (#[.tmp 6] : Array ResultVar).toList⟩
theorem fnok42 : FnOk Go.Proofs.Tryz.prog 42 fi42 := FnOk.of (n := 43) (b := Go.Proofs.Tryz.f42.body) (rs := #[.tmp 6]) Go.Proofs.Tryz.func42 (by kernel_rfl) (by kernel_rfl) (by kernel_rfl) (by kernel_rfl)
noncomputable def fi43 : FI := ⟨29, Go.Proofs.Tryz.f43.body, (#[.tmp 2] : Array ResultVar).toList⟩
theorem fnok43 : FnOk Go.Proofs.Tryz.prog 43 fi43 := FnOk.of (n := 29) (b := Go.Proofs.Tryz.f43.body) (rs := #[.tmp 2]) Go.Proofs.Tryz.func43 (by kernel_rfl) (by kernel_rfl) (by kernel_rfl) (by kernel_rfl)
noncomputable def fi44 : FI := ⟨18, Go.Proofs.Tryz.f44.body, (#[.tmp 4] : Array ResultVar).toList⟩
theorem fnok44 : FnOk Go.Proofs.Tryz.prog 44 fi44 := FnOk.of (n := 18) (b := Go.Proofs.Tryz.f44.body) (rs := #[.tmp 4]) Go.Proofs.Tryz.func44 (by kernel_rfl) (by kernel_rfl) (by kernel_rfl) (by kernel_rfl)
noncomputable def fi45 : FI := ⟨17, Go.Proofs.Tryz.f45.body, (#[.tmp 2] : Array ResultVar).toList⟩
theorem fnok45 : FnOk Go.Proofs.Tryz.prog 45 fi45 := FnOk.of (n := 17) (b := Go.Proofs.Tryz.f45.body) (rs := #[.tmp 2]) Go.Proofs.Tryz.func45 (by kernel_rfl) (by kernel_rfl) (by kernel_rfl) (by kernel_rfl)
noncomputable def fi46 : FI := ⟨9, Go.Proofs.Tryz.f46.body, (#[.tmp 2] : Array ResultVar).toList⟩
theorem fnok46 : FnOk Go.Proofs.Tryz.prog 46 fi46 := FnOk.of (n := 9) (b := Go.Proofs.Tryz.f46.body) (rs := #[.tmp 2]) Go.Proofs.Tryz.func46 (by kernel_rfl) (by kernel_rfl) (by kernel_rfl) (by kernel_rfl)
noncomputable def fi47 : FI := ⟨21, Go.Proofs.Tryz.f47.body, (#[] : Array ResultVar).toList⟩
theorem fnok47 : FnOk Go.Proofs.Tryz.prog 47 fi47 := FnOk.of (n := 21) (b := Go.Proofs.Tryz.f47.body) (rs := #[]) Go.Proofs.Tryz.func47 (by kernel_rfl) (by kernel_rfl) (by kernel_rfl) (by kernel_rfl)
noncomputable def fi48 : FI := ⟨154, Go.Proofs.Tryz.f48.body, (#[.cell 2 32, .tmp 3] : Array ResultVar).toList⟩
theorem fnok48 : FnOk Go.Proofs.Tryz.prog 48 fi48 := FnOk.of (n := 154) (b := Go.Proofs.Tryz.f48.body) (rs := #[.cell 2 32, .tmp 3]) Go.Proofs.Tryz.func48 (by kernel_rfl) (by kernel_rfl) (by kernel_rfl) (by kernel_rfl)
noncomputable def fi49 : FI := ⟨72, Go.Proofs.Tryz.f49.body, (#[] : Array ResultVar).toList⟩
theorem fnok49 : FnOk Go.Proofs.Tryz.prog 49 fi49 := FnOk.of (n := 72) (b := Go.Proofs.Tryz.f49.body) (rs := #[]) Go.Proofs.Tryz.func49 (by kernel_rfl) (by kernel_rfl) (by kernel_rfl) (by kernel_rfl)
noncomputable def fi50 : FI := ⟨94, Go.Proofs.Tryz.f50.body, (#[] : Array ResultVar).toList⟩
theorem fnok50 : FnOk Go.Proofs.Tryz.prog 50 fi50 := FnOk.of (n := 94) (b := Go.Proofs.Tryz.f50.body) (rs := #[]) Go.Proofs.Tryz.func50 (by kernel_rfl) (by kernel_rfl) (by kernel_rfl) (by kernel_rfl)
noncomputable def fi51 : FI := ⟨9, Go.Proofs.Tryz.f51.body, (#[.tmp 4] : Array ResultVar).toList⟩
theorem fnok51 : FnOk Go.Proofs.Tryz.prog 51 fi51 := FnOk.of (n := 9) (b := Go.Proofs.Tryz.f51.body) (rs := #[.tmp 4]) Go.Proofs.Tryz.func51 (by kernel_rfl) (by kernel_rfl) (by kernel_rfl) (by kernel_rfl)
noncomputable def fi52 : FI := ⟨9, Go.Proofs.Tryz.f52.body, (#[.tmp 2] : Array ResultVar).toList⟩
theorem fnok52 : FnOk Go.Proofs.Tryz.prog 52 fi52 := FnOk.of (n := 9) (b := Go.Proofs.Tryz.f52.body) (rs := #[.tmp 2]) Go.Proofs.Tryz.func52 (by kernel_rfl) (by kernel_rfl) (by kernel_rfl) (by kernel_rfl)
noncomputable def fi53 : FI := ⟨9, Go.Proofs.Tryz.f53.body, (#[.tmp 4] : Array ResultVar).toList⟩
theorem fnok53 : FnOk Go.Proofs.Tryz.prog 53 fi53 := FnOk.of (n := 9) (b := Go.Proofs.Tryz.f53.body) (rs := #[.tmp 4]) Go.Proofs.Tryz.func53 (by kernel_rfl) (by kernel_rfl) (by kernel_rfl) (by kernel_rfl)
noncomputable def fi54 : FI := ⟨6, Go.Proofs.Tryz.f54.body, (#[.tmp 2] : Array ResultVar).toList⟩
theorem fnok54 : FnOk Go.Proofs.Tryz.prog 54 fi54 := FnOk.of (n := 6) (b := Go.Proofs.Tryz.f54.body) (rs := #[.tmp 2]) Go.Proofs.Tryz.func54 (by kernel_rfl) (by kernel_rfl) (by kernel_rfl) (by kernel_rfl)
noncomputable def fi55 : FI := ⟨29, Go.Proofs.Tryz.f55.body, (#[.tmp 2] : Array ResultVar).toList⟩
theorem fnok55 : FnOk Go.Proofs.Tryz.prog 55 fi55 := FnOk.of (n := 29) (b := Go.Proofs.Tryz.f55.body) (rs := #[.tmp 2]) Go.Proofs.Tryz.func55 (by kernel_rfl) (by kernel_rfl) (by kernel_rfl) (by kernel_rfl)
noncomputable def fi56 : FI := ⟨5, Go.Proofs.Tryz.f56.body, (#[.tmp 2] : Array ResultVar).toList⟩
theorem fnok56 : FnOk Go.Proofs.Tryz.prog 56 fi56 := FnOk.of (n := 5) (b := Go.Proofs.Tryz.f56.body) (rs := #[.tmp 2]) Go.Proofs.Tryz.func56 (by kernel_rfl) (by kernel_rfl) (by kernel_rfl) (by kernel_rfl)
noncomputable def fi57 : FI := ⟨25, Go.Proofs.Tryz.f57.body, (#[] : Array ResultVar).toList⟩
theorem fnok57 : FnOk Go.Proofs.Tryz.prog 57 fi57 := FnOk.of (n := 25) (b := Go.Proofs.Tryz.f57.body) (rs := #[]) Go.Proofs.Tryz.func57 (by kernel_rfl) (by kernel_rfl) (by kernel_rfl) (by kernel_rfl)
noncomputable def fi58 : FI := ⟨19, Go.Proofs.Tryz.f58.body, (#[.tmp 4, .tmp 5] : Array ResultVar).toList⟩
theorem fnok58 : FnOk Go.Proofs.Tryz.prog 58 fi58 := FnOk.of (n := 19) (b := Go.Proofs.Tryz.f58.body) (rs := #[.tmp 4, .tmp 5]) Go.Proofs.Tryz.func58 (by kernel_rfl) (by kernel_rfl) (by kernel_rfl) (by kernel_rfl)
noncomputable def fi59 : FI := ⟨14, Go.Proofs.Tryz.f59.body, (#[.tmp 2] : Array ResultVar).toList⟩
theorem fnok59 : FnOk Go.Proofs.Tryz.prog 59 fi59 := FnOk.of (n := 14) (b := Go.Proofs.Tryz.f59.body) (rs := #[.tmp 2]) Go.Proofs.Tryz.func59 (by kernel_rfl) (by kernel_rfl) (by kernel_rfl) (by kernel_rfl)
noncomputable def fi60 : FI := ⟨133, Go.Proofs.Tryz.f60.body, (#[.cell 4 41, .tmp 5] : Array ResultVar).toList⟩
theorem fnok60 : FnOk Go.Proofs.Tryz.prog 60 fi60 := FnOk.of (n := 133) (b := Go.Proofs.Tryz.f60.body) (rs := #[.cell 4 41, .tmp 5]) Go.Proofs.Tryz.func60 (by kernel_rfl) (by kernel_rfl) (by kernel_rfl) (by kernel_rfl)
noncomputable def fi61 : FI := ⟨36, Go.Proofs.Tryz.f61.body, (#[.tmp 6] : Array ResultVar).toList⟩
theorem fnok61 : FnOk Go.Proofs.Tryz.prog 61 fi61 := FnOk.of (n := 36) (b := Go.Proofs.Tryz.f61.body) (rs := #[.tmp 6]) Go.Proofs.Tryz.func61 (by kernel_rfl) (by kernel_rfl) (by kernel_rfl) (by kernel_rfl)
noncomputable def fi62 : FI := ⟨34, Go.Proofs.Tryz.f62.body, (#[] : Array ResultVar).toList⟩
theorem fnok62 : FnOk Go.Proofs.Tryz.prog 62 fi62 := FnOk.of (n := 34) (b := Go.Proofs.Tryz.f62.body) (rs := #[]) Go.Proofs.Tryz.func62 (by kernel_rfl) (by kernel_rfl) (by kernel_rfl) (by kernel_rfl)
noncomputable def fi63 : FI := ⟨28, Go.Proofs.Tryz.f63.body, (#[] : Array ResultVar).toList⟩
theorem fnok63 : FnOk Go.Proofs.Tryz.prog 63 fi63 := FnOk.of (n := 28) (b := Go.Proofs.Tryz.f63.body) (rs := #[]) Go.Proofs.Tryz.func63 (by kernel_rfl) (by kernel_rfl) (by kernel_rfl) (by kernel_rfl)
noncomputable def fi64 : FI := ⟨20, Go.Proofs.Tryz.f64.body, (#[] : Array ResultVar).toList⟩
theorem fnok64 : FnOk Go.Proofs.Tryz.prog 64 fi64 := FnOk.of (n := 20) (b := Go.Proofs.Tryz.f64.body) (rs := #[]) Go.Proofs.Tryz.func64 (by kernel_rfl) (by kernel_rfl) (by kernel_rfl) (by kernel_rfl)
noncomputable def fi65 : FI := ⟨163, Go.Proofs.Tryz.f65.body, (#[.cell 2 32, .tmp 3] : Array ResultVar).toList⟩
theorem fnok65 : FnOk Go.Proofs.Tryz.prog 65 fi65 := FnOk.of (n := 163) (b := Go.Proofs.Tryz.f65.body) (rs := #[.cell 2 32, .tmp 3]) Go.Proofs.Tryz.func65 (by kernel_rfl) (by kernel_rfl) (by kernel_rfl) (by kernel_rfl)
noncomputable def fi66 : FI := ⟨6, Go.Proofs.Tryz.f66.body, (#[.tmp 2] : Array ResultVar).toList⟩
theorem fnok66 : FnOk Go.Proofs.Tryz.prog 66 fi66 := FnOk.of (n := 6) (b := Go.Proofs.Tryz.f66.body) (rs := #[.tmp 2]) Go.Proofs.Tryz.func66 (by kernel_rfl) (by kernel_rfl) (by kernel_rfl) (by kernel_rfl)
noncomputable def fi67 : FI := ⟨165, Go.Proofs.Tryz.f67.body, (#[.cell 4 30] : Array ResultVar).toList⟩
theorem fnok67 : FnOk Go.Proofs.Tryz.prog 67 fi67 := FnOk.of (n := 165) (b := Go.Proofs.Tryz.f67.body) (rs := #[.cell 4 30]) Go.Proofs.Tryz.func67 (by kernel_rfl) (by kernel_rfl) (by kernel_rfl) (by kernel_rfl)
noncomputable def fi68 : FI := ⟨9, Go.Proofs.Tryz.f68.body, (#[.tmp 2] : Array ResultVar).toList⟩
theorem fnok68 : FnOk Go.Proofs.Tryz.prog 68 fi68 := FnOk.of (n := 9) (b := Go.Proofs.Tryz.f68.body) (rs := #[.tmp 2]) Go.Proofs.Tryz.func68 (by kernel_rfl) (by kernel_rfl) (by kernel_rfl) (by kernel_rfl)
noncomputable def fi69 : FI := ⟨16, Go.Proofs.Tryz.f69.body, (#[.tmp 2] : Array ResultVar).toList⟩
theorem fnok69 : FnOk Go.Proofs.Tryz.prog 69 fi69 := FnOk.of (n := 16) (b := Go.Proofs.Tryz.f69.body) (rs := #[.tmp 2]) Go.Proofs.Tryz.func69 (by kernel_rfl) (by kernel_rfl) (by kernel_rfl) (by kernel_rfl)
noncomputable def fi70 : FI := ⟨20, Go.Proofs.Tryz.f70.body, (#[] : Array ResultVar).toList⟩
theorem fnok70 : FnOk Go.Proofs.Tryz.prog 70 fi70 := FnOk.of (n := 20) (b := Go.Proofs.Tryz.f70.body) (rs := #[]) Go.Proofs.Tryz.func70 (by kernel_rfl) (by kernel_rfl) (by kernel_rfl) (by kernel_rfl)
noncomputable def fi71 : FI := ⟨80, Go.Proofs.Tryz.f71.body, (#[.cell 2 54] : Array ResultVar).toList⟩
theorem fnok71 : FnOk Go.Proofs.Tryz.prog 71 fi71 := FnOk.of (n := 80) (b := Go.Proofs.Tryz.f71.body) (rs := #[.cell 2 54]) Go.Proofs.Tryz.func71 (by kernel_rfl) (by kernel_rfl) (by kernel_rfl) (by kernel_rfl)
noncomputable def fi72 : FI := ⟨7, Go.Proofs.Tryz.f72.body, (#[] : Array ResultVar).toList⟩
theorem fnok72 : FnOk Go.Proofs.Tryz.prog 72 fi72 := FnOk.of (n := 7) (b := Go.Proofs.Tryz.f72.body) (rs := #[]) Go.Proofs.Tryz.func72 (by kernel_rfl) (by kernel_rfl) (by kernel_rfl) (by kernel_rfl)
noncomputable def fi73 : FI := ⟨17, Go.Proofs.Tryz.f73.body, (#[.tmp 2] : Array ResultVar).toList⟩
theorem fnok73 : FnOk Go.Proofs.Tryz.prog 73 fi73 := FnOk.of (n := 17) (b := Go.Proofs.Tryz.f73.body) (rs := #[.tmp 2]) Go.Proofs.Tryz.func73 (by kernel_rfl) (by kernel_rfl) (by kernel_rfl) (by kernel_rfl)
noncomputable def fi74 : FI := ⟨11, Go.Proofs.Tryz.f74.body, (#[.tmp 4, .tmp 5] : Array ResultVar).toList⟩
theorem fnok74 : FnOk Go.Proofs.Tryz.prog 74 fi74 := FnOk.of (n := 11) (b := Go.Proofs.Tryz.f74.body) (rs := #[.tmp 4, .tmp 5]) Go.Proofs.Tryz.func74 (by kernel_rfl) (by kernel_rfl) (by kernel_rfl) (by kernel_rfl)
noncomputable def fi75 : FI := ⟨10, Go.Proofs.Tryz.f75.body, (#[] : Array ResultVar).toList⟩
theorem fnok75 : FnOk Go.Proofs.Tryz.prog 75 fi75 := FnOk.of (n := 10) (b := Go.Proofs.Tryz.f75.body) (rs := #[]) Go.Proofs.Tryz.func75 (by kernel_rfl) (by kernel_rfl) (by kernel_rfl) (by kernel_rfl)
noncomputable def fi76 : FI := ⟨53, Go.Proofs.Tryz.f76.body, (#[.tmp 2, .tmp 3] : Array ResultVar).toList⟩
theorem fnok76 : FnOk Go.Proofs.Tryz.prog 76 fi76 := FnOk.of (n := 53) (b := Go.Proofs.Tryz.f76.body) (rs := #[.tmp 2, .tmp 3]) Go.Proofs.Tryz.func76 (by kernel_rfl) (by kernel_rfl) (by kernel_rfl) (by kernel_rfl)
noncomputable def fi77 : FI := ⟨18, Go.Proofs.Tryz.f77.body, (#[.tmp 2] : Array ResultVar).toList⟩
theorem fnok77 : FnOk Go.Proofs.Tryz.prog 77 fi77 := FnOk.of (n := 18) (b := Go.Proofs.Tryz.f77.body) (rs := #[.tmp 2]) Go.Proofs.Tryz.func77 (by kernel_rfl) (by kernel_rfl) (by kernel_rfl) (by kernel_rfl)
noncomputable def fi78 : FI := ⟨32, Go.Proofs.Tryz.f78.body, (#[.tmp 2] : Array ResultVar).toList⟩
theorem fnok78 : FnOk Go.Proofs.Tryz.prog 78 fi78 := FnOk.of (n := 32) (b := Go.Proofs.Tryz.f78.body) (rs := #[.tmp 2]) Go.Proofs.Tryz.func78 (by kernel_rfl) (by kernel_rfl) (by kernel_rfl) (by kernel_rfl)
noncomputable def fi79 : FI := ⟨68, Go.Proofs.Tryz.f79.body, (#[.tmp 6, .tmp 7] : Array ResultVar).toList⟩
theorem fnok79 : FnOk Go.Proofs.Tryz.prog 79 fi79 := FnOk.of (n := 68) (b := Go.Proofs.Tryz.f79.body) (rs := #[.tmp 6, .tmp 7]) Go.Proofs.Tryz.func79 (by kernel_rfl) (by kernel_rfl) (by kernel_rfl) (by kernel_rfl)
noncomputable def fi80 : FI := ⟨240, Go.Proofs.Tryz.f80.body, (#[.cell 4 30] : Array ResultVar).toList⟩
theorem fnok80 : FnOk Go.Proofs.Tryz.prog 80 fi80 := FnOk.of (n := 240) (b := Go.Proofs.Tryz.f80.body) (rs := #[.cell 4 30]) Go.Proofs.Tryz.func80 (by kernel_rfl) (by kernel_rfl) (by kernel_rfl) (by kernel_rfl)
noncomputable def fi81 : FI := ⟨6, Go.Proofs.Tryz.f81.body, (#[.tmp 2] : Array ResultVar).toList⟩
theorem fnok81 : FnOk Go.Proofs.Tryz.prog 81 fi81 := FnOk.of (n := 6) (b := Go.Proofs.Tryz.f81.body) (rs := #[.tmp 2]) Go.Proofs.Tryz.func81 (by kernel_rfl) (by kernel_rfl) (by kernel_rfl) (by kernel_rfl)
noncomputable def fi82 : FI := ⟨27, Go.Proofs.Tryz.f82.body, (#[] : Array ResultVar).toList⟩
theorem fnok82 : FnOk Go.Proofs.Tryz.prog 82 fi82 := FnOk.of (n := 27) (b := Go.Proofs.Tryz.f82.body) (rs := #[]) Go.Proofs.Tryz.func82 (by kernel_rfl) (by kernel_rfl) (by kernel_rfl) (by kernel_rfl)
noncomputable def fi83 : FI := ⟨148, Go.Proofs.Tryz.f83.body, (#[.cell 2 54, .tmp 3] : Array ResultVar).toList⟩
theorem fnok83 : FnOk Go.Proofs.Tryz.prog 83 fi83 := FnOk.of (n := 148) (b := Go.Proofs.Tryz.f83.body) (rs := #[.cell 2 54, .tmp 3]) Go.Proofs.Tryz.func83 (by kernel_rfl) (by kernel_rfl) (by kernel_rfl) (by kernel_rfl)
noncomputable def fi84 : FI := ⟨19, Go.Proofs.Tryz.f84.body, (#[.tmp 4] : Array ResultVar).toList⟩
theorem fnok84 : FnOk Go.Proofs.Tryz.prog 84 fi84 := FnOk.of (n := 19) (b := Go.Proofs.Tryz.f84.body) (rs := #[.tmp 4]) Go.Proofs.Tryz.func84 (by kernel_rfl) (by kernel_rfl) (by kernel_rfl) (by kernel_rfl)
noncomputable def fi85 : FI := ⟨19, Go.Proofs.Tryz.f85.body, (#[.tmp 4] : Array ResultVar).toList⟩
theorem fnok85 : FnOk Go.Proofs.Tryz.prog 85 fi85 := FnOk.of (n := 19) (b := Go.Proofs.Tryz.f85.body) (rs := #[.tmp 4]) Go.Proofs.Tryz.func85 (by kernel_rfl) (by kernel_rfl) (by kernel_rfl) (by kernel_rfl)
noncomputable def fi86 : FI := ⟨8, Go.Proofs.Tryz.f86.body, (#[.tmp 4] : Array ResultVar).toList⟩
theorem fnok86 : FnOk Go.Proofs.Tryz.prog 86 fi86 := FnOk.of (n := 8) (b := Go.Proofs.Tryz.f86.body) (rs := #[.tmp 4]) Go.Proofs.Tryz.func86 (by kernel_rfl) (by kernel_rfl) (by kernel_rfl) (by kernel_rfl)
noncomputable def fi87 : FI := ⟨54, Go.Proofs.Tryz.f87.body, (#[.tmp 4] : Array ResultVar).toList⟩
theorem fnok87 : FnOk Go.Proofs.Tryz.prog 87 fi87 := FnOk.of (n := 54) (b := Go.Proofs.Tryz.f87.body) (rs := #[.tmp 4]) Go.Proofs.Tryz.func87 (by kernel_rfl) (by kernel_rfl) (by kernel_rfl) (by kernel_rfl)
noncomputable def fi88 : FI := ⟨20, Go.Proofs.Tryz.f88.body, (#[] : Array ResultVar).toList⟩
theorem fnok88 : FnOk Go.Proofs.Tryz.prog 88 fi88 := FnOk.of (n := 20) (b := Go.Proofs.Tryz.f88.body) (rs := #[]) Go.Proofs.Tryz.func88 (by kernel_rfl) (by kernel_rfl) (by kernel_rfl) (by kernel_rfl)
noncomputable def fi89 : FI := ⟨30, Go.Proofs.Tryz.f89.body, (#[] : Array ResultVar).toList⟩
theorem fnok89 : FnOk Go.Proofs.Tryz.prog 89 fi89 := FnOk.of (n := 30) (b := Go.Proofs.Tryz.f89.body) (rs := #[]) Go.Proofs.Tryz.func89 (by kernel_rfl) (by kernel_rfl) (by kernel_rfl) (by kernel_rfl)
noncomputable def fi90 : FI := ⟨21, Go.Proofs.Tryz.f90.body, (#[.tmp 2] : Array ResultVar).toList⟩
theorem fnok90 : FnOk Go.Proofs.Tryz.prog 90 fi90 := FnOk.of (n := 21) (b := Go.Proofs.Tryz.f90.body) (rs := #[.tmp 2]) Go.Proofs.Tryz.func90 (by kernel_rfl) (by kernel_rfl) (by kernel_rfl) (by kernel_rfl)
noncomputable def fi91 : FI := ⟨38, Go.Proofs.Tryz.f91.body, (#[.tmp 4, .tmp 5] : Array ResultVar).toList⟩
theorem fnok91 : FnOk Go.Proofs.Tryz.prog 91 fi91 := FnOk.of (n := 38) (b := Go.Proofs.Tryz.f91.body) (rs := #[.tmp 4, .tmp 5]) Go.Proofs.Tryz.func91 (by kernel_rfl) (by kernel_rfl) (by kernel_rfl) (by kernel_rfl)
noncomputable def fi92 : FI := ⟨23, Go.Proofs.Tryz.f92.body, (#[.tmp 2] : Array ResultVar).toList⟩
theorem fnok92 : FnOk Go.Proofs.Tryz.prog 92 fi92 := FnOk.of (n := 23) (b := Go.Proofs.Tryz.f92.body) (rs := #[.tmp 2]) Go.Proofs.Tryz.func92 (by kernel_rfl) (by kernel_rfl) (by kernel_rfl) (by kernel_rfl)
noncomputable def fi93 : FI := ⟨54, Go.Proofs.Tryz.f93.body, (#[.tmp 6, .tmp 7] : Array ResultVar).toList⟩
theorem fnok93 : FnOk Go.Proofs.Tryz.prog 93 fi93 := FnOk.of (n := 54) (b := Go.Proofs.Tryz.f93.body) (rs := #[.tmp 6, .tmp 7]) Go.Proofs.Tryz.func93 (by kernel_rfl) (by kernel_rfl) (by kernel_rfl) (by kernel_rfl)
noncomputable def fi94 : FI := ⟨14, Go.Proofs.Tryz.f94.body, (#[] : Array ResultVar).toList⟩
theorem fnok94 : FnOk Go.Proofs.Tryz.prog 94 fi94 := FnOk.of (n := 14) (b := Go.Proofs.Tryz.f94.body) (rs := #[]) Go.Proofs.Tryz.func94 (by kernel_rfl) (by kernel_rfl) (by kernel_rfl) (by kernel_rfl)
noncomputable def fi95 : FI := ⟨16, Go.Proofs.Tryz.f95.body, (#[.tmp 2] : Array ResultVar).toList⟩
theorem fnok95 : FnOk Go.Proofs.Tryz.prog 95 fi95 := FnOk.of (n := 16) (b := Go.Proofs.Tryz.f95.body) (rs := #[.tmp 2]) Go.Proofs.Tryz.func95 (by kernel_rfl) (by kernel_rfl) (by kernel_rfl) (by kernel_rfl)
noncomputable def fi96 : FI := ⟨22, Go.Proofs.Tryz.f96.body, (#[.tmp 2, .tmp 3] : Array ResultVar).toList⟩
theorem fnok96 : FnOk Go.Proofs.Tryz.prog 96 fi96 := FnOk.of (n := 22) (b := Go.Proofs.Tryz.f96.body) (rs := #[.tmp 2, .tmp 3]) Go.Proofs.Tryz.func96 (by kernel_rfl) (by kernel_rfl) (by kernel_rfl) (by kernel_rfl)
noncomputable def fi97 : FI := ⟨6, Go.Proofs.Tryz.f97.body, (#[.cell 2 30] : Array ResultVar).toList⟩
theorem fnok97 : FnOk Go.Proofs.Tryz.prog 97 fi97 := FnOk.of (n := 6) (b := Go.Proofs.Tryz.f97.body) (rs := #[.cell 2 30]) Go.Proofs.Tryz.func97 (by kernel_rfl) (by kernel_rfl) (by kernel_rfl) (by kernel_rfl)
noncomputable def fi98 : FI := ⟨15, Go.Proofs.Tryz.f98.body, (#[.cell 2 30] : Array ResultVar).toList⟩
theorem fnok98 : FnOk Go.Proofs.Tryz.prog 98 fi98 := FnOk.of (n := 15) (b := Go.Proofs.Tryz.f98.body) (rs := #[.cell 2 30]) Go.Proofs.Tryz.func98 (by kernel_rfl) (by kernel_rfl) (by kernel_rfl) (by kernel_rfl)
noncomputable def fi99 : FI := ⟨24, Go.Proofs.Tryz.f99.body, (#[.tmp 2] : Array ResultVar).toList⟩
theorem fnok99 : FnOk Go.Proofs.Tryz.prog 99 fi99 := FnOk.of (n := 24) (b := Go.Proofs.Tryz.f99.body) (rs := #[.tmp 2]) Go.Proofs.Tryz.func99 (by kernel_rfl) (by kernel_rfl) (by kernel_rfl) (by kernel_rfl)
noncomputable def fi100 : FI := ⟨46, Go.Proofs.Tryz.f100.body, (#[.cell 2 26, .cell 3 35] : Array ResultVar).toList⟩
theorem fnok100 : FnOk Go.Proofs.Tryz.prog 100 fi100 := FnOk.of (n := 46) (b := Go.Proofs.Tryz.f100.body) (rs := #[.cell 2 26, .cell 3 35]) Go.Proofs.Tryz.func100 (by kernel_rfl) (by kernel_rfl) (by kernel_rfl) (by kernel_rfl)
noncomputable def fi101 : FI := ⟨71, Go.Proofs.Tryz.f101.body, (#[.tmp 6] : Array ResultVar).toList⟩
theorem fnok101 : FnOk Go.Proofs.Tryz.prog 101 fi101 := FnOk.of (n := 71) (b := Go.Proofs.Tryz.f101.body) (rs := #[.tmp 6]) Go.Proofs.Tryz.func101 (by kernel_rfl) (by kernel_rfl) (by kernel_rfl) (by kernel_rfl)
noncomputable def fi102 : FI := ⟨10, Go.Proofs.Tryz.f102.body, (#[.tmp 2] : Array ResultVar).toList⟩
theorem fnok102 : FnOk Go.Proofs.Tryz.prog 102 fi102 := FnOk.of (n := 10) (b := Go.Proofs.Tryz.f102.body) (rs := #[.tmp 2]) Go.Proofs.Tryz.func102 (by kernel_rfl) (by kernel_rfl) (by kernel_rfl) (by kernel_rfl)
noncomputable def fi103 : FI := ⟨34, Go.Proofs.Tryz.f103.body, (#[.tmp 2, .tmp 3] : Array ResultVar).toList⟩
theorem fnok103 : FnOk Go.Proofs.Tryz.prog 103 fi103 := FnOk.of (n := 34) (b := Go.Proofs.Tryz.f103.body) (rs := #[.tmp 2, .tmp 3]) Go.Proofs.Tryz.func103 (by kernel_rfl) (by kernel_rfl) (by kernel_rfl) (by kernel_rfl)
noncomputable def fi104 : FI := ⟨42, Go.Proofs.Tryz.f104.body, (#[.cell 2 54, .tmp 3] : Array ResultVar).toList⟩
theorem fnok104 : FnOk Go.Proofs.Tryz.prog 104 fi104 := FnOk.of (n := 42) (b := Go.Proofs.Tryz.f104.body) (rs := #[.cell 2 54, .tmp 3]) Go.Proofs.Tryz.func104 (by kernel_rfl) (by kernel_rfl) (by kernel_rfl) (by kernel_rfl)
noncomputable def fi105 : FI := ⟨77, Go.Proofs.Tryz.f105.body, (#[.cell 2 47, .tmp 3] : Array ResultVar).toList⟩
theorem fnok105 : FnOk Go.Proofs.Tryz.prog 105 fi105 := FnOk.of (n := 77) (b := Go.Proofs.Tryz.f105.body) (rs := #[.cell 2 47, .tmp 3]) Go.Proofs.Tryz.func105 (by kernel_rfl) (by kernel_rfl) (by kernel_rfl) (by kernel_rfl)
noncomputable def fi106 : FI := ⟨60, Go.Proofs.Tryz.f106.body, (#[.tmp 4] : Array ResultVar).toList⟩
theorem fnok106 : FnOk Go.Proofs.Tryz.prog 106 fi106 := FnOk.of (n := 60) (b := Go.Proofs.Tryz.f106.body) (rs := #[.tmp 4]) Go.Proofs.Tryz.func106 (by kernel_rfl) (by kernel_rfl) (by kernel_rfl) (by kernel_rfl)
noncomputable def fi107 : FI := ⟨18, Go.Proofs.Tryz.f107.body, (#[.tmp 4, .tmp 5] : Array ResultVar).toList⟩
theorem fnok107 : FnOk Go.Proofs.Tryz.prog 107 fi107 := FnOk.of (n := 18) (b := Go.Proofs.Tryz.f107.body) (rs := #[.tmp 4, .tmp 5]) Go.Proofs.Tryz.func107 (by kernel_rfl) (by kernel_rfl) (by kernel_rfl) (by kernel_rfl)
noncomputable def fi108 : FI := ⟨36, Go.Proofs.Tryz.f108.body, (#[.tmp 4] : Array ResultVar).toList⟩
theorem fnok108 : FnOk Go.Proofs.Tryz.prog 108 fi108 := FnOk.of (n := 36) (b := Go.Proofs.Tryz.f108.body) (rs := #[.tmp 4]) Go.Proofs.Tryz.func108 (by kernel_rfl) (by kernel_rfl) (by kernel_rfl) (by kernel_rfl)
noncomputable def fi109 : FI := ⟨25, Go.Proofs.Tryz.f109.body, (#[.tmp 2] : Array ResultVar).toList⟩
theorem fnok109 : FnOk Go.Proofs.Tryz.prog 109 fi109 := FnOk.of (n := 25) (b := Go.Proofs.Tryz.f109.body) (rs := #[.tmp 2]) Go.Proofs.Tryz.func109 (by kernel_rfl) (by kernel_rfl) (by kernel_rfl) (by kernel_rfl)
noncomputable def fi110 : FI := ⟨26, Go.Proofs.Tryz.f110.body, (#[.tmp 4] : Array ResultVar).toList⟩
theorem fnok110 : FnOk Go.Proofs.Tryz.prog 110 fi110 := FnOk.of (n := 26) (b := Go.Proofs.Tryz.f110.body) (rs := #[.tmp 4]) Go.Proofs.Tryz.func110 (by kernel_rfl) (by kernel_rfl) (by kernel_rfl) (by kernel_rfl)
noncomputable def fi111 : FI := ⟨15, Go.Proofs.Tryz.f111.body, (#[.tmp 4] : Array ResultVar).toList⟩
theorem fnok111 : FnOk Go.Proofs.Tryz.prog 111 fi111 := FnOk.of (n := 15) (b := Go.Proofs.Tryz.f111.body) (rs := #[.tmp 4]) Go.Proofs.Tryz.func111 (by kernel_rfl) (by kernel_rfl) (by kernel_rfl) (by kernel_rfl)
noncomputable def fi112 : FI := ⟨5, Go.Proofs.Tryz.f112.body, (#[.tmp 2] : Array ResultVar).toList⟩
theorem fnok112 : FnOk Go.Proofs.Tryz.prog 112 fi112 := FnOk.of (n := 5) (b := Go.Proofs.Tryz.f112.body) (rs := #[.tmp 2]) Go.Proofs.Tryz.func112 (by kernel_rfl) (by kernel_rfl) (by kernel_rfl) (by kernel_rfl)
noncomputable def fi113 : FI := ⟨22, Go.Proofs.Tryz.f113.body, (#[.tmp 2, .tmp 3] : Array ResultVar).toList⟩
theorem fnok113 : FnOk Go.Proofs.Tryz.prog 113 fi113 := FnOk.of (n := 22) (b := Go.Proofs.Tryz.f113.body) (rs := #[.tmp 2, .tmp 3]) Go.Proofs.Tryz.func113 (by kernel_rfl) (by kernel_rfl) (by kernel_rfl) (by kernel_rfl)
noncomputable def fi114 : FI := ⟨15, Go.Proofs.Tryz.f114.body, (#[.cell 4 30] : Array ResultVar).toList⟩
theorem fnok114 : FnOk Go.Proofs.Tryz.prog 114 fi114 := FnOk.of (n := 15) (b := Go.Proofs.Tryz.f114.body) (rs := #[.cell 4 30]) Go.Proofs.Tryz.func114 (by kernel_rfl) (by kernel_rfl) (by kernel_rfl) (by kernel_rfl)
noncomputable def fi115 : FI := ⟨6, Go.Proofs.Tryz.f115.body, (#[.cell 2 30] : Array ResultVar).toList⟩
theorem fnok115 : FnOk Go.Proofs.Tryz.prog 115 fi115 := FnOk.of (n := 6) (b := Go.Proofs.Tryz.f115.body) (rs := #[.cell 2 30]) Go.Proofs.Tryz.func115 (by kernel_rfl) (by kernel_rfl) (by kernel_rfl) (by kernel_rfl)
noncomputable def fi116 : FI := ⟨8, Go.Proofs.Tryz.f116.body, (#[.tmp 2] : Array ResultVar).toList⟩
theorem fnok116 : FnOk Go.Proofs.Tryz.prog 116 fi116 := FnOk.of (n := 8) (b := Go.Proofs.Tryz.f116.body) (rs := #[.tmp 2]) Go.Proofs.Tryz.func116 (by kernel_rfl) (by kernel_rfl) (by kernel_rfl) (by kernel_rfl)
noncomputable def fi117 : FI := ⟨79, Go.Proofs.Tryz.f117.body, (#[.tmp 4] : Array ResultVar).toList⟩
theorem fnok117 : FnOk Go.Proofs.Tryz.prog 117 fi117 := FnOk.of (n := 79) (b := Go.Proofs.Tryz.f117.body) (rs := #[.tmp 4]) Go.Proofs.Tryz.func117 (by kernel_rfl) (by kernel_rfl) (by kernel_rfl) (by kernel_rfl)
noncomputable def fi118 : FI := ⟨133, Go.Proofs.Tryz.f118.body, (#[.cell 2 47, .tmp 3] : Array ResultVar).toList⟩
theorem fnok118 : FnOk Go.Proofs.Tryz.prog 118 fi118 := FnOk.of (n := 133) (b := Go.Proofs.Tryz.f118.body) (rs := #[.cell 2 47, .tmp 3]) Go.Proofs.Tryz.func118 (by kernel_rfl) (by kernel_rfl) (by kernel_rfl) (by kernel_rfl)
noncomputable def fi119 : FI := ⟨65, Go.Proofs.Tryz.f119.body, (#[.tmp 2] : Array ResultVar).toList⟩
theorem fnok119 : FnOk Go.Proofs.Tryz.prog 119 fi119 := FnOk.of (n := 65) (b := Go.Proofs.Tryz.f119.body) (rs := #[.tmp 2]) Go.Proofs.Tryz.func119 (by kernel_rfl) (by kernel_rfl) (by kernel_rfl) (by kernel_rfl)
noncomputable def fi120 : FI := ⟨53, Go.Proofs.Tryz.f120.body, (#[.tmp 2, .tmp 3, .tmp 4] : Array ResultVar).toList⟩
theorem fnok120 : FnOk Go.Proofs.Tryz.prog 120 fi120 := FnOk.of (n := 53) (b := Go.Proofs.Tryz.f120.body) (rs := #[.tmp 2, .tmp 3, .tmp 4]) Go.Proofs.Tryz.func120 (by kernel_rfl) (by kernel_rfl) (by kernel_rfl) (by kernel_rfl)
noncomputable def fi121 : FI := ⟨8, Go.Proofs.Tryz.f121.body, (#[.tmp 4] : Array ResultVar).toList⟩
theorem fnok121 : FnOk Go.Proofs.Tryz.prog 121 fi121 := FnOk.of (n := 8) (b := Go.Proofs.Tryz.f121.body) (rs := #[.tmp 4]) Go.Proofs.Tryz.func121 (by kernel_rfl) (by kernel_rfl) (by kernel_rfl) (by kernel_rfl)
noncomputable def fi122 : FI := ⟨15, Go.Proofs.Tryz.f122.body, (#[.tmp 2] : Array ResultVar).toList⟩
theorem fnok122 : FnOk Go.Proofs.Tryz.prog 122 fi122 := FnOk.of (n := 15) (b := Go.Proofs.Tryz.f122.body) (rs := #[.tmp 2]) Go.Proofs.Tryz.func122 (by kernel_rfl) (by kernel_rfl) (by kernel_rfl) (by kernel_rfl)
noncomputable def fi123 : FI := ⟨15, Go.Proofs.Tryz.f123.body, (#[.tmp 2] : Array ResultVar).toList⟩
theorem fnok123 : FnOk Go.Proofs.Tryz.prog 123 fi123 := FnOk.of (n := 15) (b := Go.Proofs.Tryz.f123.body) (rs := #[.tmp 2]) Go.Proofs.Tryz.func123 (by kernel_rfl) (by kernel_rfl) (by kernel_rfl) (by kernel_rfl)
noncomputable def fi124 : FI := ⟨167, Go.Proofs.Tryz.f124.body, (#[] : Array ResultVar).toList⟩
theorem fnok124 : FnOk Go.Proofs.Tryz.prog 124 fi124 := FnOk.of (n := 167) (b := Go.Proofs.Tryz.f124.body) (rs := #[]) Go.Proofs.Tryz.func124 (by kernel_rfl) (by kernel_rfl) (by kernel_rfl) (by kernel_rfl)
noncomputable def fi125 : FI := ⟨102, Go.Proofs.Tryz.f125.body, (#[.tmp 10, .tmp 11] : Array ResultVar).toList⟩
theorem fnok125 : FnOk Go.Proofs.Tryz.prog 125 fi125 := FnOk.of (n := 102) (b := Go.Proofs.Tryz.f125.body) (rs := #[.tmp 10, .tmp 11]) Go.Proofs.Tryz.func125 (by kernel_rfl) (by kernel_rfl) (by kernel_rfl) (by kernel_rfl)
noncomputable def fi126 : FI := ⟨1, none, (#[] : Array ResultVar).toList⟩
theorem fnok126 : FnOk Go.Proofs.Tryz.prog 126 fi126 := FnOk.of (n := 1) (b := none) (rs := #[]) Go.Proofs.Tryz.func126 (by kernel_rfl) (by kernel_rfl) (by kernel_rfl) (by kernel_rfl)
noncomputable def fi127 : FI := ⟨1, none, (#[] : Array ResultVar).toList⟩
theorem fnok127 : FnOk Go.Proofs.Tryz.prog 127 fi127 := FnOk.of (n := 1) (b := none) (rs := #[]) Go.Proofs.Tryz.func127 (by kernel_rfl) (by kernel_rfl) (by kernel_rfl) (by kernel_rfl)
noncomputable def fi128 : FI := ⟨33, Go.Proofs.Tryz.f128.body, (#[.tmp 2, .tmp 3] : Array ResultVar).toList⟩
theorem fnok128 : FnOk Go.Proofs.Tryz.prog 128 fi128 := FnOk.of (n := 33) (b := Go.Proofs.Tryz.f128.body) (rs := #[.tmp 2, .tmp 3]) Go.Proofs.Tryz.func128 (by kernel_rfl) (by kernel_rfl) (by kernel_rfl) (by kernel_rfl)
noncomputable def fi129 : FI := ⟨2, Go.Proofs.Tryz.f129.body, (#[.cell 0 173] : Array ResultVar).toList⟩
theorem fnok129 : FnOk Go.Proofs.Tryz.prog 129 fi129 := FnOk.of (n := 2) (b := Go.Proofs.Tryz.f129.body) (rs := #[.cell 0 173]) Go.Proofs.Tryz.func129 (by kernel_rfl) (by kernel_rfl) (by kernel_rfl) (by kernel_rfl)
noncomputable def fi130 : FI := ⟨29, Go.Proofs.Tryz.f130.body, (#[.tmp 2] : Array ResultVar).toList⟩
theorem fnok130 : FnOk Go.Proofs.Tryz.prog 130 fi130 := FnOk.of (n := 29) (b := Go.Proofs.Tryz.f130.body) (rs := #[.tmp 2]) Go.Proofs.Tryz.func130 (by kernel_rfl) (by kernel_rfl) (by kernel_rfl) (by kernel_rfl)
noncomputable def fi131 : FI := ⟨17, Go.Proofs.Tryz.f131.body, (#[.tmp 4] : Array ResultVar).toList⟩
theorem fnok131 : FnOk Go.Proofs.Tryz.prog 131 fi131 := FnOk.of (n := 17) (b := Go.Proofs.Tryz.f131.body) (rs := #[.tmp 4]) Go.Proofs.Tryz.func131 (by kernel_rfl) (by kernel_rfl) (by kernel_rfl) (by kernel_rfl)
noncomputable def fi132 : FI := ⟨17, Go.Proofs.Tryz.f132.body, (#[.tmp 2] : Array ResultVar).toList⟩
theorem fnok132 : FnOk Go.Proofs.Tryz.prog 132 fi132 := FnOk.of (n := 17) (b := Go.Proofs.Tryz.f132.body) (rs := #[.tmp 2]) Go.Proofs.Tryz.func132 (by kernel_rfl) (by kernel_rfl) (by kernel_rfl) (by kernel_rfl)
noncomputable def fi133 : FI := ⟨8, Go.Proofs.Tryz.f133.body, (#[.tmp 4] : Array ResultVar).toList⟩
theorem fnok133 : FnOk Go.Proofs.Tryz.prog 133 fi133 := FnOk.of (n := 8) (b := Go.Proofs.Tryz.f133.body) (rs := #[.tmp 4]) Go.Proofs.Tryz.func133 (by kernel_rfl) (by kernel_rfl) (by kernel_rfl) (by kernel_rfl)
noncomputable def fi134 : FI := ⟨51, Go.Proofs.Tryz.f134.body, (#[.tmp 6, .tmp 7] : Array ResultVar).toList⟩
theorem fnok134 : FnOk Go.Proofs.Tryz.prog 134 fi134 := FnOk.of (n := 51) (b := Go.Proofs.Tryz.f134.body) (rs := #[.tmp 6, .tmp 7]) Go.Proofs.Tryz.func134 (by kernel_rfl) (by kernel_rfl) (by kernel_rfl) (by kernel_rfl)
noncomputable def fi135 : FI := ⟨43, Go.Proofs.Tryz.f135.body, (#[.tmp 4] : Array ResultVar).toList⟩
theorem fnok135 : FnOk Go.Proofs.Tryz.prog 135 fi135 := FnOk.of (n := 43) (b := Go.Proofs.Tryz.f135.body) (rs := #[.tmp 4]) Go.Proofs.Tryz.func135 (by kernel_rfl) (by kernel_rfl) (by kernel_rfl) (by kernel_rfl)
noncomputable def fi136 : FI := ⟨18, Go.Proofs.Tryz.f136.body, (#[.tmp 2, .tmp 3] : Array ResultVar).toList⟩
theorem fnok136 : FnOk Go.Proofs.Tryz.prog 136 fi136 := FnOk.of (n := 18) (b := Go.Proofs.Tryz.f136.body) (rs := #[.tmp 2, .tmp 3]) Go.Proofs.Tryz.func136 (by kernel_rfl) (by kernel_rfl) (by kernel_rfl) (by kernel_rfl)
noncomputable def fi137 : FI := ⟨8, Go.Proofs.Tryz.f137.body, (#[.tmp 4] : Array ResultVar).toList⟩
theorem fnok137 : FnOk Go.Proofs.Tryz.prog 137 fi137 := FnOk.of (n := 8) (b := Go.Proofs.Tryz.f137.body) (rs := #[.tmp 4]) Go.Proofs.Tryz.func137 (by kernel_rfl) (by kernel_rfl) (by kernel_rfl) (by kernel_rfl)
noncomputable def fi138 : FI := ⟨13, Go.Proofs.Tryz.f138.body, (#[.tmp 4, .tmp 5, .tmp 6] : Array ResultVar).toList⟩
theorem fnok138 : FnOk Go.Proofs.Tryz.prog 138 fi138 := FnOk.of (n := 13) (b := Go.Proofs.Tryz.f138.body) (rs := #[.tmp 4, .tmp 5, .tmp 6]) Go.Proofs.Tryz.func138 (by kernel_rfl) (by kernel_rfl) (by kernel_rfl) (by kernel_rfl)
noncomputable def fi139 : FI := ⟨46, Go.Proofs.Tryz.f139.body, (#[.tmp 2] : Array ResultVar).toList⟩
theorem fnok139 : FnOk Go.Proofs.Tryz.prog 139 fi139 := FnOk.of (n := 46) (b := Go.Proofs.Tryz.f139.body) (rs := #[.tmp 2]) Go.Proofs.Tryz.func139 (by kernel_rfl) (by kernel_rfl) (by kernel_rfl) (by kernel_rfl)
noncomputable def fi140 : FI := ⟨8, Go.Proofs.Tryz.f140.body, (#[.tmp 4] : Array ResultVar).toList⟩
theorem fnok140 : FnOk Go.Proofs.Tryz.prog 140 fi140 := FnOk.of (n := 8) (b := Go.Proofs.Tryz.f140.body) (rs := #[.tmp 4]) Go.Proofs.Tryz.func140 (by kernel_rfl) (by kernel_rfl) (by kernel_rfl) (by kernel_rfl)
noncomputable def fi141 : FI := ⟨2, Go.Proofs.Tryz.f141.body, (#[.cell 0 186] : Array ResultVar).toList⟩
theorem fnok141 : FnOk Go.Proofs.Tryz.prog 141 fi141 := FnOk.of (n := 2) (b := Go.Proofs.Tryz.f141.body) (rs := #[.cell 0 186]) Go.Proofs.Tryz.func141 (by kernel_rfl) (by kernel_rfl) (by kernel_rfl) (by kernel_rfl)
noncomputable def fi142 : FI := ⟨29, Go.Proofs.Tryz.f142.body, (#[.tmp 2] : Array ResultVar).toList⟩
theorem fnok142 : FnOk Go.Proofs.Tryz.prog 142 fi142 := FnOk.of (n := 29) (b := Go.Proofs.Tryz.f142.body) (rs := #[.tmp 2]) Go.Proofs.Tryz.func142 (by kernel_rfl) (by kernel_rfl) (by kernel_rfl) (by kernel_rfl)
noncomputable def fi143 : FI := ⟨9, Go.Proofs.Tryz.f143.body, (#[.tmp 4] : Array ResultVar).toList⟩
theorem fnok143 : FnOk Go.Proofs.Tryz.prog 143 fi143 := FnOk.of (n := 9) (b := Go.Proofs.Tryz.f143.body) (rs := #[.tmp 4]) Go.Proofs.Tryz.func143 (by kernel_rfl) (by kernel_rfl) (by kernel_rfl) (by kernel_rfl)
noncomputable def fi144 : FI := ⟨6, Go.Proofs.Tryz.f144.body, (#[.tmp 2] : Array ResultVar).toList⟩
theorem fnok144 : FnOk Go.Proofs.Tryz.prog 144 fi144 := FnOk.of (n := 6) (b := Go.Proofs.Tryz.f144.body) (rs := #[.tmp 2]) Go.Proofs.Tryz.func144 (by kernel_rfl) (by kernel_rfl) (by kernel_rfl) (by kernel_rfl)
noncomputable def fi145 : FI := ⟨33, Go.Proofs.Tryz.f145.body, (#[.tmp 2] : Array ResultVar).toList⟩
theorem fnok145 : FnOk Go.Proofs.Tryz.prog 145 fi145 := FnOk.of (n := 33) (b := Go.Proofs.Tryz.f145.body) (rs := #[.tmp 2]) Go.Proofs.Tryz.func145 (by kernel_rfl) (by kernel_rfl) (by kernel_rfl) (by kernel_rfl)
noncomputable def fi146 : FI := ⟨8, Go.Proofs.Tryz.f146.body, (#[.tmp 4] : Array ResultVar).toList⟩
theorem fnok146 : FnOk Go.Proofs.Tryz.prog 146 fi146 := FnOk.of (n := 8) (b := Go.Proofs.Tryz.f146.body) (rs := #[.tmp 4]) Go.Proofs.Tryz.func146 (by kernel_rfl) (by kernel_rfl) (by kernel_rfl) (by kernel_rfl)
noncomputable def fi147 : FI := ⟨11, Go.Proofs.Tryz.f147.body, (#[.tmp 4, .tmp 5] : Array ResultVar).toList⟩
theorem fnok147 : FnOk Go.Proofs.Tryz.prog 147 fi147 := FnOk.of (n := 11) (b := Go.Proofs.Tryz.f147.body) (rs := #[.tmp 4, .tmp 5]) Go.Proofs.Tryz.func147 (by kernel_rfl) (by kernel_rfl) (by kernel_rfl) (by kernel_rfl)
noncomputable def fi148 : FI := ⟨34, Go.Proofs.Tryz.f148.body, (#[.tmp 2] : Array ResultVar).toList⟩
theorem fnok148 : FnOk Go.Proofs.Tryz.prog 148 fi148 := FnOk.of (n := 34) (b := Go.Proofs.Tryz.f148.body) (rs := #[.tmp 2]) Go.Proofs.Tryz.func148 (by kernel_rfl) (by kernel_rfl) (by kernel_rfl) (by kernel_rfl)
noncomputable def fi149 : FI := ⟨29, Go.Proofs.Tryz.f149.body, (#[.tmp 2] : Array ResultVar).toList⟩
theorem fnok149 : FnOk Go.Proofs.Tryz.prog 149 fi149 := FnOk.of (n := 29) (b := Go.Proofs.Tryz.f149.body) (rs := #[.tmp 2]) Go.Proofs.Tryz.func149 (by kernel_rfl) (by kernel_rfl) (by kernel_rfl) (by kernel_rfl)
noncomputable def fi150 : FI := ⟨21, Go.Proofs.Tryz.f150.body, (#[.tmp 4] : Array ResultVar).toList⟩
theorem fnok150 : FnOk Go.Proofs.Tryz.prog 150 fi150 := FnOk.of (n := 21) (b := Go.Proofs.Tryz.f150.body) (rs := #[.tmp 4]) Go.Proofs.Tryz.func150 (by kernel_rfl) (by kernel_rfl) (by kernel_rfl) (by kernel_rfl)
noncomputable def fi151 : FI := ⟨12, Go.Proofs.Tryz.f151.body, (#[.tmp 2] : Array ResultVar).toList⟩
theorem fnok151 : FnOk Go.Proofs.Tryz.prog 151 fi151 := FnOk.of (n := 12) (b := Go.Proofs.Tryz.f151.body) (rs := #[.tmp 2]) Go.Proofs.Tryz.func151 (by kernel_rfl) (by kernel_rfl) (by kernel_rfl) (by kernel_rfl)
noncomputable def fi152 : FI := ⟨16, Go.Proofs.Tryz.f152.body, (#[.tmp 2] : Array ResultVar).toList⟩
theorem fnok152 : FnOk Go.Proofs.Tryz.prog 152 fi152 := FnOk.of (n := 16) (b := Go.Proofs.Tryz.f152.body) (rs := #[.tmp 2]) Go.Proofs.Tryz.func152 (by kernel_rfl) (by kernel_rfl) (by kernel_rfl) (by kernel_rfl)
noncomputable def fi153 : FI := ⟨46, Go.Proofs.Tryz.f153.body, (#[.tmp 6, .tmp 7] : Array ResultVar).toList⟩
theorem fnok153 : FnOk Go.Proofs.Tryz.prog 153 fi153 := FnOk.of (n := 46) (b := Go.Proofs.Tryz.f153.body) (rs := #[.tmp 6, .tmp 7]) Go.Proofs.Tryz.func153 (by kernel_rfl) (by kernel_rfl) (by kernel_rfl) (by kernel_rfl)
noncomputable def fi154 : FI := ⟨80, Go.Proofs.Tryz.f154.body, (#[.tmp 2] : Array ResultVar).toList⟩
theorem fnok154 : FnOk Go.Proofs.Tryz.prog 154 fi154 := FnOk.of (n := 80) (b := Go.Proofs.Tryz.f154.body) (rs := #[.tmp 2]) Go.Proofs.Tryz.func154 (by kernel_rfl) (by kernel_rfl) (by kernel_rfl) (by kernel_rfl)
noncomputable def fi155 : FI := ⟨23, Go.Proofs.Tryz.f155.body, (#[.tmp 2] : Array ResultVar).toList⟩
theorem fnok155 : FnOk Go.Proofs.Tryz.prog 155 fi155 := FnOk.of (n := 23) (b := Go.Proofs.Tryz.f155.body) (rs := #[.tmp 2]) Go.Proofs.Tryz.func155 (by kernel_rfl) (by kernel_rfl) (by kernel_rfl) (by kernel_rfl)
noncomputable def fi156 : FI := ⟨2, Go.Proofs.Tryz.f156.body, (#[.tmp 0] : Array ResultVar).toList⟩
theorem fnok156 : FnOk Go.Proofs.Tryz.prog 156 fi156 := FnOk.of (n := 2) (b := Go.Proofs.Tryz.f156.body) (rs := #[.tmp 0]) Go.Proofs.Tryz.func156 (by kernel_rfl) (by kernel_rfl) (by kernel_rfl) (by kernel_rfl)
noncomputable def fi157 : FI := ⟨77, Go.Proofs.Tryz.f157.body, (#[.tmp 2] : Array ResultVar).toList⟩
theorem fnok157 : FnOk Go.Proofs.Tryz.prog 157 fi157 := FnOk.of (n := 77) (b := Go.Proofs.Tryz.f157.body) (rs := #[.tmp 2]) Go.Proofs.Tryz.func157 (by kernel_rfl) (by kernel_rfl) (by kernel_rfl) (by kernel_rfl)
noncomputable def fi158 : FI := ⟨16, Go.Proofs.Tryz.f158.body, (#[.tmp 2] : Array ResultVar).toList⟩
theorem fnok158 : FnOk Go.Proofs.Tryz.prog 158 fi158 := FnOk.of (n := 16) (b := Go.Proofs.Tryz.f158.body) (rs := #[.tmp 2]) Go.Proofs.Tryz.func158 (by kernel_rfl) (by kernel_rfl) (by kernel_rfl) (by kernel_rfl)
noncomputable def fi159 : FI := ⟨2, none, (#[] : Array ResultVar).toList⟩
theorem fnok159 : FnOk Go.Proofs.Tryz.prog 159 fi159 := FnOk.of (n := 2) (b := none) (rs := #[]) Go.Proofs.Tryz.func159 (by kernel_rfl) (by kernel_rfl) (by kernel_rfl) (by kernel_rfl)
noncomputable def fi160 : FI := ⟨6, Go.Proofs.Tryz.f160.body, (#[.tmp 2] : Array ResultVar).toList⟩
theorem fnok160 : FnOk Go.Proofs.Tryz.prog 160 fi160 := FnOk.of (n := 6) (b := Go.Proofs.Tryz.f160.body) (rs := #[.tmp 2]) Go.Proofs.Tryz.func160 (by kernel_rfl) (by kernel_rfl) (by kernel_rfl) (by kernel_rfl)
noncomputable def fi161 : FI := ⟨25, Go.Proofs.Tryz.f161.body, (#[.tmp 2] : Array ResultVar).toList⟩
theorem fnok161 : FnOk Go.Proofs.Tryz.prog 161 fi161 := FnOk.of (n := 25) (b := Go.Proofs.Tryz.f161.body) (rs := #[.tmp 2]) Go.Proofs.Tryz.func161 (by kernel_rfl) (by kernel_rfl) (by kernel_rfl) (by kernel_rfl)
noncomputable def fi162 : FI := ⟨4, Go.Proofs.Tryz.f162.body, (#[.tmp 2] : Array ResultVar).toList⟩
theorem fnok162 : FnOk Go.Proofs.Tryz.prog 162 fi162 := FnOk.of (n := 4) (b := Go.Proofs.Tryz.f162.body) (rs := #[.tmp 2]) Go.Proofs.Tryz.func162 (by kernel_rfl) (by kernel_rfl) (by kernel_rfl) (by kernel_rfl)
noncomputable def fi163 : FI := ⟨8, Go.Proofs.Tryz.f163.body, (#[.tmp 2] : Array ResultVar).toList⟩
theorem fnok163 : FnOk Go.Proofs.Tryz.prog 163 fi163 := FnOk.of (n := 8) (b := Go.Proofs.Tryz.f163.body) (rs := #[.tmp 2]) Go.Proofs.Tryz.func163 (by kernel_rfl) (by kernel_rfl) (by kernel_rfl) (by kernel_rfl)
noncomputable def fi164 : FI := ⟨8, Go.Proofs.Tryz.f164.body, (#[.tmp 2] : Array ResultVar).toList⟩
theorem fnok164 : FnOk Go.Proofs.Tryz.prog 164 fi164 := FnOk.of (n := 8) (b := Go.Proofs.Tryz.f164.body) (rs := #[.tmp 2]) Go.Proofs.Tryz.func164 (by kernel_rfl) (by kernel_rfl) (by kernel_rfl) (by kernel_rfl)
noncomputable def fi165 : FI := ⟨16, Go.Proofs.Tryz.f165.body, (#[.tmp 2] : Array ResultVar).toList⟩
theorem fnok165 : FnOk Go.Proofs.Tryz.prog 165 fi165 := FnOk.of (n := 16) (b := Go.Proofs.Tryz.f165.body) (rs := #[.tmp 2]) Go.Proofs.Tryz.func165 (by kernel_rfl) (by kernel_rfl) (by kernel_rfl) (by kernel_rfl)
noncomputable def fi166 : FI := ⟨66, Go.Proofs.Tryz.f166.body, (#[.tmp 8] : Array ResultVar).toList⟩
theorem fnok166 : FnOk Go.Proofs.Tryz.prog 166 fi166 := FnOk.of (n := 66) (b := Go.Proofs.Tryz.f166.body) (rs := #[.tmp 8]) Go.Proofs.Tryz.func166 (by kernel_rfl) (by kernel_rfl) (by kernel_rfl) (by kernel_rfl)
noncomputable def fi167 : FI := ⟨17, Go.Proofs.Tryz.f167.body, (#[.tmp 4] : Array ResultVar).toList⟩
theorem fnok167 : FnOk Go.Proofs.Tryz.prog 167 fi167 := FnOk.of (n := 17) (b := Go.Proofs.Tryz.f167.body) (rs := #[.tmp 4]) Go.Proofs.Tryz.func167 (by kernel_rfl) (by kernel_rfl) (by kernel_rfl) (by kernel_rfl)
noncomputable def fi168 : FI := ⟨23, Go.Proofs.Tryz.f168.body, (#[.tmp 4] : Array ResultVar).toList⟩
theorem fnok168 : FnOk Go.Proofs.Tryz.prog 168 fi168 := FnOk.of (n := 23) (b := Go.Proofs.Tryz.f168.body) (rs := #[.tmp 4]) Go.Proofs.Tryz.func168 (by kernel_rfl) (by kernel_rfl) (by kernel_rfl) (by kernel_rfl)
noncomputable def fi169 : FI := ⟨21, Go.Proofs.Tryz.f169.body, (#[.cell 2 204, .tmp 3] : Array ResultVar).toList⟩
theorem fnok169 : FnOk Go.Proofs.Tryz.prog 169 fi169 := FnOk.of (n := 21) (b := Go.Proofs.Tryz.f169.body) (rs := #[.cell 2 204, .tmp 3]) Go.Proofs.Tryz.func169 (by kernel_rfl) (by kernel_rfl) (by kernel_rfl) (by kernel_rfl)
noncomputable def fi170 : FI := ⟨16, Go.Proofs.Tryz.f170.body, (#[.tmp 4] : Array ResultVar).toList⟩
theorem fnok170 : FnOk Go.Proofs.Tryz.prog 170 fi170 := FnOk.of (n := 16) (b := Go.Proofs.Tryz.f170.body) (rs := #[.tmp 4]) Go.Proofs.Tryz.func170 (by kernel_rfl) (by kernel_rfl) (by kernel_rfl) (by kernel_rfl)
noncomputable def fi171 : FI := ⟨22, Go.Proofs.Tryz.f171.body, (#[.tmp 4] : Array ResultVar).toList⟩
theorem fnok171 : FnOk Go.Proofs.Tryz.prog 171 fi171 := FnOk.of (n := 22) (b := Go.Proofs.Tryz.f171.body) (rs := #[.tmp 4]) Go.Proofs.Tryz.func171 (by kernel_rfl) (by kernel_rfl) (by kernel_rfl) (by kernel_rfl)
noncomputable def fi172 : FI := ⟨23, Go.Proofs.Tryz.f172.body, (#[.tmp 4] : Array ResultVar).toList⟩
theorem fnok172 : FnOk Go.Proofs.Tryz.prog 172 fi172 := FnOk.of (n := 23) (b := Go.Proofs.Tryz.f172.body) (rs := #[.tmp 4]) Go.Proofs.Tryz.func172 (by kernel_rfl) (by kernel_rfl) (by kernel_rfl) (by kernel_rfl)
noncomputable def fi173 : FI := ⟨34, Go.Proofs.Tryz.f173.body, (#[.tmp 4] : Array ResultVar).toList⟩
theorem fnok173 : FnOk Go.Proofs.Tryz.prog 173 fi173 := FnOk.of (n := 34) (b := Go.Proofs.Tryz.f173.body) (rs := #[.tmp 4]) Go.Proofs.Tryz.func173 (by kernel_rfl) (by kernel_rfl) (by kernel_rfl) (by kernel_rfl)
noncomputable def fi174 : FI := ⟨77, Go.Proofs.Tryz.f174.body, (#[.tmp 2, .tmp 3] : Array ResultVar).toList⟩
theorem fnok174 : FnOk Go.Proofs.Tryz.prog 174 fi174 := FnOk.of (n := 77) (b := Go.Proofs.Tryz.f174.body) (rs := #[.tmp 2, .tmp 3]) Go.Proofs.Tryz.func174 (by kernel_rfl) (by kernel_rfl) (by kernel_rfl) (by kernel_rfl)
noncomputable def fi175 : FI := ⟨43, Go.Proofs.Tryz.f175.body, (#[.tmp 10] : Array ResultVar).toList⟩
theorem fnok175 : FnOk Go.Proofs.Tryz.prog 175 fi175 := FnOk.of (n := 43) (b := Go.Proofs.Tryz.f175.body) (rs := #[.tmp 10]) Go.Proofs.Tryz.func175 (by kernel_rfl) (by kernel_rfl) (by kernel_rfl) (by kernel_rfl)
noncomputable def fi176 : FI := ⟨8, Go.Proofs.Tryz.f176.body, (#[.tmp 6] : Array ResultVar).toList⟩
theorem fnok176 : FnOk Go.Proofs.Tryz.prog 176 fi176 := FnOk.of (n := 8) (b := Go.Proofs.Tryz.f176.body) (rs := #[.tmp 6]) Go.Proofs.Tryz.func176 (by kernel_rfl) (by kernel_rfl) (by kernel_rfl) (by kernel_rfl)
noncomputable def fi177 : FI := ⟨23, Go.Proofs.Tryz.f177.body, (#[.tmp 4, .tmp 5, .tmp 6] : Array ResultVar).toList⟩
theorem fnok177 : FnOk Go.Proofs.Tryz.prog 177 fi177 := FnOk.of (n := 23) (b := Go.Proofs.Tryz.f177.body) (rs := #[.tmp 4, .tmp 5, .tmp 6]) Go.Proofs.Tryz.func177 (by kernel_rfl) (by kernel_rfl) (by kernel_rfl) (by kernel_rfl)
noncomputable def fi178 : FI := ⟨18, Go.Proofs.Tryz.f178.body, (#[.tmp 4] : Array ResultVar).toList⟩
theorem fnok178 : FnOk Go.Proofs.Tryz.prog 178 fi178 := FnOk.of (n := 18) (b := Go.Proofs.Tryz.f178.body) (rs := #[.tmp 4]) Go.Proofs.Tryz.func178 (by kernel_rfl) (by kernel_rfl) (by kernel_rfl) (by kernel_rfl)
noncomputable def fi179 : FI := ⟨8, Go.Proofs.Tryz.f179.body, (#[.tmp 4] : Array ResultVar).toList⟩
theorem fnok179 : FnOk Go.Proofs.Tryz.prog 179 fi179 := FnOk.of (n := 8) (b := Go.Proofs.Tryz.f179.body) (rs := #[.tmp 4]) Go.Proofs.Tryz.func179 (by kernel_rfl) (by kernel_rfl) (by kernel_rfl) (by kernel_rfl)
noncomputable def fi180 : FI := ⟨13, Go.Proofs.Tryz.f180.body, (#[.tmp 4] : Array ResultVar).toList⟩
theorem fnok180 : FnOk Go.Proofs.Tryz.prog 180 fi180 := FnOk.of (n := 13) (b := Go.Proofs.Tryz.f180.body) (rs := #[.tmp 4]) Go.Proofs.Tryz.func180 (by kernel_rfl) (by kernel_rfl) (by kernel_rfl) (by kernel_rfl)
noncomputable def fi181 : FI := ⟨15, Go.Proofs.Tryz.f181.body, (#[.tmp 4, .tmp 5] : Array ResultVar).toList⟩
theorem fnok181 : FnOk Go.Proofs.Tryz.prog 181 fi181 := FnOk.of (n := 15) (b := Go.Proofs.Tryz.f181.body) (rs := #[.tmp 4, .tmp 5]) Go.Proofs.Tryz.func181 (by kernel_rfl) (by kernel_rfl) (by kernel_rfl) (by kernel_rfl)
noncomputable def fi182 : FI := ⟨15, Go.Proofs.Tryz.f182.body, (#[.tmp 2] : Array ResultVar).toList⟩
theorem fnok182 : FnOk Go.Proofs.Tryz.prog 182 fi182 := FnOk.of (n := 15) (b := Go.Proofs.Tryz.f182.body) (rs := #[.tmp 2]) Go.Proofs.Tryz.func182 (by kernel_rfl) (by kernel_rfl) (by kernel_rfl) (by kernel_rfl)
noncomputable def fi183 : FI := ⟨40, Go.Proofs.Tryz.f183.body, (#[.tmp 2] : Array ResultVar).toList⟩
theorem fnok183 : FnOk Go.Proofs.Tryz.prog 183 fi183 := FnOk.of (n := 40) (b := Go.Proofs.Tryz.f183.body) (rs := #[.tmp 2]) Go.Proofs.Tryz.func183 (by kernel_rfl) (by kernel_rfl) (by kernel_rfl) (by kernel_rfl)
noncomputable def fi184 : FI := ⟨14, Go.Proofs.Tryz.f184.body, (#[.tmp 2] : Array ResultVar).toList⟩
theorem fnok184 : FnOk Go.Proofs.Tryz.prog 184 fi184 := FnOk.of (n := 14) (b := Go.Proofs.Tryz.f184.body) (rs := #[.tmp 2]) Go.Proofs.Tryz.func184 (by kernel_rfl) (by kernel_rfl) (by kernel_rfl) (by kernel_rfl)
noncomputable def fi185 : FI := ⟨14, Go.Proofs.Tryz.f185.body, (#[.tmp 2] : Array ResultVar).toList⟩
theorem fnok185 : FnOk Go.Proofs.Tryz.prog 185 fi185 := FnOk.of (n := 14) (b := Go.Proofs.Tryz.f185.body) (rs := #[.tmp 2]) Go.Proofs.Tryz.func185 (by kernel_rfl) (by kernel_rfl) (by kernel_rfl) (by kernel_rfl)
noncomputable def fi186 : FI := ⟨50, Go.Proofs.Tryz.f186.body, (#[.tmp 4] : Array ResultVar).toList⟩
theorem fnok186 : FnOk Go.Proofs.Tryz.prog 186 fi186 := FnOk.of (n := 50) (b := Go.Proofs.Tryz.f186.body) (rs := #[.tmp 4]) Go.Proofs.Tryz.func186 (by kernel_rfl) (by kernel_rfl) (by kernel_rfl) (by kernel_rfl)
noncomputable def fi187 : FI := ⟨34, Go.Proofs.Tryz.f187.body, (#[.tmp 4] : Array ResultVar).toList⟩
theorem fnok187 : FnOk Go.Proofs.Tryz.prog 187 fi187 := FnOk.of (n := 34) (b := Go.Proofs.Tryz.f187.body) (rs := #[.tmp 4]) Go.Proofs.Tryz.func187 (by kernel_rfl) (by kernel_rfl) (by kernel_rfl) (by kernel_rfl)
noncomputable def fi188 : FI := ⟨8, Go.Proofs.Tryz.f188.body, (#[.tmp 4] : Array ResultVar).toList⟩
theorem fnok188 : FnOk Go.Proofs.Tryz.prog 188 fi188 := FnOk.of (n := 8) (b := Go.Proofs.Tryz.f188.body) (rs := #[.tmp 4]) Go.Proofs.Tryz.func188 (by kernel_rfl) (by kernel_rfl) (by kernel_rfl) (by kernel_rfl)
noncomputable def fi189 : FI := ⟨10, Go.Proofs.Tryz.f189.body, (#[.tmp 4] : Array ResultVar).toList⟩
theorem fnok189 : FnOk Go.Proofs.Tryz.prog 189 fi189 := FnOk.of (n := 10) (b := Go.Proofs.Tryz.f189.body) (rs := #[.tmp 4]) Go.Proofs.Tryz.func189 (by kernel_rfl) (by kernel_rfl) (by kernel_rfl) (by kernel_rfl)
noncomputable def fi190 : FI := ⟨19, Go.Proofs.Tryz.f190.body, (#[.tmp 2, .tmp 3] : Array ResultVar).toList⟩
theorem fnok190 : FnOk Go.Proofs.Tryz.prog 190 fi190 := FnOk.of (n := 19) (b := Go.Proofs.Tryz.f190.body) (rs := #[.tmp 2, .tmp 3]) Go.Proofs.Tryz.func190 (by kernel_rfl) (by kernel_rfl) (by kernel_rfl) (by kernel_rfl)
noncomputable def fi191 : FI := ⟨9, Go.Proofs.Tryz.f191.body, (#[.tmp 4] : Array ResultVar).toList⟩
theorem fnok191 : FnOk Go.Proofs.Tryz.prog 191 fi191 := FnOk.of (n := 9) (b := Go.Proofs.Tryz.f191.body) (rs := #[.tmp 4]) Go.Proofs.Tryz.func191 (by kernel_rfl) (by kernel_rfl) (by kernel_rfl) (by kernel_rfl)
noncomputable def fi192 : FI := ⟨51, Go.Proofs.Tryz.f192.body, (#[.tmp 2, .tmp 3] : Array ResultVar).toList⟩
theorem fnok192 : FnOk Go.Proofs.Tryz.prog 192 fi192 := FnOk.of (n := 51) (b := Go.Proofs.Tryz.f192.body) (rs := #[.tmp 2, .tmp 3]) Go.Proofs.Tryz.func192 (by kernel_rfl) (by kernel_rfl) (by kernel_rfl) (by kernel_rfl)
noncomputable def fi193 : FI := ⟨73, Go.Proofs.Tryz.f193.body, (#[.tmp 6, .tmp 7] : Array ResultVar).toList⟩
theorem fnok193 : FnOk Go.Proofs.Tryz.prog 193 fi193 := FnOk.of (n := 73) (b := Go.Proofs.Tryz.f193.body) (rs := #[.tmp 6, .tmp 7]) Go.Proofs.Tryz.func193 (by kernel_rfl) (by kernel_rfl) (by kernel_rfl) (by kernel_rfl)
noncomputable def fi194 : FI := ⟨11, Go.Proofs.Tryz.f194.body, (#[.tmp 4] : Array ResultVar).toList⟩
theorem fnok194 : FnOk Go.Proofs.Tryz.prog 194 fi194 := FnOk.of (n := 11) (b := Go.Proofs.Tryz.f194.body) (rs := #[.tmp 4]) Go.Proofs.Tryz.func194 (by kernel_rfl) (by kernel_rfl) (by kernel_rfl) (by kernel_rfl)
noncomputable def fi195 : FI := ⟨11, Go.Proofs.Tryz.f195.body, (#[.tmp 4] : Array ResultVar).toList⟩
theorem fnok195 : FnOk Go.Proofs.Tryz.prog 195 fi195 := FnOk.of (n := 11) (b := Go.Proofs.Tryz.f195.body) (rs := #[.tmp 4]) Go.Proofs.Tryz.func195 (by kernel_rfl) (by kernel_rfl) (by kernel_rfl) (by kernel_rfl)
noncomputable def fi196 : FI := ⟨16, Go.Proofs.Tryz.f196.body, (#[.tmp 6] : Array ResultVar).toList⟩
theorem fnok196 : FnOk Go.Proofs.Tryz.prog 196 fi196 := FnOk.of (n := 16) (b := Go.Proofs.Tryz.f196.body) (rs := #[.tmp 6]) Go.Proofs.Tryz.func196 (by kernel_rfl) (by kernel_rfl) (by kernel_rfl) (by kernel_rfl)
noncomputable def fi197 : FI := ⟨16, Go.Proofs.Tryz.f197.body, (#[.tmp 6] : Array ResultVar).toList⟩
theorem fnok197 : FnOk Go.Proofs.Tryz.prog 197 fi197 := FnOk.of (n := 16) (b := Go.Proofs.Tryz.f197.body) (rs := #[.tmp 6]) Go.Proofs.Tryz.func197 (by kernel_rfl) (by kernel_rfl) (by kernel_rfl) (by kernel_rfl)
noncomputable def fi198 : FI := ⟨52, Go.Proofs.Tryz.f198.body, (#[] : Array ResultVar).toList⟩
theorem fnok198 : FnOk Go.Proofs.Tryz.prog 198 fi198 := FnOk.of (n := 52) (b := Go.Proofs.Tryz.f198.body) (rs := #[]) Go.Proofs.Tryz.func198 (by kernel_rfl) (by kernel_rfl) (by kernel_rfl) (by kernel_rfl)
noncomputable def fi199 : FI := ⟨143, Go.Proofs.Tryz.f199.body, (#[.tmp 4] : Array ResultVar).toList⟩
theorem fnok199 : FnOk Go.Proofs.Tryz.prog 199 fi199 := FnOk.of (n := 143) (b := Go.Proofs.Tryz.f199.body) (rs := #[.tmp 4]) Go.Proofs.Tryz.func199 (by kernel_rfl) (by kernel_rfl) (by kernel_rfl) (by kernel_rfl)
noncomputable def fi200 : FI := ⟨21, Go.Proofs.Tryz.f200.body, (#[.tmp 6] : Array ResultVar).toList⟩
theorem fnok200 : FnOk Go.Proofs.Tryz.prog 200 fi200 := FnOk.of (n := 21) (b := Go.Proofs.Tryz.f200.body) (rs := #[.tmp 6]) Go.Proofs.Tryz.func200 (by kernel_rfl) (by kernel_rfl) (by kernel_rfl) (by kernel_rfl)
noncomputable def fi201 : FI := ⟨10, Go.Proofs.Tryz.f201.body, (#[.tmp 2] : Array ResultVar).toList⟩
theorem fnok201 : FnOk Go.Proofs.Tryz.prog 201 fi201 := FnOk.of (n := 10) (b := Go.Proofs.Tryz.f201.body) (rs := #[.tmp 2]) Go.Proofs.Tryz.func201 (by kernel_rfl) (by kernel_rfl) (by kernel_rfl) (by kernel_rfl)
noncomputable def fi202 : FI := ⟨2, none, (#[] : Array ResultVar).toList⟩
theorem fnok202 : FnOk Go.Proofs.Tryz.prog 202 fi202 := FnOk.of (n := 2) (b := none) (rs := #[]) Go.Proofs.Tryz.func202 (by kernel_rfl) (by kernel_rfl) (by kernel_rfl) (by kernel_rfl)
noncomputable def fi203 : FI := ⟨117, Go.Proofs.Tryz.f203.body, (#[.tmp 2, .tmp 3] : Array ResultVar).toList⟩
theorem fnok203 : FnOk Go.Proofs.Tryz.prog 203 fi203 := FnOk.of (n := 117) (b := Go.Proofs.Tryz.f203.body) (rs := #[.tmp 2, .tmp 3]) Go.Proofs.Tryz.func203 (by kernel_rfl) (by kernel_rfl) (by kernel_rfl) (by kernel_rfl)
noncomputable def fi204 : FI := ⟨187, Go.Proofs.Tryz.f204.body, (#[.tmp 4] : Array ResultVar).toList⟩
theorem fnok204 : FnOk Go.Proofs.Tryz.prog 204 fi204 := FnOk.of (n := 187) (b := Go.Proofs.Tryz.f204.body) (rs := #[.tmp 4]) Go.Proofs.Tryz.func204 (by kernel_rfl) (by kernel_rfl) (by kernel_rfl) (by kernel_rfl)
noncomputable def fi205 : FI := ⟨6, Go.Proofs.Tryz.f205.body, (#[.tmp 2] : Array ResultVar).toList⟩
theorem fnok205 : FnOk Go.Proofs.Tryz.prog 205 fi205 := FnOk.of (n := 6) (b := Go.Proofs.Tryz.f205.body) (rs := #[.tmp 2]) Go.Proofs.Tryz.func205 (by kernel_rfl) (by kernel_rfl) (by kernel_rfl) (by kernel_rfl)
noncomputable def fi206 : FI := ⟨172, Go.Proofs.Tryz.f206.body, (#[.tmp 6, .tmp 7] : Array ResultVar).toList⟩
theorem fnok206 : FnOk Go.Proofs.Tryz.prog 206 fi206 := FnOk.of (n := 172) (b := Go.Proofs.Tryz.f206.body) (rs := #[.tmp 6, .tmp 7]) Go.Proofs.Tryz.func206 (by kernel_rfl) (by kernel_rfl) (by kernel_rfl) (by kernel_rfl)
noncomputable def fi207 : FI := ⟨18, Go.Proofs.Tryz.f207.body, (#[.tmp 2] : Array ResultVar).toList⟩
theorem fnok207 : FnOk Go.Proofs.Tryz.prog 207 fi207 := FnOk.of (n := 18) (b := Go.Proofs.Tryz.f207.body) (rs := #[.tmp 2]) Go.Proofs.Tryz.func207 (by kernel_rfl) (by kernel_rfl) (by kernel_rfl) (by kernel_rfl)
noncomputable def fi208 : FI := ⟨7, Go.Proofs.Tryz.f208.body, (#[.tmp 2] : Array ResultVar).toList⟩
theorem fnok208 : FnOk Go.Proofs.Tryz.prog 208 fi208 := FnOk.of (n := 7) (b := Go.Proofs.Tryz.f208.body) (rs := #[.tmp 2]) Go.Proofs.Tryz.func208 (by kernel_rfl) (by kernel_rfl) (by kernel_rfl) (by kernel_rfl)
noncomputable def fi209 : FI := ⟨2, none, (#[] : Array ResultVar).toList⟩
theorem fnok209 : FnOk Go.Proofs.Tryz.prog 209 fi209 := FnOk.of (n := 2) (b := none) (rs := #[]) Go.Proofs.Tryz.func209 (by kernel_rfl) (by kernel_rfl) (by kernel_rfl) (by kernel_rfl)
noncomputable def fi210 : FI := ⟨6, Go.Proofs.Tryz.f210.body, (#[.tmp 2] : Array ResultVar).toList⟩
theorem fnok210 : FnOk Go.Proofs.Tryz.prog 210 fi210 := FnOk.of (n := 6) (b := Go.Proofs.Tryz.f210.body) (rs := #[.tmp 2]) Go.Proofs.Tryz.func210 (by kernel_rfl) (by kernel_rfl) (by kernel_rfl) (by kernel_rfl)
noncomputable def fi211 : FI := ⟨81, Go.Proofs.Tryz.f211.body, (#[.tmp 4] : Array ResultVar).toList⟩
theorem fnok211 : FnOk Go.Proofs.Tryz.prog 211 fi211 := FnOk.of (n := 81) (b := Go.Proofs.Tryz.f211.body) (rs := #[.tmp 4]) Go.Proofs.Tryz.func211 (by kernel_rfl) (by kernel_rfl) (by kernel_rfl) (by kernel_rfl)
noncomputable def fi212 : FI := ⟨17, Go.Proofs.Tryz.f212.body, (#[.tmp 2] : Array ResultVar).toList⟩
theorem fnok212 : FnOk Go.Proofs.Tryz.prog 212 fi212 := FnOk.of (n := 17) (b := Go.Proofs.Tryz.f212.body) (rs := #[.tmp 2]) Go.Proofs.Tryz.func212 (by kernel_rfl) (by kernel_rfl) (by kernel_rfl) (by kernel_rfl)
noncomputable def fi213 : FI := ⟨5, Go.Proofs.Tryz.f213.body, (#[.tmp 2] : Array ResultVar).toList⟩
theorem fnok213 : FnOk Go.Proofs.Tryz.prog 213 fi213 := FnOk.of (n := 5) (b := Go.Proofs.Tryz.f213.body) (rs := #[.tmp 2]) Go.Proofs.Tryz.func213 (by kernel_rfl) (by kernel_rfl) (by kernel_rfl) (by kernel_rfl)
noncomputable def fi214 : FI := ⟨94, Go.Proofs.Tryz.f214.body, (#[.tmp 2] : Array ResultVar).toList⟩
theorem fnok214 : FnOk Go.Proofs.Tryz.prog 214 fi214 := FnOk.of (n := 94) (b := Go.Proofs.Tryz.f214.body) (rs := #[.tmp 2]) Go.Proofs.Tryz.func214 (by kernel_rfl) (by kernel_rfl) (by kernel_rfl) (by kernel_rfl)
noncomputable def fi215 : FI := ⟨39, Go.Proofs.Tryz.f215.body, (#[.tmp 2, .tmp 3] : Array ResultVar).toList⟩
theorem fnok215 : FnOk Go.Proofs.Tryz.prog 215 fi215 := FnOk.of (n := 39) (b := Go.Proofs.Tryz.f215.body) (rs := #[.tmp 2, .tmp 3]) Go.Proofs.Tryz.func215 (by kernel_rfl) (by kernel_rfl) (by kernel_rfl) (by kernel_rfl)
noncomputable def fi216 : FI := ⟨1, none, (#[] : Array ResultVar).toList⟩
theorem fnok216 : FnOk Go.Proofs.Tryz.prog 216 fi216 := FnOk.of (n := 1) (b := none) (rs := #[]) Go.Proofs.Tryz.func216 (by kernel_rfl) (by kernel_rfl) (by kernel_rfl) (by kernel_rfl)
noncomputable def fi217 : FI := ⟨1, none, (#[] : Array ResultVar).toList⟩
theorem fnok217 : FnOk Go.Proofs.Tryz.prog 217 fi217 := FnOk.of (n := 1) (b := none) (rs := #[]) Go.Proofs.Tryz.func217 (by kernel_rfl) (by kernel_rfl) (by kernel_rfl) (by kernel_rfl)
noncomputable def fi218 : FI := ⟨1, none, (#[] : Array ResultVar).toList⟩
theorem fnok218 : FnOk Go.Proofs.Tryz.prog 218 fi218 := FnOk.of (n := 1) (b := none) (rs := #[]) Go.Proofs.Tryz.func218 (by kernel_rfl) (by kernel_rfl) (by kernel_rfl) (by kernel_rfl)
noncomputable def fi219 : FI := ⟨1, none, (#[] : Array ResultVar).toList⟩
theorem fnok219 : FnOk Go.Proofs.Tryz.prog 219 fi219 := FnOk.of (n := 1) (b := none) (rs := #[]) Go.Proofs.Tryz.func219 (by kernel_rfl) (by kernel_rfl) (by kernel_rfl) (by kernel_rfl)
noncomputable def fi220 : FI := ⟨1, none, (#[] : Array ResultVar).toList⟩
theorem fnok220 : FnOk Go.Proofs.Tryz.prog 220 fi220 := FnOk.of (n := 1) (b := none) (rs := #[]) Go.Proofs.Tryz.func220 (by kernel_rfl) (by kernel_rfl) (by kernel_rfl) (by kernel_rfl)
noncomputable def fi221 : FI := ⟨1, none, (#[] : Array ResultVar).toList⟩
theorem fnok221 : FnOk Go.Proofs.Tryz.prog 221 fi221 := FnOk.of (n := 1) (b := none) (rs := #[]) Go.Proofs.Tryz.func221 (by kernel_rfl) (by kernel_rfl) (by kernel_rfl) (by kernel_rfl)
noncomputable def fi222 : FI := ⟨1, none, (#[] : Array ResultVar).toList⟩
theorem fnok222 : FnOk Go.Proofs.Tryz.prog 222 fi222 := FnOk.of (n := 1) (b := none) (rs := #[]) Go.Proofs.Tryz.func222 (by kernel_rfl) (by kernel_rfl) (by kernel_rfl) (by kernel_rfl)
noncomputable def fi223 : FI := ⟨1, none, (#[] : Array ResultVar).toList⟩
theorem fnok223 : FnOk Go.Proofs.Tryz.prog 223 fi223 := FnOk.of (n := 1) (b := none) (rs := #[]) Go.Proofs.Tryz.func223 (by kernel_rfl) (by kernel_rfl) (by kernel_rfl) (by kernel_rfl)
noncomputable def fi224 : FI := ⟨1, none, (#[] : Array ResultVar).toList⟩
theorem fnok224 : FnOk Go.Proofs.Tryz.prog 224 fi224 := FnOk.of (n := 1) (b := none) (rs := #[]) Go.Proofs.Tryz.func224 (by kernel_rfl) (by kernel_rfl) (by kernel_rfl) (by kernel_rfl)
noncomputable def fi225 : FI := ⟨1, none, (#[] : Array ResultVar).toList⟩
theorem fnok225 : FnOk Go.Proofs.Tryz.prog 225 fi225 := FnOk.of (n := 1) (b := none) (rs := #[]) Go.Proofs.Tryz.func225 (by kernel_rfl) (by kernel_rfl) (by kernel_rfl) (by kernel_rfl)
noncomputable def fi226 : FI := ⟨1, none, (#[] : Array ResultVar).toList⟩
theorem fnok226 : FnOk Go.Proofs.Tryz.prog 226 fi226 := FnOk.of (n := 1) (b := none) (rs := #[]) Go.Proofs.Tryz.func226 (by kernel_rfl) (by kernel_rfl) (by kernel_rfl) (by kernel_rfl)
noncomputable def fi227 : FI := ⟨1, none, (#[] : Array ResultVar).toList⟩
theorem fnok227 : FnOk Go.Proofs.Tryz.prog 227 fi227 := FnOk.of (n := 1) (b := none) (rs := #[]) Go.Proofs.Tryz.func227 (by kernel_rfl) (by kernel_rfl) (by kernel_rfl) (by kernel_rfl)
noncomputable def fi228 : FI := ⟨1, none, (#[] : Array ResultVar).toList⟩
theorem fnok228 : FnOk Go.Proofs.Tryz.prog 228 fi228 := FnOk.of (n := 1) (b := none) (rs := #[]) Go.Proofs.Tryz.func228 (by kernel_rfl) (by kernel_rfl) (by kernel_rfl) (by kernel_rfl)
noncomputable def fi229 : FI := ⟨1, none, (#[] : Array ResultVar).toList⟩
theorem fnok229 : FnOk Go.Proofs.Tryz.prog 229 fi229 := FnOk.of (n := 1) (b := none) (rs := #[]) Go.Proofs.Tryz.func229 (by kernel_rfl) (by kernel_rfl) (by kernel_rfl) (by kernel_rfl)
noncomputable def fi230 : FI := ⟨1, none, (#[] : Array ResultVar).toList⟩
theorem fnok230 : FnOk Go.Proofs.Tryz.prog 230 fi230 := FnOk.of (n := 1) (b := none) (rs := #[]) Go.Proofs.Tryz.func230 (by kernel_rfl) (by kernel_rfl) (by kernel_rfl) (by kernel_rfl)
noncomputable def fi231 : FI := ⟨1, none, (#[] : Array ResultVar).toList⟩
theorem fnok231 : FnOk Go.Proofs.Tryz.prog 231 fi231 := FnOk.of (n := 1) (b := none) (rs := #[]) Go.Proofs.Tryz.func231 (by kernel_rfl) (by kernel_rfl) (by kernel_rfl) (by kernel_rfl)
noncomputable def fi232 : FI := ⟨1, none, (#[] : Array ResultVar).toList⟩
theorem fnok232 : FnOk Go.Proofs.Tryz.prog 232 fi232 := FnOk.of (n := 1) (b := none) (rs := #[]) Go.Proofs.Tryz.func232 (by kernel_rfl) (by kernel_rfl) (by kernel_rfl) (by kernel_rfl)
noncomputable def fi233 : FI := ⟨1, none, (#[] : Array ResultVar).toList⟩
theorem fnok233 : FnOk Go.Proofs.Tryz.prog 233 fi233 := FnOk.of (n := 1) (b := none) (rs := #[]) Go.Proofs.Tryz.func233 (by kernel_rfl) (by kernel_rfl) (by kernel_rfl) (by kernel_rfl)
noncomputable def fi234 : FI := ⟨1, none, (#[] : Array ResultVar).toList⟩
theorem fnok234 : FnOk Go.Proofs.Tryz.prog 234 fi234 := FnOk.of (n := 1) (b := none) (rs := #[]) Go.Proofs.Tryz.func234 (by kernel_rfl) (by kernel_rfl) (by kernel_rfl) (by kernel_rfl)
noncomputable def fi235 : FI := ⟨1, none, (#[] : Array ResultVar).toList⟩
theorem fnok235 : FnOk Go.Proofs.Tryz.prog 235 fi235 := FnOk.of (n := 1) (b := none) (rs := #[]) Go.Proofs.Tryz.func235 (by kernel_rfl) (by kernel_rfl) (by kernel_rfl) (by kernel_rfl)
noncomputable def fi236 : FI := ⟨0, none, (#[] : Array ResultVar).toList⟩
theorem fnok236 : FnOk Go.Proofs.Tryz.prog 236 fi236 := FnOk.of (n := 0) (b := none) (rs := #[]) Go.Proofs.Tryz.func236 (by kernel_rfl) (by kernel_rfl) (by kernel_rfl) (by kernel_rfl)
noncomputable def fi237 : FI := ⟨0, none, (#[] : Array ResultVar).toList⟩
theorem fnok237 : FnOk Go.Proofs.Tryz.prog 237 fi237 := FnOk.of (n := 0) (b := none) (rs := #[]) Go.Proofs.Tryz.func237 (by kernel_rfl) (by kernel_rfl) (by kernel_rfl) (by kernel_rfl)
noncomputable def fi238 : FI := ⟨0, none, (#[] : Array ResultVar).toList⟩
theorem fnok238 : FnOk Go.Proofs.Tryz.prog 238 fi238 := FnOk.of (n := 0) (b := none) (rs := #[]) Go.Proofs.Tryz.func238 (by kernel_rfl) (by kernel_rfl) (by kernel_rfl) (by kernel_rfl)
noncomputable def fi239 : FI := ⟨0, none, (#[] : Array ResultVar).toList⟩
theorem fnok239 : FnOk Go.Proofs.Tryz.prog 239 fi239 := FnOk.of (n := 0) (b := none) (rs := #[]) Go.Proofs.Tryz.func239 (by kernel_rfl) (by kernel_rfl) (by kernel_rfl) (by kernel_rfl)
noncomputable def fi240 : FI := ⟨0, none, (#[] : Array ResultVar).toList⟩
theorem fnok240 : FnOk Go.Proofs.Tryz.prog 240 fi240 := FnOk.of (n := 0) (b := none) (rs := #[]) Go.Proofs.Tryz.func240 (by kernel_rfl) (by kernel_rfl) (by kernel_rfl) (by kernel_rfl)
noncomputable def fi241 : FI := ⟨0, none, (#[] : Array ResultVar).toList⟩
theorem fnok241 : FnOk Go.Proofs.Tryz.prog 241 fi241 := FnOk.of (n := 0) (b := none) (rs := #[]) Go.Proofs.Tryz.func241 (by kernel_rfl) (by kernel_rfl) (by kernel_rfl) (by kernel_rfl)
noncomputable def fi242 : FI := ⟨0, none, (#[] : Array ResultVar).toList⟩
theorem fnok242 : FnOk Go.Proofs.Tryz.prog 242 fi242 := FnOk.of (n := 0) (b := none) (rs := #[]) Go.Proofs.Tryz.func242 (by kernel_rfl) (by kernel_rfl) (by kernel_rfl) (by kernel_rfl)
noncomputable def fi243 : FI := ⟨0, none, (#[] : Array ResultVar).toList⟩
theorem fnok243 : FnOk Go.Proofs.Tryz.prog 243 fi243 := FnOk.of (n := 0) (b := none) (rs := #[]) Go.Proofs.Tryz.func243 (by kernel_rfl) (by kernel_rfl) (by kernel_rfl) (by kernel_rfl)
noncomputable def fi244 : FI := ⟨0, none, (#[] : Array ResultVar).toList⟩
theorem fnok244 : FnOk Go.Proofs.Tryz.prog 244 fi244 := FnOk.of (n := 0) (b := none) (rs := #[]) Go.Proofs.Tryz.func244 (by kernel_rfl) (by kernel_rfl) (by kernel_rfl) (by kernel_rfl)
noncomputable def fi245 : FI := ⟨11, Go.Proofs.Tryz.f245.body, (#[] : Array ResultVar).toList⟩
theorem fnok245 : FnOk Go.Proofs.Tryz.prog 245 fi245 := FnOk.of (n := 11) (b := Go.Proofs.Tryz.f245.body) (rs := #[]) Go.Proofs.Tryz.func245 (by kernel_rfl) (by kernel_rfl) (by kernel_rfl) (by kernel_rfl)
end Tryz
noncomputable def Tryz.ty : Tr TI := (.node (.node (.node (.node (.node (.node (.node (.node .nil (some Tryz.ty127) .nil) (some Tryz.ty63) (.node .nil (some Tryz.ty191) .nil)) (some Tryz.ty31) (.node .nil (some Tryz.ty95) (.node .nil (some Tryz.ty223) .nil))) (some Tryz.ty15) (.node (.node .nil none (.node .nil (some Tryz.ty207) .nil)) (some Tryz.ty47) (.node (.node .nil (some Tryz.ty175) .nil) (some Tryz.ty111) (.node .nil (some Tryz.ty239) .nil)))) (some Tryz.ty7) (.node (.node (.node (.node .nil (some Tryz.ty135) .nil) (some Tryz.ty71) (.node .nil (some Tryz.ty199) .nil)) (some Tryz.ty39) (.node .nil (some Tryz.ty103) (.node .nil (some Tryz.ty231) .nil))) (some Tryz.ty23) (.node (.node (.node .nil (some Tryz.ty151) .nil) (some Tryz.ty87) .nil) (some Tryz.ty55) (.node (.node .nil (some Tryz.ty183) .nil) none (.node .nil (some Tryz.ty247) .nil))))) (some Tryz.ty3) (.node (.node (.node (.node (.node .nil (some Tryz.ty131) .nil) none (.node .nil (some Tryz.ty195) .nil)) (some Tryz.ty35) (.node (.node .nil (some Tryz.ty163) .nil) (some Tryz.ty99) (.node .nil (some Tryz.ty227) .nil))) (some Tryz.ty19) (.node (.node .nil (some Tryz.ty83) (.node .nil (some Tryz.ty211) .nil)) (some Tryz.ty51) (.node (.node .nil (some Tryz.ty179) .nil) (some Tryz.ty115) (.node .nil (some Tryz.ty243) .nil)))) (some Tryz.ty11) (.node (.node (.node (.node .nil (some Tryz.ty139) .nil) (some Tryz.ty75) (.node .nil (some Tryz.ty203) .nil)) (some Tryz.ty43) (.node (.node .nil (some Tryz.ty171) .nil) none (.node .nil (some Tryz.ty235) .nil))) (some Tryz.ty27) (.node (.node (.node .nil (some Tryz.ty155) .nil) (some Tryz.ty91) .nil) (some Tryz.ty59) (.node (.node .nil (some Tryz.ty187) .nil) (some Tryz.ty123) (.node .nil (some Tryz.ty251) .nil)))))) (some Tryz.ty1) (.node (.node (.node (.node (.node (.node .nil (some Tryz.ty129) .nil) (some Tryz.ty65) (.node .nil (some Tryz.ty193) .nil)) (some Tryz.ty33) (.node .nil (some Tryz.ty97) (.node .nil (some Tryz.ty225) .nil))) (some Tryz.ty17) (.node (.node (.node .nil (some Tryz.ty145) .nil) (some Tryz.ty81) (.node .nil (some Tryz.ty209) .nil)) (some Tryz.ty49) (.node (.node .nil (some Tryz.ty177) .nil) (some Tryz.ty113) (.node .nil (some Tryz.ty241) .nil)))) (some Tryz.ty9) (.node (.node (.node (.node .nil (some Tryz.ty137) .nil) (some Tryz.ty73) (.node .nil (some Tryz.ty201) .nil)) (some Tryz.ty41) (.node (.node .nil (some Tryz.ty169) .nil) (some Tryz.ty105) (.node .nil (some Tryz.ty233) .nil))) (some Tryz.ty25) (.node (.node (.node .nil (some Tryz.ty153) .nil) (some Tryz.ty89) (.node .nil (some Tryz.ty217) .nil)) (some Tryz.ty57) (.node (.node .nil (some Tryz.ty185) .nil) none (.node .nil (some Tryz.ty249) .nil))))) (some Tryz.ty5) (.node (.node (.node (.node (.node .nil (some Tryz.ty133) .nil) (some Tryz.ty69) (.node .nil (some Tryz.ty197) .nil)) (some Tryz.ty37) (.node (.node .nil (some Tryz.ty165) .nil) (some Tryz.ty101) (.node .nil (some Tryz.ty229) .nil))) (some Tryz.ty21) (.node (.node .nil (some Tryz.ty85) (.node .nil (some Tryz.ty213) .nil)) (some Tryz.ty53) (.node (.node .nil (some Tryz.ty181) .nil) (some Tryz.ty117) (.node .nil (some Tryz.ty245) .nil)))) (some Tryz.ty13) (.node (.node (.node (.node .nil (some Tryz.ty141) .nil) (some Tryz.ty77) .nil) (some Tryz.ty45) (.node (.node .nil (some Tryz.ty173) .nil) none (.node .nil (some Tryz.ty237) .nil))) (some Tryz.ty29) (.node (.node (.node .nil (some Tryz.ty157) .nil) none (.node .nil (some Tryz.ty221) .nil)) (some Tryz.ty61) (.node (.node .nil (some Tryz.ty189) .nil) (some Tryz.ty125) (.node .nil (some Tryz.ty253) .nil))))))) none (.node (.node (.node (.node (.node (.node (.node .nil (some Tryz.ty128) .nil) (some Tryz.ty64) (.node .nil (some Tryz.ty192) .nil)) (some Tryz.ty32) (.node (.node .nil (some Tryz.ty160) .nil) (some Tryz.ty96) (.node .nil (some Tryz.ty224) .nil))) (some Tryz.ty16) (.node (.node (.node .nil (some Tryz.ty144) .nil) (some Tryz.ty80) (.node .nil (some Tryz.ty208) .nil)) (some Tryz.ty48) (.node (.node .nil (some Tryz.ty176) .nil) none .nil))) (some Tryz.ty8) (.node (.node (.node (.node .nil (some Tryz.ty136) .nil) (some Tryz.ty72) (.node .nil (some Tryz.ty200) .nil)) (some Tryz.ty40) (.node (.node .nil (some Tryz.ty168) .nil) (some Tryz.ty104) (.node .nil (some Tryz.ty232) .nil))) (some Tryz.ty24) (.node (.node (.node .nil (some Tryz.ty152) .nil) (some Tryz.ty88) (.node .nil (some Tryz.ty216) .nil)) (some Tryz.ty56) (.node .nil (some Tryz.ty120) (.node .nil (some Tryz.ty248) .nil))))) (some Tryz.ty4) (.node (.node (.node (.node (.node .nil (some Tryz.ty132) .nil) (some Tryz.ty68) (.node .nil (some Tryz.ty196) .nil)) none (.node (.node .nil (some Tryz.ty164) .nil) (some Tryz.ty100) .nil)) (some Tryz.ty20) (.node (.node (.node .nil (some Tryz.ty148) .nil) (some Tryz.ty84) (.node .nil (some Tryz.ty212) .nil)) (some Tryz.ty52) (.node (.node .nil (some Tryz.ty180) .nil) (some Tryz.ty116) (.node .nil (some Tryz.ty244) .nil)))) (some Tryz.ty12) (.node (.node (.node (.node .nil (some Tryz.ty140) .nil) (some Tryz.ty76) (.node .nil (some Tryz.ty204) .nil)) (some Tryz.ty44) (.node (.node .nil (some Tryz.ty172) .nil) (some Tryz.ty108) (.node .nil (some Tryz.ty236) .nil))) (some Tryz.ty28) (.node (.node .nil (some Tryz.ty92) (.node .nil (some Tryz.ty220) .nil)) (some Tryz.ty60) (.node (.node .nil (some Tryz.ty188) .nil) none (.node .nil (some Tryz.ty252) .nil)))))) (some Tryz.ty2) (.node (.node (.node (.node (.node (.node .nil (some Tryz.ty130) .nil) (some Tryz.ty66) (.node .nil (some Tryz.ty194) .nil)) (some Tryz.ty34) (.node (.node .nil (some Tryz.ty162) .nil) (some Tryz.ty98) (.node .nil (some Tryz.ty226) .nil))) (some Tryz.ty18) (.node (.node (.node .nil (some Tryz.ty146) .nil) (some Tryz.ty82) (.node .nil (some Tryz.ty210) .nil)) (some Tryz.ty50) (.node (.node .nil (some Tryz.ty178) .nil) (some Tryz.ty114) (.node .nil (some Tryz.ty242) .nil)))) (some Tryz.ty10) (.node (.node (.node .nil (some Tryz.ty74) (.node .nil (some Tryz.ty202) .nil)) (some Tryz.ty42) (.node (.node .nil (some Tryz.ty170) .nil) (some Tryz.ty106) (.node .nil (some Tryz.ty234) .nil))) (some Tryz.ty26) (.node (.node (.node .nil (some Tryz.ty154) .nil) (some Tryz.ty90) (.node .nil (some Tryz.ty218) .nil)) (some Tryz.ty58) (.node (.node .nil (some Tryz.ty186) .nil) (some Tryz.ty122) (.node .nil (some Tryz.ty250) .nil))))) (some Tryz.ty6) (.node (.node (.node (.node .nil (some Tryz.ty70) (.node .nil (some Tryz.ty198) .nil)) none (.node (.node .nil (some Tryz.ty166) .nil) (some Tryz.ty102) (.node .nil (some Tryz.ty230) .nil))) (some Tryz.ty22) (.node (.node (.node .nil (some Tryz.ty150) .nil) (some Tryz.ty86) (.node .nil (some Tryz.ty214) .nil)) (some Tryz.ty54) (.node (.node .nil (some Tryz.ty182) .nil) (some Tryz.ty118) (.node .nil (some Tryz.ty246) .nil)))) (some Tryz.ty14) (.node (.node (.node (.node .nil (some Tryz.ty142) .nil) (some Tryz.ty78) (.node .nil (some Tryz.ty206) .nil)) (some Tryz.ty46) (.node (.node .nil (some Tryz.ty174) .nil) (some Tryz.ty110) (.node .nil (some Tryz.ty238) .nil))) (some Tryz.ty30) (.node (.node (.node .nil (some Tryz.ty158) .nil) (some Tryz.ty94) (.node .nil (some Tryz.ty222) .nil)) (some Tryz.ty62) (.node (.node .nil (some Tryz.ty190) .nil) none .nil)))))))
noncomputable def Tryz.fns : Tr FI := (.node (.node (.node (.node (.node (.node (.node (.node .nil (some Tryz.fi127) .nil) (some Tryz.fi63) (.node .nil (some Tryz.fi191) .nil)) (some Tryz.fi31) (.node (.node .nil (some Tryz.fi159) .nil) (some Tryz.fi95) (.node .nil (some Tryz.fi223) .nil))) (some Tryz.fi15) (.node (.node (.node .nil (some Tryz.fi143) .nil) (some Tryz.fi79) (.node .nil (some Tryz.fi207) .nil)) (some Tryz.fi47) (.node (.node .nil (some Tryz.fi175) .nil) (some Tryz.fi111) (.node .nil (some Tryz.fi239) .nil)))) (some Tryz.fi7) (.node (.node (.node (.node .nil (some Tryz.fi135) .nil) (some Tryz.fi71) (.node .nil (some Tryz.fi199) .nil)) (some Tryz.fi39) (.node (.node .nil (some Tryz.fi167) .nil) (some Tryz.fi103) (.node .nil (some Tryz.fi231) .nil))) (some Tryz.fi23) (.node (.node (.node .nil (some Tryz.fi151) .nil) (some Tryz.fi87) (.node .nil (some Tryz.fi215) .nil)) (some Tryz.fi55) (.node (.node .nil (some Tryz.fi183) .nil) (some Tryz.fi119) .nil)))) (some Tryz.fi3) (.node (.node (.node (.node (.node .nil (some Tryz.fi131) .nil) (some Tryz.fi67) (.node .nil (some Tryz.fi195) .nil)) (some Tryz.fi35) (.node (.node .nil (some Tryz.fi163) .nil) (some Tryz.fi99) (.node .nil (some Tryz.fi227) .nil))) (some Tryz.fi19) (.node (.node (.node .nil (some Tryz.fi147) .nil) (some Tryz.fi83) (.node .nil (some Tryz.fi211) .nil)) (some Tryz.fi51) (.node (.node .nil (some Tryz.fi179) .nil) (some Tryz.fi115) (.node .nil (some Tryz.fi243) .nil)))) (some Tryz.fi11) (.node (.node (.node (.node .nil (some Tryz.fi139) .nil) (some Tryz.fi75) (.node .nil (some Tryz.fi203) .nil)) (some Tryz.fi43) (.node (.node .nil (some Tryz.fi171) .nil) (some Tryz.fi107) (.node .nil (some Tryz.fi235) .nil))) (some Tryz.fi27) (.node (.node (.node .nil (some Tryz.fi155) .nil) (some Tryz.fi91) (.node .nil (some Tryz.fi219) .nil)) (some Tryz.fi59) (.node (.node .nil (some Tryz.fi187) .nil) (some Tryz.fi123) .nil))))) (some Tryz.fi1) (.node (.node (.node (.node (.node (.node .nil (some Tryz.fi129) .nil) (some Tryz.fi65) (.node .nil (some Tryz.fi193) .nil)) (some Tryz.fi33) (.node (.node .nil (some Tryz.fi161) .nil) (some Tryz.fi97) (.node .nil (some Tryz.fi225) .nil))) (some Tryz.fi17) (.node (.node (.node .nil (some Tryz.fi145) .nil) (some Tryz.fi81) (.node .nil (some Tryz.fi209) .nil)) (some Tryz.fi49) (.node (.node .nil (some Tryz.fi177) .nil) (some Tryz.fi113) (.node .nil (some Tryz.fi241) .nil)))) (some Tryz.fi9) (.node (.node (.node (.node .nil (some Tryz.fi137) .nil) (some Tryz.fi73) (.node .nil (some Tryz.fi201) .nil)) (some Tryz.fi41) (.node (.node .nil (some Tryz.fi169) .nil) (some Tryz.fi105) (.node .nil (some Tryz.fi233) .nil))) (some Tryz.fi25) (.node (.node (.node .nil (some Tryz.fi153) .nil) (some Tryz.fi89) (.node .nil (some Tryz.fi217) .nil)) (some Tryz.fi57) (.node (.node .nil (some Tryz.fi185) .nil) (some Tryz.fi121) .nil)))) (some Tryz.fi5) (.node (.node (.node (.node (.node .nil (some Tryz.fi133) .nil) (some Tryz.fi69) (.node .nil (some Tryz.fi197) .nil)) (some Tryz.fi37) (.node (.node .nil (some Tryz.fi165) .nil) (some Tryz.fi101) (.node .nil (some Tryz.fi229) .nil))) (some Tryz.fi21) (.node (.node (.node .nil (some Tryz.fi149) .nil) (some Tryz.fi85) (.node .nil (some Tryz.fi213) .nil)) (some Tryz.fi53) (.node (.node .nil (some Tryz.fi181) .nil) (some Tryz.fi117) (.node .nil (some Tryz.fi245) .nil)))) (some Tryz.fi13) (.node (.node (.node (.node .nil (some Tryz.fi141) .nil) (some Tryz.fi77) (.node .nil (some Tryz.fi205) .nil)) (some Tryz.fi45) (.node (.node .nil (some Tryz.fi173) .nil) (some Tryz.fi109) (.node .nil (some Tryz.fi237) .nil))) (some Tryz.fi29) (.node (.node (.node .nil (some Tryz.fi157) .nil) (some Tryz.fi93) (.node .nil (some Tryz.fi221) .nil)) (some Tryz.fi61) (.node (.node .nil (some Tryz.fi189) .nil) (some Tryz.fi125) .nil)))))) (some Tryz.fi0) (.node (.node (.node (.node (.node (.node (.node .nil (some Tryz.fi128) .nil) (some Tryz.fi64) (.node .nil (some Tryz.fi192) .nil)) (some Tryz.fi32) (.node (.node .nil (some Tryz.fi160) .nil) (some Tryz.fi96) (.node .nil (some Tryz.fi224) .nil))) (some Tryz.fi16) (.node (.node (.node .nil (some Tryz.fi144) .nil) (some Tryz.fi80) (.node .nil (some Tryz.fi208) .nil)) (some Tryz.fi48) (.node (.node .nil (some Tryz.fi176) .nil) (some Tryz.fi112) (.node .nil (some Tryz.fi240) .nil)))) (some Tryz.fi8) (.node (.node (.node (.node .nil (some Tryz.fi136) .nil) (some Tryz.fi72) (.node .nil (some Tryz.fi200) .nil)) (some Tryz.fi40) (.node (.node .nil (some Tryz.fi168) .nil) (some Tryz.fi104) (.node .nil (some Tryz.fi232) .nil))) (some Tryz.fi24) (.node (.node (.node .nil (some Tryz.fi152) .nil) (some Tryz.fi88) (.node .nil (some Tryz.fi216) .nil)) (some Tryz.fi56) (.node (.node .nil (some Tryz.fi184) .nil) (some Tryz.fi120) .nil)))) (some Tryz.fi4) (.node (.node (.node (.node (.node .nil (some Tryz.fi132) .nil) (some Tryz.fi68) (.node .nil (some Tryz.fi196) .nil)) (some Tryz.fi36) (.node (.node .nil (some Tryz.fi164) .nil) (some Tryz.fi100) (.node .nil (some Tryz.fi228) .nil))) (some Tryz.fi20) (.node (.node (.node .nil (some Tryz.fi148) .nil) (some Tryz.fi84) (.node .nil (some Tryz.fi212) .nil)) (some Tryz.fi52) (.node (.node .nil (some Tryz.fi180) .nil) (some Tryz.fi116) (.node .nil (some Tryz.fi244) .nil)))) (some Tryz.fi12) (.node (.node (.node (.node .nil (some Tryz.fi140) .nil) (some Tryz.fi76) (.node .nil (some Tryz.fi204) .nil)) (some Tryz.fi44) (.node (.node .nil (some Tryz.fi172) .nil) (some Tryz.fi108) (.node .nil (some Tryz.fi236) .nil))) (some Tryz.fi28) (.node (.node (.node .nil (some Tryz.fi156) .nil) (some Tryz.fi92) (.node .nil (some Tryz.fi220) .nil)) (some Tryz.fi60) (.node (.node .nil (some Tryz.fi188) .nil) (some Tryz.fi124) .nil))))) (some Tryz.fi2) (.node (.node (.node (.node (.node (.node .nil (some Tryz.fi130) .nil) (some Tryz.fi66) (.node .nil (some Tryz.fi194) .nil)) (some Tryz.fi34) (.node (.node .nil (some Tryz.fi162) .nil) (some Tryz.fi98) (.node .nil (some Tryz.fi226) .nil))) (some Tryz.fi18) (.node (.node (.node .nil (some Tryz.fi146) .nil) (some Tryz.fi82) (.node .nil (some Tryz.fi210) .nil)) (some Tryz.fi50) (.node (.node .nil (some Tryz.fi178) .nil) (some Tryz.fi114) (.node .nil (some Tryz.fi242) .nil)))) (some Tryz.fi10) (.node (.node (.node (.node .nil (some Tryz.fi138) .nil) (some Tryz.fi74) (.node .nil (some Tryz.fi202) .nil)) (some Tryz.fi42) (.node (.node .nil (some Tryz.fi170) .nil) (some Tryz.fi106) (.node .nil (some Tryz.fi234) .nil))) (some Tryz.fi26) (.node (.node (.node .nil (some Tryz.fi154) .nil) (some Tryz.fi90) (.node .nil (some Tryz.fi218) .nil)) (some Tryz.fi58) (.node (.node .nil (some Tryz.fi186) .nil) (some Tryz.fi122) .nil)))) (some Tryz.fi6) (.node (.node (.node (.node (.node .nil (some Tryz.fi134) .nil) (some Tryz.fi70) (.node .nil (some Tryz.fi198) .nil)) (some Tryz.fi38) (.node (.node .nil (some Tryz.fi166) .nil) (some Tryz.fi102) (.node .nil (some Tryz.fi230) .nil))) (some Tryz.fi22) (.node (.node (.node .nil (some Tryz.fi150) .nil) (some Tryz.fi86) (.node .nil (some Tryz.fi214) .nil)) (some Tryz.fi54) (.node (.node .nil (some Tryz.fi182) .nil) (some Tryz.fi118) .nil))) (some Tryz.fi14) (.node (.node (.node (.node .nil (some Tryz.fi142) .nil) (some Tryz.fi78) (.node .nil (some Tryz.fi206) .nil)) (some Tryz.fi46) (.node (.node .nil (some Tryz.fi174) .nil) (some Tryz.fi110) (.node .nil (some Tryz.fi238) .nil))) (some Tryz.fi30) (.node (.node (.node .nil (some Tryz.fi158) .nil) (some Tryz.fi94) (.node .nil (some Tryz.fi222) .nil)) (some Tryz.fi62) (.node (.node .nil (some Tryz.fi190) .nil) (some Tryz.fi126) .nil)))))))
theorem Tryz.tyAll : Tryz.ty.allI (chkTy Go.Proofs.Tryz.prog) id = true := by kernel_rfl
theorem Tryz.fnsAll : Tryz.fns.AllP (FnOk Go.Proofs.Tryz.prog) id := (And.intro Tryz.fnok0 (And.intro (And.intro Tryz.fnok1 (And.intro (And.intro Tryz.fnok3 (And.intro (And.intro Tryz.fnok7 (And.intro (And.intro Tryz.fnok15 (And.intro (And.intro Tryz.fnok31 (And.intro (And.intro Tryz.fnok63 (And.intro (And.intro Tryz.fnok127 (And.intro trivial trivial)) (And.intro Tryz.fnok191 (And.intro trivial trivial)))) (And.intro Tryz.fnok95 (And.intro (And.intro Tryz.fnok159 (And.intro trivial trivial)) (And.intro Tryz.fnok223 (And.intro trivial trivial)))))) (And.intro Tryz.fnok47 (And.intro (And.intro Tryz.fnok79 (And.intro (And.intro Tryz.fnok143 (And.intro trivial trivial)) (And.intro Tryz.fnok207 (And.intro trivial trivial)))) (And.intro Tryz.fnok111 (And.intro (And.intro Tryz.fnok175 (And.intro trivial trivial)) (And.intro Tryz.fnok239 (And.intro trivial trivial)))))))) (And.intro Tryz.fnok23 (And.intro (And.intro Tryz.fnok39 (And.intro (And.intro Tryz.fnok71 (And.intro (And.intro Tryz.fnok135 (And.intro trivial trivial)) (And.intro Tryz.fnok199 (And.intro trivial trivial)))) (And.intro Tryz.fnok103 (And.intro (And.intro Tryz.fnok167 (And.intro trivial trivial)) (And.intro Tryz.fnok231 (And.intro trivial trivial)))))) (And.intro Tryz.fnok55 (And.intro (And.intro Tryz.fnok87 (And.intro (And.intro Tryz.fnok151 (And.intro trivial trivial)) (And.intro Tryz.fnok215 (And.intro trivial trivial)))) (And.intro Tryz.fnok119 (And.intro (And.intro Tryz.fnok183 (And.intro trivial trivial)) trivial)))))))) (And.intro Tryz.fnok11 (And.intro (And.intro Tryz.fnok19 (And.intro (And.intro Tryz.fnok35 (And.intro (And.intro Tryz.fnok67 (And.intro (And.intro Tryz.fnok131 (And.intro trivial trivial)) (And.intro Tryz.fnok195 (And.intro trivial trivial)))) (And.intro Tryz.fnok99 (And.intro (And.intro Tryz.fnok163 (And.intro trivial trivial)) (And.intro Tryz.fnok227 (And.intro trivial trivial)))))) (And.intro Tryz.fnok51 (And.intro (And.intro Tryz.fnok83 (And.intro (And.intro Tryz.fnok147 (And.intro trivial trivial)) (And.intro Tryz.fnok211 (And.intro trivial trivial)))) (And.intro Tryz.fnok115 (And.intro (And.intro Tryz.fnok179 (And.intro trivial trivial)) (And.intro Tryz.fnok243 (And.intro trivial trivial)))))))) (And.intro Tryz.fnok27 (And.intro (And.intro Tryz.fnok43 (And.intro (And.intro Tryz.fnok75 (And.intro (And.intro Tryz.fnok139 (And.intro trivial trivial)) (And.intro Tryz.fnok203 (And.intro trivial trivial)))) (And.intro Tryz.fnok107 (And.intro (And.intro Tryz.fnok171 (And.intro trivial trivial)) (And.intro Tryz.fnok235 (And.intro trivial trivial)))))) (And.intro Tryz.fnok59 (And.intro (And.intro Tryz.fnok91 (And.intro (And.intro Tryz.fnok155 (And.intro trivial trivial)) (And.intro Tryz.fnok219 (And.intro trivial trivial)))) (And.intro Tryz.fnok123 (And.intro (And.intro Tryz.fnok187 (And.intro trivial trivial)) trivial)))))))))) (And.intro Tryz.fnok5 (And.intro (And.intro Tryz.fnok9 (And.intro (And.intro Tryz.fnok17 (And.intro (And.intro Tryz.fnok33 (And.intro (And.intro Tryz.fnok65 (And.intro (And.intro Tryz.fnok129 (And.intro trivial trivial)) (And.intro Tryz.fnok193 (And.intro trivial trivial)))) (And.intro Tryz.fnok97 (And.intro (And.intro Tryz.fnok161 (And.intro trivial trivial)) (And.intro Tryz.fnok225 (And.intro trivial trivial)))))) (And.intro Tryz.fnok49 (And.intro (And.intro Tryz.fnok81 (And.intro (And.intro Tryz.fnok145 (And.intro trivial trivial)) (And.intro Tryz.fnok209 (And.intro trivial trivial)))) (And.intro Tryz.fnok113 (And.intro (And.intro Tryz.fnok177 (And.intro trivial trivial)) (And.intro Tryz.fnok241 (And.intro trivial trivial)))))))) (And.intro Tryz.fnok25 (And.intro (And.intro Tryz.fnok41 (And.intro (And.intro Tryz.fnok73 (And.intro (And.intro Tryz.fnok137 (And.intro trivial trivial)) (And.intro Tryz.fnok201 (And.intro trivial trivial)))) (And.intro Tryz.fnok105 (And.intro (And.intro Tryz.fnok169 (And.intro trivial trivial)) (And.intro Tryz.fnok233 (And.intro trivial trivial)))))) (And.intro Tryz.fnok57 (And.intro (And.intro Tryz.fnok89 (And.intro (And.intro Tryz.fnok153 (And.intro trivial trivial)) (And.intro Tryz.fnok217 (And.intro trivial trivial)))) (And.intro Tryz.fnok121 (And.intro (And.intro Tryz.fnok185 (And.intro trivial trivial)) trivial)))))))) (And.intro Tryz.fnok13 (And.intro (And.intro Tryz.fnok21 (And.intro (And.intro Tryz.fnok37 (And.intro (And.intro Tryz.fnok69 (And.intro (And.intro Tryz.fnok133 (And.intro trivial trivial)) (And.intro Tryz.fnok197 (And.intro trivial trivial)))) (And.intro Tryz.fnok101 (And.intro (And.intro Tryz.fnok165 (And.intro trivial trivial)) (And.intro Tryz.fnok229 (And.intro trivial trivial)))))) (And.intro Tryz.fnok53 (And.intro (And.intro Tryz.fnok85 (And.intro (And.intro Tryz.fnok149 (And.intro trivial trivial)) (And.intro Tryz.fnok213 (And.intro trivial trivial)))) (And.intro Tryz.fnok117 (And.intro (And.intro Tryz.fnok181 (And.intro trivial trivial)) (And.intro Tryz.fnok245 (And.intro trivial trivial)))))))) (And.intro Tryz.fnok29 (And.intro (And.intro Tryz.fnok45 (And.intro (And.intro Tryz.fnok77 (And.intro (And.intro Tryz.fnok141 (And.intro trivial trivial)) (And.intro Tryz.fnok205 (And.intro trivial trivial)))) (And.intro Tryz.fnok109 (And.intro (And.intro Tryz.fnok173 (And.intro trivial trivial)) (And.intro Tryz.fnok237 (And.intro trivial trivial)))))) (And.intro Tryz.fnok61 (And.intro (And.intro Tryz.fnok93 (And.intro (And.intro Tryz.fnok157 (And.intro trivial trivial)) (And.intro Tryz.fnok221 (And.intro trivial trivial)))) (And.intro Tryz.fnok125 (And.intro (And.intro Tryz.fnok189 (And.intro trivial trivial)) trivial)))))))))))) (And.intro Tryz.fnok2 (And.intro (And.intro Tryz.fnok4 (And.intro (And.intro Tryz.fnok8 (And.intro (And.intro Tryz.fnok16 (And.intro (And.intro Tryz.fnok32 (And.intro (And.intro Tryz.fnok64 (And.intro (And.intro Tryz.fnok128 (And.intro trivial trivial)) (And.intro Tryz.fnok192 (And.intro trivial trivial)))) (And.intro Tryz.fnok96 (And.intro (And.intro Tryz.fnok160 (And.intro trivial trivial)) (And.intro Tryz.fnok224 (And.intro trivial trivial)))))) (And.intro Tryz.fnok48 (And.intro (And.intro Tryz.fnok80 (And.intro (And.intro Tryz.fnok144 (And.intro trivial trivial)) (And.intro Tryz.fnok208 (And.intro trivial trivial)))) (And.intro Tryz.fnok112 (And.intro (And.intro Tryz.fnok176 (And.intro trivial trivial)) (And.intro Tryz.fnok240 (And.intro trivial trivial)))))))) (And.intro Tryz.fnok24 (And.intro (And.intro Tryz.fnok40 (And.intro (And.intro Tryz.fnok72 (And.intro (And.intro Tryz.fnok136 (And.intro trivial trivial)) (And.intro Tryz.fnok200 (And.intro trivial trivial)))) (And.intro Tryz.fnok104 (And.intro (And.intro Tryz.fnok168 (And.intro trivial trivial)) (And.intro Tryz.fnok232 (And.intro trivial trivial)))))) (And.intro Tryz.fnok56 (And.intro (And.intro Tryz.fnok88 (And.intro (And.intro Tryz.fnok152 (And.intro trivial trivial)) (And.intro Tryz.fnok216 (And.intro trivial trivial)))) (And.intro Tryz.fnok120 (And.intro (And.intro Tryz.fnok184 (And.intro trivial trivial)) trivial)))))))) (And.intro Tryz.fnok12 (And.intro (And.intro Tryz.fnok20 (And.intro (And.intro Tryz.fnok36 (And.intro (And.intro Tryz.fnok68 (And.intro (And.intro Tryz.fnok132 (And.intro trivial trivial)) (And.intro Tryz.fnok196 (And.intro trivial trivial)))) (And.intro Tryz.fnok100 (And.intro (And.intro Tryz.fnok164 (And.intro trivial trivial)) (And.intro Tryz.fnok228 (And.intro trivial trivial)))))) (And.intro Tryz.fnok52 (And.intro (And.intro Tryz.fnok84 (And.intro (And.intro Tryz.fnok148 (And.intro trivial trivial)) (And.intro Tryz.fnok212 (And.intro trivial trivial)))) (And.intro Tryz.fnok116 (And.intro (And.intro Tryz.fnok180 (And.intro trivial trivial)) (And.intro Tryz.fnok244 (And.intro trivial trivial)))))))) (And.intro Tryz.fnok28 (And.intro (And.intro Tryz.fnok44 (And.intro (And.intro Tryz.fnok76 (And.intro (And.intro Tryz.fnok140 (And.intro trivial trivial)) (And.intro Tryz.fnok204 (And.intro trivial trivial)))) (And.intro Tryz.fnok108 (And.intro (And.intro Tryz.fnok172 (And.intro trivial trivial)) (And.intro Tryz.fnok236 (And.intro trivial trivial)))))) (And.intro Tryz.fnok60 (And.intro (And.intro Tryz.fnok92 (And.intro (And.intro Tryz.fnok156 (And.intro trivial trivial)) (And.intro Tryz.fnok220 (And.intro trivial trivial)))) (And.intro Tryz.fnok124 (And.intro (And.intro Tryz.fnok188 (And.intro trivial trivial)) trivial)))))))))) (And.intro Tryz.fnok6 (And.intro (And.intro Tryz.fnok10 (And.intro (And.intro Tryz.fnok18 (And.intro (And.intro Tryz.fnok34 (And.intro (And.intro Tryz.fnok66 (And.intro (And.intro Tryz.fnok130 (And.intro trivial trivial)) (And.intro Tryz.fnok194 (And.intro trivial trivial)))) (And.intro Tryz.fnok98 (And.intro (And.intro Tryz.fnok162 (And.intro trivial trivial)) (And.intro Tryz.fnok226 (And.intro trivial trivial)))))) (And.intro Tryz.fnok50 (And.intro (And.intro Tryz.fnok82 (And.intro (And.intro Tryz.fnok146 (And.intro trivial trivial)) (And.intro Tryz.fnok210 (And.intro trivial trivial)))) (And.intro Tryz.fnok114 (And.intro (And.intro Tryz.fnok178 (And.intro trivial trivial)) (And.intro Tryz.fnok242 (And.intro trivial trivial)))))))) (And.intro Tryz.fnok26 (And.intro (And.intro Tryz.fnok42 (And.intro (And.intro Tryz.fnok74 (And.intro (And.intro Tryz.fnok138 (And.intro trivial trivial)) (And.intro Tryz.fnok202 (And.intro trivial trivial)))) (And.intro Tryz.fnok106 (And.intro (And.intro Tryz.fnok170 (And.intro trivial trivial)) (And.intro Tryz.fnok234 (And.intro trivial trivial)))))) (And.intro Tryz.fnok58 (And.intro (And.intro Tryz.fnok90 (And.intro (And.intro Tryz.fnok154 (And.intro trivial trivial)) (And.intro Tryz.fnok218 (And.intro trivial trivial)))) (And.intro Tryz.fnok122 (And.intro (And.intro Tryz.fnok186 (And.intro trivial trivial)) trivial)))))))) (And.intro Tryz.fnok14 (And.intro (And.intro Tryz.fnok22 (And.intro (And.intro Tryz.fnok38 (And.intro (And.intro Tryz.fnok70 (And.intro (And.intro Tryz.fnok134 (And.intro trivial trivial)) (And.intro Tryz.fnok198 (And.intro trivial trivial)))) (And.intro Tryz.fnok102 (And.intro (And.intro Tryz.fnok166 (And.intro trivial trivial)) (And.intro Tryz.fnok230 (And.intro trivial trivial)))))) (And.intro Tryz.fnok54 (And.intro (And.intro Tryz.fnok86 (And.intro (And.intro Tryz.fnok150 (And.intro trivial trivial)) (And.intro Tryz.fnok214 (And.intro trivial trivial)))) (And.intro Tryz.fnok118 (And.intro (And.intro Tryz.fnok182 (And.intro trivial trivial)) trivial)))))) (And.intro Tryz.fnok30 (And.intro (And.intro Tryz.fnok46 (And.intro (And.intro Tryz.fnok78 (And.intro (And.intro Tryz.fnok142 (And.intro trivial trivial)) (And.intro Tryz.fnok206 (And.intro trivial trivial)))) (And.intro Tryz.fnok110 (And.intro (And.intro Tryz.fnok174 (And.intro trivial trivial)) (And.intro Tryz.fnok238 (And.intro trivial trivial)))))) (And.intro Tryz.fnok62 (And.intro (And.intro Tryz.fnok94 (And.intro (And.intro Tryz.fnok158 (And.intro trivial trivial)) (And.intro Tryz.fnok222 (And.intro trivial trivial)))) (And.intro Tryz.fnok126 (And.intro (And.intro Tryz.fnok190 (And.intro trivial trivial)) trivial))))))))))))))
end Go.AM
