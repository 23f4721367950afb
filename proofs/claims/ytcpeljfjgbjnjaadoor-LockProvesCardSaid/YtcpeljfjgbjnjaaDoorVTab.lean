/- The types of this seat's translation, as the interpreter looks at them. Made by gen_tab.py. -/
import Derived.Test.YtcpeljfjgbjnjaaDoorVDef
namespace Go.Proofs.YtcpeljfjgbjnjaaDoor
open Go Go.Vi
def ty1 : TI := { desc := .func, size := 1, bytes := 8, zero := [.nilfn], lk := [.any] }
def ty2 : TI := { desc := .int .i64, size := 1, bytes := 8, zero := [.int .i64 0], lk := [.int .i64] }
def ty3 : TI := { desc := .int .i64, size := 1, bytes := 8, zero := [.int .i64 0], lk := [.int .i64] }
def ty4 : TI := { desc := .bool, size := 1, bytes := 1, zero := [.bool false], lk := [.bool] }
def ty5 : TI := { desc := .int .u8, size := 1, bytes := 1, zero := [.int .u8 0], lk := [.int .u8] }
def ty6 : TI := { desc := .int .u8, size := 1, bytes := 1, zero := [.int .u8 0], lk := [.int .u8] }
def ty7 : TI := { desc := .struct [(0, 2), (1, 3), (2, 4), (3, 6)], size := 4, bytes := 24, zero := [.int .i64 0, .int .i64 0, .bool false, .int .u8 0], lk := [.int .i64, .int .i64, .bool, .int .u8] }
def ty8 : TI := { desc := .struct [(0, 2), (1, 3), (2, 4), (3, 6)], size := 4, bytes := 24, zero := [.int .i64 0, .int .i64 0, .bool false, .int .u8 0], lk := [.int .i64, .int .i64, .bool, .int .u8] }
def ty9 : TI := { desc := .str, size := 1, bytes := 16, zero := [.str ⟨#[]⟩], lk := [.str] }
def ty10 : TI := { desc := .str, size := 1, bytes := 16, zero := [.str ⟨#[]⟩], lk := [.str] }
def ty11 : TI := { desc := .str, size := 1, bytes := 16, zero := [.str ⟨#[]⟩], lk := [.str] }
def ty12 : TI := { desc := .int .u64, size := 1, bytes := 8, zero := [.int .u64 0], lk := [.int .u64] }
def ty13 : TI := { desc := .struct [(0, 9), (1, 12)], size := 2, bytes := 24, zero := [.str ⟨#[]⟩, .int .u64 0], lk := [.str, .int .u64] }
def ty14 : TI := { desc := .struct [(0, 9), (1, 12)], size := 2, bytes := 24, zero := [.str ⟨#[]⟩, .int .u64 0], lk := [.str, .int .u64] }
def ty15 : TI := { desc := .pointer, size := 1, bytes := 8, zero := [.nilptr], lk := [.any] }
def ty16 : TI := { desc := .pointer, size := 1, bytes := 8, zero := [.nilptr], lk := [.any] }
def ty17 : TI := { desc := .pointer, size := 1, bytes := 8, zero := [.nilptr], lk := [.any] }
def ty18 : TI := { desc := .struct [(0, 17)], size := 1, bytes := 8, zero := [.nilptr], lk := [.any] }
def ty19 : TI := { desc := .struct [(0, 17)], size := 1, bytes := 8, zero := [.nilptr], lk := [.any] }
def ty21 : TI := { desc := .int .i32, size := 1, bytes := 4, zero := [.int .i32 0], lk := [.int .i32] }
def ty22 : TI := { desc := .func, size := 1, bytes := 8, zero := [.nilfn], lk := [.any] }
def ty23 : TI := { desc := .int .i64, size := 1, bytes := 8, zero := [.int .i64 0], lk := [.int .i64] }
def ty25 : TI := { desc := .func, size := 1, bytes := 8, zero := [.nilfn], lk := [.any] }
def ty26 : TI := { desc := .func, size := 1, bytes := 8, zero := [.nilfn], lk := [.any] }
def ty27 : TI := { desc := .func, size := 1, bytes := 8, zero := [.nilfn], lk := [.any] }
def ty28 : TI := { desc := .struct [(0, 9), (1, 4)], size := 2, bytes := 24, zero := [.str ⟨#[]⟩, .bool false], lk := [.str, .bool] }
def ty29 : TI := { desc := .struct [(0, 9), (1, 4)], size := 2, bytes := 24, zero := [.str ⟨#[]⟩, .bool false], lk := [.str, .bool] }
def ty30 : TI := { desc := .func, size := 1, bytes := 8, zero := [.nilfn], lk := [.any] }
def ty31 : TI := { desc := .slice 166, size := 1, bytes := 24, zero := [.sl 1 [] true true], lk := [.sl 1] }
def ty32 : TI := { desc := .struct [(0, 31), (1, 31)], size := 2, bytes := 48, zero := [.sl 1 [] true true, .sl 1 [] true true], lk := [.sl 1, .sl 1] }
def ty33 : TI := { desc := .struct [(0, 31), (1, 31)], size := 2, bytes := 48, zero := [.sl 1 [] true true, .sl 1 [] true true], lk := [.sl 1, .sl 1] }
def ty34 : TI := { desc := .func, size := 1, bytes := 8, zero := [.nilfn], lk := [.any] }
def ty35 : TI := { desc := .func, size := 1, bytes := 8, zero := [.nilfn], lk := [.any] }
def ty36 : TI := { desc := .slice 113, size := 1, bytes := 24, zero := [.sl 3 [] true true], lk := [.sl 3] }
def ty37 : TI := { desc := .func, size := 1, bytes := 8, zero := [.nilfn], lk := [.any] }
def ty38 : TI := { desc := .func, size := 1, bytes := 8, zero := [.nilfn], lk := [.any] }
def ty40 : TI := { desc := .func, size := 1, bytes := 8, zero := [.nilfn], lk := [.any] }
def ty41 : TI := { desc := .func, size := 1, bytes := 8, zero := [.nilfn], lk := [.any] }
def ty42 : TI := { desc := .func, size := 1, bytes := 8, zero := [.nilfn], lk := [.any] }
def ty43 : TI := { desc := .func, size := 1, bytes := 8, zero := [.nilfn], lk := [.any] }
def ty45 : TI := { desc := .func, size := 1, bytes := 8, zero := [.nilfn], lk := [.any] }
def ty46 : TI := { desc := .struct [(0, 9), (1, 9), (2, 9)], size := 3, bytes := 48, zero := [.str ⟨#[]⟩, .str ⟨#[]⟩, .str ⟨#[]⟩], lk := [.str, .str, .str] }
def ty47 : TI := { desc := .struct [(0, 9), (1, 9), (2, 9)], size := 3, bytes := 48, zero := [.str ⟨#[]⟩, .str ⟨#[]⟩, .str ⟨#[]⟩], lk := [.str, .str, .str] }
def ty48 : TI := { desc := .func, size := 1, bytes := 8, zero := [.nilfn], lk := [.any] }
def ty49 : TI := { desc := .func, size := 1, bytes := 8, zero := [.nilfn], lk := [.any] }
def ty50 : TI := { desc := .slice 5, size := 1, bytes := 24, zero := [.sl 1 [] true true], lk := [.sl 1] }
def ty51 : TI := { desc := .func, size := 1, bytes := 8, zero := [.nilfn], lk := [.any] }
def ty52 : TI := { desc := .slice 9, size := 1, bytes := 24, zero := [.sl 1 [] true true], lk := [.sl 1] }
def ty53 : TI := { desc := .int .u64, size := 1, bytes := 8, zero := [.int .u64 0], lk := [.int .u64] }
def ty54 : TI := { desc := .struct [(0, 3), (1, 53), (2, 53), (3, 53), (4, 9), (5, 9), (6, 53), (7, 53), (8, 9), (9, 53), (10, 53), (11, 9), (12, 52)], size := 13, bytes := 152, zero := [.int .i64 0, .int .u64 0, .int .u64 0, .int .u64 0, .str ⟨#[]⟩, .str ⟨#[]⟩, .int .u64 0, .int .u64 0, .str ⟨#[]⟩, .int .u64 0, .int .u64 0, .str ⟨#[]⟩, .sl 1 [] true true], lk := [.int .i64, .int .u64, .int .u64, .int .u64, .str, .str, .int .u64, .int .u64, .str, .int .u64, .int .u64, .str, .sl 1] }
def ty55 : TI := { desc := .struct [(0, 3), (1, 53), (2, 53), (3, 53), (4, 9), (5, 9), (6, 53), (7, 53), (8, 9), (9, 53), (10, 53), (11, 9), (12, 52)], size := 13, bytes := 152, zero := [.int .i64 0, .int .u64 0, .int .u64 0, .int .u64 0, .str ⟨#[]⟩, .str ⟨#[]⟩, .int .u64 0, .int .u64 0, .str ⟨#[]⟩, .int .u64 0, .int .u64 0, .str ⟨#[]⟩, .sl 1 [] true true], lk := [.int .i64, .int .u64, .int .u64, .int .u64, .str, .str, .int .u64, .int .u64, .str, .int .u64, .int .u64, .str, .sl 1] }
def ty56 : TI := { desc := .func, size := 1, bytes := 8, zero := [.nilfn], lk := [.any] }
def ty58 : TI := { desc := .func, size := 1, bytes := 8, zero := [.nilfn], lk := [.any] }
def ty60 : TI := { desc := .func, size := 1, bytes := 8, zero := [.nilfn], lk := [.any] }
def ty61 : TI := { desc := .func, size := 1, bytes := 8, zero := [.nilfn], lk := [.any] }
def ty62 : TI := { desc := .func, size := 1, bytes := 8, zero := [.nilfn], lk := [.any] }
def ty63 : TI := { desc := .func, size := 1, bytes := 8, zero := [.nilfn], lk := [.any] }
def ty64 : TI := { desc := .func, size := 1, bytes := 8, zero := [.nilfn], lk := [.any] }
def ty65 : TI := { desc := .func, size := 1, bytes := 8, zero := [.nilfn], lk := [.any] }
def ty66 : TI := { desc := .func, size := 1, bytes := 8, zero := [.nilfn], lk := [.any] }
def ty67 : TI := { desc := .func, size := 1, bytes := 8, zero := [.nilfn], lk := [.any] }
def ty68 : TI := { desc := .func, size := 1, bytes := 8, zero := [.nilfn], lk := [.any] }
def ty69 : TI := { desc := .func, size := 1, bytes := 8, zero := [.nilfn], lk := [.any] }
def ty70 : TI := { desc := .func, size := 1, bytes := 8, zero := [.nilfn], lk := [.any] }
def ty71 : TI := { desc := .func, size := 1, bytes := 8, zero := [.nilfn], lk := [.any] }
def ty72 : TI := { desc := .struct [(0, 55), (13, 4)], size := 14, bytes := 160, zero := [.int .i64 0, .int .u64 0, .int .u64 0, .int .u64 0, .str ⟨#[]⟩, .str ⟨#[]⟩, .int .u64 0, .int .u64 0, .str ⟨#[]⟩, .int .u64 0, .int .u64 0, .str ⟨#[]⟩, .sl 1 [] true true, .bool false], lk := [.int .i64, .int .u64, .int .u64, .int .u64, .str, .str, .int .u64, .int .u64, .str, .int .u64, .int .u64, .str, .sl 1, .bool] }
def ty73 : TI := { desc := .struct [(0, 55), (13, 4)], size := 14, bytes := 160, zero := [.int .i64 0, .int .u64 0, .int .u64 0, .int .u64 0, .str ⟨#[]⟩, .str ⟨#[]⟩, .int .u64 0, .int .u64 0, .str ⟨#[]⟩, .int .u64 0, .int .u64 0, .str ⟨#[]⟩, .sl 1 [] true true, .bool false], lk := [.int .i64, .int .u64, .int .u64, .int .u64, .str, .str, .int .u64, .int .u64, .str, .int .u64, .int .u64, .str, .sl 1, .bool] }
def ty74 : TI := { desc := .func, size := 1, bytes := 8, zero := [.nilfn], lk := [.any] }
def ty75 : TI := { desc := .func, size := 1, bytes := 8, zero := [.nilfn], lk := [.any] }
def ty76 : TI := { desc := .func, size := 1, bytes := 8, zero := [.nilfn], lk := [.any] }
def ty77 : TI := { desc := .func, size := 1, bytes := 8, zero := [.nilfn], lk := [.any] }
def ty78 : TI := { desc := .func, size := 1, bytes := 8, zero := [.nilfn], lk := [.any] }
def ty79 : TI := { desc := .slice 150, size := 1, bytes := 24, zero := [.sl 7 [] true true], lk := [.sl 7] }
def ty81 : TI := { desc := .func, size := 1, bytes := 8, zero := [.nilfn], lk := [.any] }
def ty82 : TI := { desc := .struct [(0, 79), (1, 3)], size := 2, bytes := 32, zero := [.sl 7 [] true true, .int .i64 0], lk := [.sl 7, .int .i64] }
def ty83 : TI := { desc := .struct [(0, 79), (1, 3)], size := 2, bytes := 32, zero := [.sl 7 [] true true, .int .i64 0], lk := [.sl 7, .int .i64] }
def ty84 : TI := { desc := .func, size := 1, bytes := 8, zero := [.nilfn], lk := [.any] }
def ty85 : TI := { desc := .func, size := 1, bytes := 8, zero := [.nilfn], lk := [.any] }
def ty86 : TI := { desc := .func, size := 1, bytes := 8, zero := [.nilfn], lk := [.any] }
def ty87 : TI := { desc := .slice 89, size := 1, bytes := 24, zero := [.sl 4 [] true true], lk := [.sl 4] }
def ty88 : TI := { desc := .struct [(0, 3), (1, 53), (2, 3), (3, 3)], size := 4, bytes := 32, zero := [.int .i64 0, .int .u64 0, .int .i64 0, .int .i64 0], lk := [.int .i64, .int .u64, .int .i64, .int .i64] }
def ty89 : TI := { desc := .struct [(0, 3), (1, 53), (2, 3), (3, 3)], size := 4, bytes := 32, zero := [.int .i64 0, .int .u64 0, .int .i64 0, .int .i64 0], lk := [.int .i64, .int .u64, .int .i64, .int .i64] }
def ty90 : TI := { desc := .func, size := 1, bytes := 8, zero := [.nilfn], lk := [.any] }
def ty92 : TI := { desc := .func, size := 1, bytes := 8, zero := [.nilfn], lk := [.any] }
def ty93 : TI := { desc := .slice 3, size := 1, bytes := 24, zero := [.sl 1 [] true true], lk := [.sl 1] }
def ty95 : TI := { desc := .func, size := 1, bytes := 8, zero := [.nilfn], lk := [.any] }
def ty96 : TI := { desc := .func, size := 1, bytes := 8, zero := [.nilfn], lk := [.any] }
def ty97 : TI := { desc := .func, size := 1, bytes := 8, zero := [.nilfn], lk := [.any] }
def ty98 : TI := { desc := .func, size := 1, bytes := 8, zero := [.nilfn], lk := [.any] }
def ty99 : TI := { desc := .func, size := 1, bytes := 8, zero := [.nilfn], lk := [.any] }
def ty100 : TI := { desc := .func, size := 1, bytes := 8, zero := [.nilfn], lk := [.any] }
def ty101 : TI := { desc := .struct [(0, 9), (1, 9), (2, 9)], size := 3, bytes := 48, zero := [.str ⟨#[]⟩, .str ⟨#[]⟩, .str ⟨#[]⟩], lk := [.str, .str, .str] }
def ty102 : TI := { desc := .struct [(0, 9), (1, 9), (2, 9)], size := 3, bytes := 48, zero := [.str ⟨#[]⟩, .str ⟨#[]⟩, .str ⟨#[]⟩], lk := [.str, .str, .str] }
def ty103 : TI := { desc := .func, size := 1, bytes := 8, zero := [.nilfn], lk := [.any] }
def ty104 : TI := { desc := .struct [(0, 102), (3, 9)], size := 4, bytes := 64, zero := [.str ⟨#[]⟩, .str ⟨#[]⟩, .str ⟨#[]⟩, .str ⟨#[]⟩], lk := [.str, .str, .str, .str] }
def ty105 : TI := { desc := .struct [(0, 102), (3, 9)], size := 4, bytes := 64, zero := [.str ⟨#[]⟩, .str ⟨#[]⟩, .str ⟨#[]⟩, .str ⟨#[]⟩], lk := [.str, .str, .str, .str] }
def ty106 : TI := { desc := .func, size := 1, bytes := 8, zero := [.nilfn], lk := [.any] }
def ty107 : TI := { desc := .func, size := 1, bytes := 8, zero := [.nilfn], lk := [.any] }
def ty108 : TI := { desc := .func, size := 1, bytes := 8, zero := [.nilfn], lk := [.any] }
def ty109 : TI := { desc := .pointer, size := 1, bytes := 8, zero := [.nilptr], lk := [.any] }
def ty110 : TI := { desc := .struct [(0, 109), (1, 50)], size := 2, bytes := 32, zero := [.nilptr, .sl 1 [] true true], lk := [.any, .sl 1] }
def ty111 : TI := { desc := .struct [(0, 109), (1, 50)], size := 2, bytes := 32, zero := [.nilptr, .sl 1 [] true true], lk := [.any, .sl 1] }
def ty112 : TI := { desc := .struct [(0, 4), (1, 53), (2, 9)], size := 3, bytes := 32, zero := [.bool false, .int .u64 0, .str ⟨#[]⟩], lk := [.bool, .int .u64, .str] }
def ty113 : TI := { desc := .struct [(0, 4), (1, 53), (2, 9)], size := 3, bytes := 32, zero := [.bool false, .int .u64 0, .str ⟨#[]⟩], lk := [.bool, .int .u64, .str] }
def ty114 : TI := { desc := .func, size := 1, bytes := 8, zero := [.nilfn], lk := [.any] }
def ty118 : TI := { desc := .func, size := 1, bytes := 8, zero := [.nilfn], lk := [.any] }
def ty119 : TI := { desc := .func, size := 1, bytes := 8, zero := [.nilfn], lk := [.any] }
def ty120 : TI := { desc := .func, size := 1, bytes := 8, zero := [.nilfn], lk := [.any] }
def ty121 : TI := { desc := .pointer, size := 1, bytes := 8, zero := [.nilptr], lk := [.any] }
def ty123 : TI := { desc := .func, size := 1, bytes := 8, zero := [.nilfn], lk := [.any] }
def ty124 : TI := { desc := .struct [(0, 9), (1, 36)], size := 2, bytes := 40, zero := [.str ⟨#[]⟩, .sl 3 [] true true], lk := [.str, .sl 3] }
def ty125 : TI := { desc := .struct [(0, 9), (1, 36)], size := 2, bytes := 40, zero := [.str ⟨#[]⟩, .sl 3 [] true true], lk := [.str, .sl 3] }
def ty126 : TI := { desc := .func, size := 1, bytes := 8, zero := [.nilfn], lk := [.any] }
def ty127 : TI := { desc := .func, size := 1, bytes := 8, zero := [.nilfn], lk := [.any] }
def ty129 : TI := { desc := .func, size := 1, bytes := 8, zero := [.nilfn], lk := [.any] }
def ty130 : TI := { desc := .func, size := 1, bytes := 8, zero := [.nilfn], lk := [.any] }
def ty131 : TI := { desc := .func, size := 1, bytes := 8, zero := [.nilfn], lk := [.any] }
def ty132 : TI := { desc := .func, size := 1, bytes := 8, zero := [.nilfn], lk := [.any] }
def ty133 : TI := { desc := .func, size := 1, bytes := 8, zero := [.nilfn], lk := [.any] }
def ty134 : TI := { desc := .func, size := 1, bytes := 8, zero := [.nilfn], lk := [.any] }
def ty135 : TI := { desc := .func, size := 1, bytes := 8, zero := [.nilfn], lk := [.any] }
def ty136 : TI := { desc := .array 2 9, size := 2, bytes := 32, zero := [.str ⟨#[]⟩, .str ⟨#[]⟩], lk := [.str, .str] }
def ty137 : TI := { desc := .func, size := 1, bytes := 8, zero := [.nilfn], lk := [.any] }
def ty138 : TI := { desc := .func, size := 1, bytes := 8, zero := [.nilfn], lk := [.any] }
def ty139 : TI := { desc := .array 3 9, size := 3, bytes := 48, zero := [.str ⟨#[]⟩, .str ⟨#[]⟩, .str ⟨#[]⟩], lk := [.str, .str, .str] }
def ty140 : TI := { desc := .func, size := 1, bytes := 8, zero := [.nilfn], lk := [.any] }
def ty141 : TI := { desc := .func, size := 1, bytes := 8, zero := [.nilfn], lk := [.any] }
def ty142 : TI := { desc := .struct [(0, 36), (1, 3), (2, 23)], size := 3, bytes := 40, zero := [.sl 3 [] true true, .int .i64 0, .int .i64 0], lk := [.sl 3, .int .i64, .int .i64] }
def ty143 : TI := { desc := .struct [(0, 36), (1, 3), (2, 23)], size := 3, bytes := 40, zero := [.sl 3 [] true true, .int .i64 0, .int .i64 0], lk := [.sl 3, .int .i64, .int .i64] }
def ty144 : TI := { desc := .func, size := 1, bytes := 8, zero := [.nilfn], lk := [.any] }
def ty145 : TI := { desc := .func, size := 1, bytes := 8, zero := [.nilfn], lk := [.any] }
def ty146 : TI := { desc := .func, size := 1, bytes := 8, zero := [.nilfn], lk := [.any] }
def ty147 : TI := { desc := .func, size := 1, bytes := 8, zero := [.nilfn], lk := [.any] }
def ty148 : TI := { desc := .func, size := 1, bytes := 8, zero := [.nilfn], lk := [.any] }
def ty149 : TI := { desc := .struct [(0, 53), (1, 53), (2, 53), (3, 3), (4, 53), (5, 3), (6, 3)], size := 7, bytes := 56, zero := [.int .u64 0, .int .u64 0, .int .u64 0, .int .i64 0, .int .u64 0, .int .i64 0, .int .i64 0], lk := [.int .u64, .int .u64, .int .u64, .int .i64, .int .u64, .int .i64, .int .i64] }
def ty150 : TI := { desc := .struct [(0, 53), (1, 53), (2, 53), (3, 3), (4, 53), (5, 3), (6, 3)], size := 7, bytes := 56, zero := [.int .u64 0, .int .u64 0, .int .u64 0, .int .i64 0, .int .u64 0, .int .i64 0, .int .i64 0], lk := [.int .u64, .int .u64, .int .u64, .int .i64, .int .u64, .int .i64, .int .i64] }
def ty151 : TI := { desc := .func, size := 1, bytes := 8, zero := [.nilfn], lk := [.any] }
def ty152 : TI := { desc := .func, size := 1, bytes := 8, zero := [.nilfn], lk := [.any] }
def ty153 : TI := { desc := .func, size := 1, bytes := 8, zero := [.nilfn], lk := [.any] }
def ty154 : TI := { desc := .func, size := 1, bytes := 8, zero := [.nilfn], lk := [.any] }
def ty155 : TI := { desc := .func, size := 1, bytes := 8, zero := [.nilfn], lk := [.any] }
def ty156 : TI := { desc := .func, size := 1, bytes := 8, zero := [.nilfn], lk := [.any] }
def ty157 : TI := { desc := .func, size := 1, bytes := 8, zero := [.nilfn], lk := [.any] }
def ty158 : TI := { desc := .func, size := 1, bytes := 8, zero := [.nilfn], lk := [.any] }
def ty160 : TI := { desc := .func, size := 1, bytes := 8, zero := [.nilfn], lk := [.any] }
def ty162 : TI := { desc := .func, size := 1, bytes := 8, zero := [.nilfn], lk := [.any] }
def ty163 : TI := { desc := .int .u64, size := 1, bytes := 8, zero := [.int .u64 0], lk := [.int .u64] }
def ty164 : TI := { desc := .func, size := 1, bytes := 8, zero := [.nilfn], lk := [.any] }
def ty165 : TI := { desc := .func, size := 1, bytes := 8, zero := [.nilfn], lk := [.any] }
def ty166 : TI := { desc := .int .u32, size := 1, bytes := 4, zero := [.int .u32 0], lk := [.int .u32] }
def ty167 : TI := { desc := .func, size := 1, bytes := 8, zero := [.nilfn], lk := [.any] }
def ty168 : TI := { desc := .func, size := 1, bytes := 8, zero := [.nilfn], lk := [.any] }
def ty169 : TI := { desc := .pointer, size := 1, bytes := 8, zero := [.nilptr], lk := [.any] }
def ty170 : TI := { desc := .func, size := 1, bytes := 8, zero := [.nilfn], lk := [.any] }
def ty172 : TI := { desc := .func, size := 1, bytes := 8, zero := [.nilfn], lk := [.any] }
def ty173 : TI := { desc := .func, size := 1, bytes := 8, zero := [.nilfn], lk := [.any] }
def ty177 : TI := { desc := .func, size := 1, bytes := 8, zero := [.nilfn], lk := [.any] }
def ty178 : TI := { desc := .func, size := 1, bytes := 8, zero := [.nilfn], lk := [.any] }
def ty179 : TI := { desc := .pointer, size := 1, bytes := 8, zero := [.nilptr], lk := [.any] }
def ty180 : TI := { desc := .func, size := 1, bytes := 8, zero := [.nilfn], lk := [.any] }
def ty181 : TI := { desc := .func, size := 1, bytes := 8, zero := [.nilfn], lk := [.any] }
def ty182 : TI := { desc := .func, size := 1, bytes := 8, zero := [.nilfn], lk := [.any] }
def ty183 : TI := { desc := .func, size := 1, bytes := 8, zero := [.nilfn], lk := [.any] }
def ty184 : TI := { desc := .slice 136, size := 1, bytes := 24, zero := [.sl 2 [] true true], lk := [.sl 2] }
def ty185 : TI := { desc := .func, size := 1, bytes := 8, zero := [.nilfn], lk := [.any] }
def ty186 : TI := { desc := .func, size := 1, bytes := 8, zero := [.nilfn], lk := [.any] }
def ty187 : TI := { desc := .struct [(0, 93), (1, 93), (2, 93), (3, 93)], size := 4, bytes := 96, zero := [.sl 1 [] true true, .sl 1 [] true true, .sl 1 [] true true, .sl 1 [] true true], lk := [.sl 1, .sl 1, .sl 1, .sl 1] }
def ty188 : TI := { desc := .struct [(0, 93), (1, 93), (2, 93), (3, 93)], size := 4, bytes := 96, zero := [.sl 1 [] true true, .sl 1 [] true true, .sl 1 [] true true, .sl 1 [] true true], lk := [.sl 1, .sl 1, .sl 1, .sl 1] }
def ty189 : TI := { desc := .func, size := 1, bytes := 8, zero := [.nilfn], lk := [.any] }
def ty190 : TI := { desc := .func, size := 1, bytes := 8, zero := [.nilfn], lk := [.any] }
def ty191 : TI := { desc := .func, size := 1, bytes := 8, zero := [.nilfn], lk := [.any] }
def ty192 : TI := { desc := .func, size := 1, bytes := 8, zero := [.nilfn], lk := [.any] }
def ty193 : TI := { desc := .func, size := 1, bytes := 8, zero := [.nilfn], lk := [.any] }
def ty194 : TI := { desc := .struct [(0, 9), (1, 9), (2, 9), (3, 9)], size := 4, bytes := 64, zero := [.str ⟨#[]⟩, .str ⟨#[]⟩, .str ⟨#[]⟩, .str ⟨#[]⟩], lk := [.str, .str, .str, .str] }
def ty195 : TI := { desc := .struct [(0, 9), (1, 9), (2, 9), (3, 9)], size := 4, bytes := 64, zero := [.str ⟨#[]⟩, .str ⟨#[]⟩, .str ⟨#[]⟩, .str ⟨#[]⟩], lk := [.str, .str, .str, .str] }
def ty196 : TI := { desc := .func, size := 1, bytes := 8, zero := [.nilfn], lk := [.any] }
def ty197 : TI := { desc := .func, size := 1, bytes := 8, zero := [.nilfn], lk := [.any] }
def ty198 : TI := { desc := .func, size := 1, bytes := 8, zero := [.nilfn], lk := [.any] }
def ty199 : TI := { desc := .func, size := 1, bytes := 8, zero := [.nilfn], lk := [.any] }
def ty200 : TI := { desc := .func, size := 1, bytes := 8, zero := [.nilfn], lk := [.any] }
def ty201 : TI := { desc := .func, size := 1, bytes := 8, zero := [.nilfn], lk := [.any] }
def ty202 : TI := { desc := .func, size := 1, bytes := 8, zero := [.nilfn], lk := [.any] }
def ty203 : TI := { desc := .func, size := 1, bytes := 8, zero := [.nilfn], lk := [.any] }
def ty204 : TI := { desc := .func, size := 1, bytes := 8, zero := [.nilfn], lk := [.any] }
def ty205 : TI := { desc := .func, size := 1, bytes := 8, zero := [.nilfn], lk := [.any] }
def ty206 : TI := { desc := .func, size := 1, bytes := 8, zero := [.nilfn], lk := [.any] }
def ty207 : TI := { desc := .slice 4, size := 1, bytes := 24, zero := [.sl 1 [] true true], lk := [.sl 1] }
def ty208 : TI := { desc := .func, size := 1, bytes := 8, zero := [.nilfn], lk := [.any] }
def ty209 : TI := { desc := .func, size := 1, bytes := 8, zero := [.nilfn], lk := [.any] }
def ty210 : TI := { desc := .struct [(0, 9)], size := 1, bytes := 16, zero := [.str ⟨#[]⟩], lk := [.str] }
def ty211 : TI := { desc := .struct [(0, 9)], size := 1, bytes := 16, zero := [.str ⟨#[]⟩], lk := [.str] }
def ty213 : TI := { desc := .func, size := 1, bytes := 8, zero := [.nilfn], lk := [.any] }
def ty214 : TI := { desc := .func, size := 1, bytes := 8, zero := [.nilfn], lk := [.any] }
def ty215 : TI := { desc := .func, size := 1, bytes := 8, zero := [.nilfn], lk := [.any] }
def ty216 : TI := { desc := .func, size := 1, bytes := 8, zero := [.nilfn], lk := [.any] }
def ty218 : TI := { desc := .func, size := 1, bytes := 8, zero := [.nilfn], lk := [.any] }
def ty219 : TI := { desc := .func, size := 1, bytes := 8, zero := [.nilfn], lk := [.any] }
def ty221 : TI := { desc := .func, size := 1, bytes := 8, zero := [.nilfn], lk := [.any] }
def ty222 : TI := { desc := .func, size := 1, bytes := 8, zero := [.nilfn], lk := [.any] }
def ty223 : TI := { desc := .func, size := 1, bytes := 8, zero := [.nilfn], lk := [.any] }
def ty224 : TI := { desc := .struct [(0, 31), (1, 9), (2, 53)], size := 3, bytes := 48, zero := [.sl 1 [] true true, .str ⟨#[]⟩, .int .u64 0], lk := [.sl 1, .str, .int .u64] }
def ty225 : TI := { desc := .struct [(0, 31), (1, 9), (2, 53)], size := 3, bytes := 48, zero := [.sl 1 [] true true, .str ⟨#[]⟩, .int .u64 0], lk := [.sl 1, .str, .int .u64] }
def ty226 : TI := { desc := .func, size := 1, bytes := 8, zero := [.nilfn], lk := [.any] }
def ty227 : TI := { desc := .func, size := 1, bytes := 8, zero := [.nilfn], lk := [.any] }
def ty228 : TI := { desc := .struct [(0, 93), (1, 3)], size := 2, bytes := 32, zero := [.sl 1 [] true true, .int .i64 0], lk := [.sl 1, .int .i64] }
def ty229 : TI := { desc := .struct [(0, 93), (1, 3)], size := 2, bytes := 32, zero := [.sl 1 [] true true, .int .i64 0], lk := [.sl 1, .int .i64] }
def ty230 : TI := { desc := .func, size := 1, bytes := 8, zero := [.nilfn], lk := [.any] }
def ty231 : TI := { desc := .func, size := 1, bytes := 8, zero := [.nilfn], lk := [.any] }
def ty232 : TI := { desc := .func, size := 1, bytes := 8, zero := [.nilfn], lk := [.any] }
def ty233 : TI := { desc := .array 4 53, size := 4, bytes := 32, zero := [.int .u64 0, .int .u64 0, .int .u64 0, .int .u64 0], lk := [.int .u64, .int .u64, .int .u64, .int .u64] }
def ty234 : TI := { desc := .array 4 53, size := 4, bytes := 32, zero := [.int .u64 0, .int .u64 0, .int .u64 0, .int .u64 0], lk := [.int .u64, .int .u64, .int .u64, .int .u64] }
def ty235 : TI := { desc := .func, size := 1, bytes := 8, zero := [.nilfn], lk := [.any] }
def ty236 : TI := { desc := .func, size := 1, bytes := 8, zero := [.nilfn], lk := [.any] }
def ty237 : TI := { desc := .func, size := 1, bytes := 8, zero := [.nilfn], lk := [.any] }
def ty238 : TI := { desc := .func, size := 1, bytes := 8, zero := [.nilfn], lk := [.any] }
def ty239 : TI := { desc := .func, size := 1, bytes := 8, zero := [.nilfn], lk := [.any] }
def ty240 : TI := { desc := .func, size := 1, bytes := 8, zero := [.nilfn], lk := [.any] }
def ty241 : TI := { desc := .func, size := 1, bytes := 8, zero := [.nilfn], lk := [.any] }
def ty242 : TI := { desc := .func, size := 1, bytes := 8, zero := [.nilfn], lk := [.any] }
def ty243 : TI := { desc := .func, size := 1, bytes := 8, zero := [.nilfn], lk := [.any] }
def ty244 : TI := { desc := .func, size := 1, bytes := 8, zero := [.nilfn], lk := [.any] }
def ty246 : TI := { desc := .func, size := 1, bytes := 8, zero := [.nilfn], lk := [.any] }
def ty247 : TI := { desc := .func, size := 1, bytes := 8, zero := [.nilfn], lk := [.any] }
def ty248 : TI := { desc := .func, size := 1, bytes := 8, zero := [.nilfn], lk := [.any] }
def ty249 : TI := { desc := .func, size := 1, bytes := 8, zero := [.nilfn], lk := [.any] }
def ty250 : TI := { desc := .func, size := 1, bytes := 8, zero := [.nilfn], lk := [.any] }
def ty251 : TI := { desc := .func, size := 1, bytes := 8, zero := [.nilfn], lk := [.any] }
def ty252 : TI := { desc := .func, size := 1, bytes := 8, zero := [.nilfn], lk := [.any] }
def ty253 : TI := { desc := .func, size := 1, bytes := 8, zero := [.nilfn], lk := [.any] }
def ty254 : TI := { desc := .func, size := 1, bytes := 8, zero := [.nilfn], lk := [.any] }
def ty256 : TI := { desc := .func, size := 1, bytes := 8, zero := [.nilfn], lk := [.any] }
def ty258 : TI := { desc := .func, size := 1, bytes := 8, zero := [.nilfn], lk := [.any] }
def ty259 : TI := { desc := .func, size := 1, bytes := 8, zero := [.nilfn], lk := [.any] }
def ty260 : TI := { desc := .struct [(0, 53), (1, 3)], size := 2, bytes := 16, zero := [.int .u64 0, .int .i64 0], lk := [.int .u64, .int .i64] }
def ty261 : TI := { desc := .struct [(0, 53), (1, 3)], size := 2, bytes := 16, zero := [.int .u64 0, .int .i64 0], lk := [.int .u64, .int .i64] }
def ty262 : TI := { desc := .func, size := 1, bytes := 8, zero := [.nilfn], lk := [.any] }
def ty263 : TI := { desc := .func, size := 1, bytes := 8, zero := [.nilfn], lk := [.any] }
def ty264 : TI := { desc := .func, size := 1, bytes := 8, zero := [.nilfn], lk := [.any] }
def ty266 : TI := { desc := .func, size := 1, bytes := 8, zero := [.nilfn], lk := [.any] }
def ty267 : TI := { desc := .array 16 166, size := 16, bytes := 64, zero := [.int .u32 0, .int .u32 0, .int .u32 0, .int .u32 0, .int .u32 0, .int .u32 0, .int .u32 0, .int .u32 0, .int .u32 0, .int .u32 0, .int .u32 0, .int .u32 0, .int .u32 0, .int .u32 0, .int .u32 0, .int .u32 0], lk := [.int .u32, .int .u32, .int .u32, .int .u32, .int .u32, .int .u32, .int .u32, .int .u32, .int .u32, .int .u32, .int .u32, .int .u32, .int .u32, .int .u32, .int .u32, .int .u32] }
def ty268 : TI := { desc := .array 16 166, size := 16, bytes := 64, zero := [.int .u32 0, .int .u32 0, .int .u32 0, .int .u32 0, .int .u32 0, .int .u32 0, .int .u32 0, .int .u32 0, .int .u32 0, .int .u32 0, .int .u32 0, .int .u32 0, .int .u32 0, .int .u32 0, .int .u32 0, .int .u32 0], lk := [.int .u32, .int .u32, .int .u32, .int .u32, .int .u32, .int .u32, .int .u32, .int .u32, .int .u32, .int .u32, .int .u32, .int .u32, .int .u32, .int .u32, .int .u32, .int .u32] }
def ty269 : TI := { desc := .func, size := 1, bytes := 8, zero := [.nilfn], lk := [.any] }
def ty270 : TI := { desc := .func, size := 1, bytes := 8, zero := [.nilfn], lk := [.any] }
def ty271 : TI := { desc := .array 64 5, size := 64, bytes := 64, zero := [.int .u8 0, .int .u8 0, .int .u8 0, .int .u8 0, .int .u8 0, .int .u8 0, .int .u8 0, .int .u8 0, .int .u8 0, .int .u8 0, .int .u8 0, .int .u8 0, .int .u8 0, .int .u8 0, .int .u8 0, .int .u8 0, .int .u8 0, .int .u8 0, .int .u8 0, .int .u8 0, .int .u8 0, .int .u8 0, .int .u8 0, .int .u8 0, .int .u8 0, .int .u8 0, .int .u8 0, .int .u8 0, .int .u8 0, .int .u8 0, .int .u8 0, .int .u8 0, .int .u8 0, .int .u8 0, .int .u8 0, .int .u8 0, .int .u8 0, .int .u8 0, .int .u8 0, .int .u8 0, .int .u8 0, .int .u8 0, .int .u8 0, .int .u8 0, .int .u8 0, .int .u8 0, .int .u8 0, .int .u8 0, .int .u8 0, .int .u8 0, .int .u8 0, .int .u8 0, .int .u8 0, .int .u8 0, .int .u8 0, .int .u8 0, .int .u8 0, .int .u8 0, .int .u8 0, .int .u8 0, .int .u8 0, .int .u8 0, .int .u8 0, .int .u8 0], lk := [.int .u8, .int .u8, .int .u8, .int .u8, .int .u8, .int .u8, .int .u8, .int .u8, .int .u8, .int .u8, .int .u8, .int .u8, .int .u8, .int .u8, .int .u8, .int .u8, .int .u8, .int .u8, .int .u8, .int .u8, .int .u8, .int .u8, .int .u8, .int .u8, .int .u8, .int .u8, .int .u8, .int .u8, .int .u8, .int .u8, .int .u8, .int .u8, .int .u8, .int .u8, .int .u8, .int .u8, .int .u8, .int .u8, .int .u8, .int .u8, .int .u8, .int .u8, .int .u8, .int .u8, .int .u8, .int .u8, .int .u8, .int .u8, .int .u8, .int .u8, .int .u8, .int .u8, .int .u8, .int .u8, .int .u8, .int .u8, .int .u8, .int .u8, .int .u8, .int .u8, .int .u8, .int .u8, .int .u8, .int .u8] }
def ty272 : TI := { desc := .func, size := 1, bytes := 8, zero := [.nilfn], lk := [.any] }
def ty273 : TI := { desc := .struct [(0, 166), (1, 166), (2, 166), (3, 166)], size := 4, bytes := 16, zero := [.int .u32 0, .int .u32 0, .int .u32 0, .int .u32 0], lk := [.int .u32, .int .u32, .int .u32, .int .u32] }
def ty274 : TI := { desc := .struct [(0, 166), (1, 166), (2, 166), (3, 166)], size := 4, bytes := 16, zero := [.int .u32 0, .int .u32 0, .int .u32 0, .int .u32 0], lk := [.int .u32, .int .u32, .int .u32, .int .u32] }
def ty275 : TI := { desc := .func, size := 1, bytes := 8, zero := [.nilfn], lk := [.any] }
def ty277 : TI := { desc := .struct [(0, 5), (1, 5)], size := 2, bytes := 2, zero := [.int .u8 0, .int .u8 0], lk := [.int .u8, .int .u8] }
def ty278 : TI := { desc := .struct [(0, 5), (1, 5)], size := 2, bytes := 2, zero := [.int .u8 0, .int .u8 0], lk := [.int .u8, .int .u8] }
def ty279 : TI := { desc := .array 16 278, size := 32, bytes := 32, zero := [.int .u8 0, .int .u8 0, .int .u8 0, .int .u8 0, .int .u8 0, .int .u8 0, .int .u8 0, .int .u8 0, .int .u8 0, .int .u8 0, .int .u8 0, .int .u8 0, .int .u8 0, .int .u8 0, .int .u8 0, .int .u8 0, .int .u8 0, .int .u8 0, .int .u8 0, .int .u8 0, .int .u8 0, .int .u8 0, .int .u8 0, .int .u8 0, .int .u8 0, .int .u8 0, .int .u8 0, .int .u8 0, .int .u8 0, .int .u8 0, .int .u8 0, .int .u8 0], lk := [.int .u8, .int .u8, .int .u8, .int .u8, .int .u8, .int .u8, .int .u8, .int .u8, .int .u8, .int .u8, .int .u8, .int .u8, .int .u8, .int .u8, .int .u8, .int .u8, .int .u8, .int .u8, .int .u8, .int .u8, .int .u8, .int .u8, .int .u8, .int .u8, .int .u8, .int .u8, .int .u8, .int .u8, .int .u8, .int .u8, .int .u8, .int .u8] }
def ty280 : TI := { desc := .func, size := 1, bytes := 8, zero := [.nilfn], lk := [.any] }
def ty281 : TI := { desc := .func, size := 1, bytes := 8, zero := [.nilfn], lk := [.any] }
def ty282 : TI := { desc := .func, size := 1, bytes := 8, zero := [.nilfn], lk := [.any] }
def ty283 : TI := { desc := .func, size := 1, bytes := 8, zero := [.nilfn], lk := [.any] }
def ty284 : TI := { desc := .func, size := 1, bytes := 8, zero := [.nilfn], lk := [.any] }
def ty285 : TI := { desc := .func, size := 1, bytes := 8, zero := [.nilfn], lk := [.any] }
def ty286 : TI := { desc := .func, size := 1, bytes := 8, zero := [.nilfn], lk := [.any] }
def ty287 : TI := { desc := .array 8 53, size := 8, bytes := 64, zero := [.int .u64 0, .int .u64 0, .int .u64 0, .int .u64 0, .int .u64 0, .int .u64 0, .int .u64 0, .int .u64 0], lk := [.int .u64, .int .u64, .int .u64, .int .u64, .int .u64, .int .u64, .int .u64, .int .u64] }
def ty288 : TI := { desc := .slice 53, size := 1, bytes := 24, zero := [.sl 1 [] true true], lk := [.sl 1] }
def ty289 : TI := { desc := .array 8 166, size := 8, bytes := 32, zero := [.int .u32 0, .int .u32 0, .int .u32 0, .int .u32 0, .int .u32 0, .int .u32 0, .int .u32 0, .int .u32 0], lk := [.int .u32, .int .u32, .int .u32, .int .u32, .int .u32, .int .u32, .int .u32, .int .u32] }
def ty290 : TI := { desc := .array 8 166, size := 8, bytes := 32, zero := [.int .u32 0, .int .u32 0, .int .u32 0, .int .u32 0, .int .u32 0, .int .u32 0, .int .u32 0, .int .u32 0], lk := [.int .u32, .int .u32, .int .u32, .int .u32, .int .u32, .int .u32, .int .u32, .int .u32] }
def ty291 : TI := { desc := .func, size := 1, bytes := 8, zero := [.nilfn], lk := [.any] }
def ty293 : TI := { desc := .func, size := 1, bytes := 8, zero := [.nilfn], lk := [.any] }
def ty294 : TI := { desc := .pointer, size := 1, bytes := 8, zero := [.nilptr], lk := [.any] }
def ty296 : TI := { desc := .func, size := 1, bytes := 8, zero := [.nilfn], lk := [.any] }
def ty297 : TI := { desc := .array 64 166, size := 64, bytes := 256, zero := [.int .u32 0, .int .u32 0, .int .u32 0, .int .u32 0, .int .u32 0, .int .u32 0, .int .u32 0, .int .u32 0, .int .u32 0, .int .u32 0, .int .u32 0, .int .u32 0, .int .u32 0, .int .u32 0, .int .u32 0, .int .u32 0, .int .u32 0, .int .u32 0, .int .u32 0, .int .u32 0, .int .u32 0, .int .u32 0, .int .u32 0, .int .u32 0, .int .u32 0, .int .u32 0, .int .u32 0, .int .u32 0, .int .u32 0, .int .u32 0, .int .u32 0, .int .u32 0, .int .u32 0, .int .u32 0, .int .u32 0, .int .u32 0, .int .u32 0, .int .u32 0, .int .u32 0, .int .u32 0, .int .u32 0, .int .u32 0, .int .u32 0, .int .u32 0, .int .u32 0, .int .u32 0, .int .u32 0, .int .u32 0, .int .u32 0, .int .u32 0, .int .u32 0, .int .u32 0, .int .u32 0, .int .u32 0, .int .u32 0, .int .u32 0, .int .u32 0, .int .u32 0, .int .u32 0, .int .u32 0, .int .u32 0, .int .u32 0, .int .u32 0, .int .u32 0], lk := [.int .u32, .int .u32, .int .u32, .int .u32, .int .u32, .int .u32, .int .u32, .int .u32, .int .u32, .int .u32, .int .u32, .int .u32, .int .u32, .int .u32, .int .u32, .int .u32, .int .u32, .int .u32, .int .u32, .int .u32, .int .u32, .int .u32, .int .u32, .int .u32, .int .u32, .int .u32, .int .u32, .int .u32, .int .u32, .int .u32, .int .u32, .int .u32, .int .u32, .int .u32, .int .u32, .int .u32, .int .u32, .int .u32, .int .u32, .int .u32, .int .u32, .int .u32, .int .u32, .int .u32, .int .u32, .int .u32, .int .u32, .int .u32, .int .u32, .int .u32, .int .u32, .int .u32, .int .u32, .int .u32, .int .u32, .int .u32, .int .u32, .int .u32, .int .u32, .int .u32, .int .u32, .int .u32, .int .u32, .int .u32] }
def ty298 : TI := { desc := .func, size := 1, bytes := 8, zero := [.nilfn], lk := [.any] }
def ty299 : TI := { desc := .func, size := 1, bytes := 8, zero := [.nilfn], lk := [.any] }
def ty300 : TI := { desc := .func, size := 1, bytes := 8, zero := [.nilfn], lk := [.any] }
def ty301 : TI := { desc := .array 2 3, size := 2, bytes := 16, zero := [.int .i64 0, .int .i64 0], lk := [.int .i64, .int .i64] }
def ty302 : TI := { desc := .array 2 301, size := 4, bytes := 32, zero := [.int .i64 0, .int .i64 0, .int .i64 0, .int .i64 0], lk := [.int .i64, .int .i64, .int .i64, .int .i64] }
def ty303 : TI := { desc := .func, size := 1, bytes := 8, zero := [.nilfn], lk := [.any] }
def ty304 : TI := { desc := .struct [(0, 17), (1, 17), (2, 17), (3, 9)], size := 4, bytes := 40, zero := [.nilptr, .nilptr, .nilptr, .str ⟨#[]⟩], lk := [.any, .any, .any, .str] }
def ty305 : TI := { desc := .struct [(0, 17), (1, 17), (2, 17), (3, 9)], size := 4, bytes := 40, zero := [.nilptr, .nilptr, .nilptr, .str ⟨#[]⟩], lk := [.any, .any, .any, .str] }
def ty306 : TI := { desc := .array 0 16, size := 0, bytes := 0, zero := [], lk := [] }
def ty307 : TI := { desc := .struct [(0, 306)], size := 0, bytes := 0, zero := [], lk := [] }
def ty308 : TI := { desc := .struct [(0, 306)], size := 0, bytes := 0, zero := [], lk := [] }
def ty309 : TI := { desc := .int .u8, size := 1, bytes := 1, zero := [.int .u8 0], lk := [.int .u8] }
def ty310 : TI := { desc := .int .u8, size := 1, bytes := 1, zero := [.int .u8 0], lk := [.int .u8] }
def ty311 : TI := { desc := .func, size := 1, bytes := 8, zero := [.nilfn], lk := [.any] }
def ty312 : TI := { desc := .int .i32, size := 1, bytes := 4, zero := [.int .i32 0], lk := [.int .i32] }
def ty313 : TI := { desc := .int .i32, size := 1, bytes := 4, zero := [.int .i32 0], lk := [.int .i32] }
def ty314 : TI := { desc := .struct [(0, 12), (1, 12), (2, 166), (3, 309), (4, 5), (5, 5), (6, 310), (7, 311), (8, 169), (9, 312), (10, 313)], size := 11, bytes := 48, zero := [.int .u64 0, .int .u64 0, .int .u32 0, .int .u8 0, .int .u8 0, .int .u8 0, .int .u8 0, .nilfn, .nilptr, .int .i32 0, .int .i32 0], lk := [.int .u64, .int .u64, .int .u32, .int .u8, .int .u8, .int .u8, .int .u8, .any, .any, .int .i32, .int .i32] }
def ty315 : TI := { desc := .struct [(0, 12), (1, 12), (2, 166), (3, 309), (4, 5), (5, 5), (6, 310), (7, 311), (8, 169), (9, 312), (10, 313)], size := 11, bytes := 48, zero := [.int .u64 0, .int .u64 0, .int .u32 0, .int .u8 0, .int .u8 0, .int .u8 0, .int .u8 0, .nilfn, .nilptr, .int .i32 0, .int .i32 0], lk := [.int .u64, .int .u64, .int .u32, .int .u8, .int .u8, .int .u8, .int .u8, .any, .any, .int .i32, .int .i32] }
def tyTree (t : TypeId) : Option TI := bif Nat.blt t 157 then (bif Nat.blt t 78 then (bif Nat.blt t 38 then (bif Nat.blt t 18 then (bif Nat.blt t 9 then (bif Nat.blt t 5 then (bif Nat.blt t 3 then (bif Nat.blt t 2 then (bif Nat.beq t 1 then some ty1 else none) else (bif Nat.beq t 2 then some ty2 else none)) else (bif Nat.blt t 4 then (bif Nat.beq t 3 then some ty3 else none) else (bif Nat.beq t 4 then some ty4 else none))) else (bif Nat.blt t 7 then (bif Nat.blt t 6 then (bif Nat.beq t 5 then some ty5 else none) else (bif Nat.beq t 6 then some ty6 else none)) else (bif Nat.blt t 8 then (bif Nat.beq t 7 then some ty7 else none) else (bif Nat.beq t 8 then some ty8 else none)))) else (bif Nat.blt t 13 then (bif Nat.blt t 11 then (bif Nat.blt t 10 then (bif Nat.beq t 9 then some ty9 else none) else (bif Nat.beq t 10 then some ty10 else none)) else (bif Nat.blt t 12 then (bif Nat.beq t 11 then some ty11 else none) else (bif Nat.beq t 12 then some ty12 else none))) else (bif Nat.blt t 15 then (bif Nat.blt t 14 then (bif Nat.beq t 13 then some ty13 else none) else (bif Nat.beq t 14 then some ty14 else none)) else (bif Nat.blt t 16 then (bif Nat.beq t 15 then some ty15 else none) else (bif Nat.blt t 17 then (bif Nat.beq t 16 then some ty16 else none) else (bif Nat.beq t 17 then some ty17 else none)))))) else (bif Nat.blt t 29 then (bif Nat.blt t 23 then (bif Nat.blt t 21 then (bif Nat.blt t 19 then (bif Nat.beq t 18 then some ty18 else none) else (bif Nat.beq t 19 then some ty19 else none)) else (bif Nat.blt t 22 then (bif Nat.beq t 21 then some ty21 else none) else (bif Nat.beq t 22 then some ty22 else none))) else (bif Nat.blt t 26 then (bif Nat.blt t 25 then (bif Nat.beq t 23 then some ty23 else none) else (bif Nat.beq t 25 then some ty25 else none)) else (bif Nat.blt t 27 then (bif Nat.beq t 26 then some ty26 else none) else (bif Nat.blt t 28 then (bif Nat.beq t 27 then some ty27 else none) else (bif Nat.beq t 28 then some ty28 else none))))) else (bif Nat.blt t 33 then (bif Nat.blt t 31 then (bif Nat.blt t 30 then (bif Nat.beq t 29 then some ty29 else none) else (bif Nat.beq t 30 then some ty30 else none)) else (bif Nat.blt t 32 then (bif Nat.beq t 31 then some ty31 else none) else (bif Nat.beq t 32 then some ty32 else none))) else (bif Nat.blt t 35 then (bif Nat.blt t 34 then (bif Nat.beq t 33 then some ty33 else none) else (bif Nat.beq t 34 then some ty34 else none)) else (bif Nat.blt t 36 then (bif Nat.beq t 35 then some ty35 else none) else (bif Nat.blt t 37 then (bif Nat.beq t 36 then some ty36 else none) else (bif Nat.beq t 37 then some ty37 else none))))))) else (bif Nat.blt t 60 then (bif Nat.blt t 49 then (bif Nat.blt t 43 then (bif Nat.blt t 41 then (bif Nat.blt t 40 then (bif Nat.beq t 38 then some ty38 else none) else (bif Nat.beq t 40 then some ty40 else none)) else (bif Nat.blt t 42 then (bif Nat.beq t 41 then some ty41 else none) else (bif Nat.beq t 42 then some ty42 else none))) else (bif Nat.blt t 46 then (bif Nat.blt t 45 then (bif Nat.beq t 43 then some ty43 else none) else (bif Nat.beq t 45 then some ty45 else none)) else (bif Nat.blt t 47 then (bif Nat.beq t 46 then some ty46 else none) else (bif Nat.blt t 48 then (bif Nat.beq t 47 then some ty47 else none) else (bif Nat.beq t 48 then some ty48 else none))))) else (bif Nat.blt t 53 then (bif Nat.blt t 51 then (bif Nat.blt t 50 then (bif Nat.beq t 49 then some ty49 else none) else (bif Nat.beq t 50 then some ty50 else none)) else (bif Nat.blt t 52 then (bif Nat.beq t 51 then some ty51 else none) else (bif Nat.beq t 52 then some ty52 else none))) else (bif Nat.blt t 55 then (bif Nat.blt t 54 then (bif Nat.beq t 53 then some ty53 else none) else (bif Nat.beq t 54 then some ty54 else none)) else (bif Nat.blt t 56 then (bif Nat.beq t 55 then some ty55 else none) else (bif Nat.blt t 58 then (bif Nat.beq t 56 then some ty56 else none) else (bif Nat.beq t 58 then some ty58 else none)))))) else (bif Nat.blt t 69 then (bif Nat.blt t 64 then (bif Nat.blt t 62 then (bif Nat.blt t 61 then (bif Nat.beq t 60 then some ty60 else none) else (bif Nat.beq t 61 then some ty61 else none)) else (bif Nat.blt t 63 then (bif Nat.beq t 62 then some ty62 else none) else (bif Nat.beq t 63 then some ty63 else none))) else (bif Nat.blt t 66 then (bif Nat.blt t 65 then (bif Nat.beq t 64 then some ty64 else none) else (bif Nat.beq t 65 then some ty65 else none)) else (bif Nat.blt t 67 then (bif Nat.beq t 66 then some ty66 else none) else (bif Nat.blt t 68 then (bif Nat.beq t 67 then some ty67 else none) else (bif Nat.beq t 68 then some ty68 else none))))) else (bif Nat.blt t 73 then (bif Nat.blt t 71 then (bif Nat.blt t 70 then (bif Nat.beq t 69 then some ty69 else none) else (bif Nat.beq t 70 then some ty70 else none)) else (bif Nat.blt t 72 then (bif Nat.beq t 71 then some ty71 else none) else (bif Nat.beq t 72 then some ty72 else none))) else (bif Nat.blt t 75 then (bif Nat.blt t 74 then (bif Nat.beq t 73 then some ty73 else none) else (bif Nat.beq t 74 then some ty74 else none)) else (bif Nat.blt t 76 then (bif Nat.beq t 75 then some ty75 else none) else (bif Nat.blt t 77 then (bif Nat.beq t 76 then some ty76 else none) else (bif Nat.beq t 77 then some ty77 else none)))))))) else (bif Nat.blt t 119 then (bif Nat.blt t 98 then (bif Nat.blt t 87 then (bif Nat.blt t 83 then (bif Nat.blt t 81 then (bif Nat.blt t 79 then (bif Nat.beq t 78 then some ty78 else none) else (bif Nat.beq t 79 then some ty79 else none)) else (bif Nat.blt t 82 then (bif Nat.beq t 81 then some ty81 else none) else (bif Nat.beq t 82 then some ty82 else none))) else (bif Nat.blt t 85 then (bif Nat.blt t 84 then (bif Nat.beq t 83 then some ty83 else none) else (bif Nat.beq t 84 then some ty84 else none)) else (bif Nat.blt t 86 then (bif Nat.beq t 85 then some ty85 else none) else (bif Nat.beq t 86 then some ty86 else none)))) else (bif Nat.blt t 92 then (bif Nat.blt t 89 then (bif Nat.blt t 88 then (bif Nat.beq t 87 then some ty87 else none) else (bif Nat.beq t 88 then some ty88 else none)) else (bif Nat.blt t 90 then (bif Nat.beq t 89 then some ty89 else none) else (bif Nat.beq t 90 then some ty90 else none))) else (bif Nat.blt t 95 then (bif Nat.blt t 93 then (bif Nat.beq t 92 then some ty92 else none) else (bif Nat.beq t 93 then some ty93 else none)) else (bif Nat.blt t 96 then (bif Nat.beq t 95 then some ty95 else none) else (bif Nat.blt t 97 then (bif Nat.beq t 96 then some ty96 else none) else (bif Nat.beq t 97 then some ty97 else none)))))) else (bif Nat.blt t 107 then (bif Nat.blt t 102 then (bif Nat.blt t 100 then (bif Nat.blt t 99 then (bif Nat.beq t 98 then some ty98 else none) else (bif Nat.beq t 99 then some ty99 else none)) else (bif Nat.blt t 101 then (bif Nat.beq t 100 then some ty100 else none) else (bif Nat.beq t 101 then some ty101 else none))) else (bif Nat.blt t 104 then (bif Nat.blt t 103 then (bif Nat.beq t 102 then some ty102 else none) else (bif Nat.beq t 103 then some ty103 else none)) else (bif Nat.blt t 105 then (bif Nat.beq t 104 then some ty104 else none) else (bif Nat.blt t 106 then (bif Nat.beq t 105 then some ty105 else none) else (bif Nat.beq t 106 then some ty106 else none))))) else (bif Nat.blt t 111 then (bif Nat.blt t 109 then (bif Nat.blt t 108 then (bif Nat.beq t 107 then some ty107 else none) else (bif Nat.beq t 108 then some ty108 else none)) else (bif Nat.blt t 110 then (bif Nat.beq t 109 then some ty109 else none) else (bif Nat.beq t 110 then some ty110 else none))) else (bif Nat.blt t 113 then (bif Nat.blt t 112 then (bif Nat.beq t 111 then some ty111 else none) else (bif Nat.beq t 112 then some ty112 else none)) else (bif Nat.blt t 114 then (bif Nat.beq t 113 then some ty113 else none) else (bif Nat.blt t 118 then (bif Nat.beq t 114 then some ty114 else none) else (bif Nat.beq t 118 then some ty118 else none))))))) else (bif Nat.blt t 139 then (bif Nat.blt t 130 then (bif Nat.blt t 124 then (bif Nat.blt t 121 then (bif Nat.blt t 120 then (bif Nat.beq t 119 then some ty119 else none) else (bif Nat.beq t 120 then some ty120 else none)) else (bif Nat.blt t 123 then (bif Nat.beq t 121 then some ty121 else none) else (bif Nat.beq t 123 then some ty123 else none))) else (bif Nat.blt t 126 then (bif Nat.blt t 125 then (bif Nat.beq t 124 then some ty124 else none) else (bif Nat.beq t 125 then some ty125 else none)) else (bif Nat.blt t 127 then (bif Nat.beq t 126 then some ty126 else none) else (bif Nat.blt t 129 then (bif Nat.beq t 127 then some ty127 else none) else (bif Nat.beq t 129 then some ty129 else none))))) else (bif Nat.blt t 134 then (bif Nat.blt t 132 then (bif Nat.blt t 131 then (bif Nat.beq t 130 then some ty130 else none) else (bif Nat.beq t 131 then some ty131 else none)) else (bif Nat.blt t 133 then (bif Nat.beq t 132 then some ty132 else none) else (bif Nat.beq t 133 then some ty133 else none))) else (bif Nat.blt t 136 then (bif Nat.blt t 135 then (bif Nat.beq t 134 then some ty134 else none) else (bif Nat.beq t 135 then some ty135 else none)) else (bif Nat.blt t 137 then (bif Nat.beq t 136 then some ty136 else none) else (bif Nat.blt t 138 then (bif Nat.beq t 137 then some ty137 else none) else (bif Nat.beq t 138 then some ty138 else none)))))) else (bif Nat.blt t 148 then (bif Nat.blt t 143 then (bif Nat.blt t 141 then (bif Nat.blt t 140 then (bif Nat.beq t 139 then some ty139 else none) else (bif Nat.beq t 140 then some ty140 else none)) else (bif Nat.blt t 142 then (bif Nat.beq t 141 then some ty141 else none) else (bif Nat.beq t 142 then some ty142 else none))) else (bif Nat.blt t 145 then (bif Nat.blt t 144 then (bif Nat.beq t 143 then some ty143 else none) else (bif Nat.beq t 144 then some ty144 else none)) else (bif Nat.blt t 146 then (bif Nat.beq t 145 then some ty145 else none) else (bif Nat.blt t 147 then (bif Nat.beq t 146 then some ty146 else none) else (bif Nat.beq t 147 then some ty147 else none))))) else (bif Nat.blt t 152 then (bif Nat.blt t 150 then (bif Nat.blt t 149 then (bif Nat.beq t 148 then some ty148 else none) else (bif Nat.beq t 149 then some ty149 else none)) else (bif Nat.blt t 151 then (bif Nat.beq t 150 then some ty150 else none) else (bif Nat.beq t 151 then some ty151 else none))) else (bif Nat.blt t 154 then (bif Nat.blt t 153 then (bif Nat.beq t 152 then some ty152 else none) else (bif Nat.beq t 153 then some ty153 else none)) else (bif Nat.blt t 155 then (bif Nat.beq t 154 then some ty154 else none) else (bif Nat.blt t 156 then (bif Nat.beq t 155 then some ty155 else none) else (bif Nat.beq t 156 then some ty156 else none))))))))) else (bif Nat.blt t 237 then (bif Nat.blt t 198 then (bif Nat.blt t 180 then (bif Nat.blt t 167 then (bif Nat.blt t 163 then (bif Nat.blt t 160 then (bif Nat.blt t 158 then (bif Nat.beq t 157 then some ty157 else none) else (bif Nat.beq t 158 then some ty158 else none)) else (bif Nat.blt t 162 then (bif Nat.beq t 160 then some ty160 else none) else (bif Nat.beq t 162 then some ty162 else none))) else (bif Nat.blt t 165 then (bif Nat.blt t 164 then (bif Nat.beq t 163 then some ty163 else none) else (bif Nat.beq t 164 then some ty164 else none)) else (bif Nat.blt t 166 then (bif Nat.beq t 165 then some ty165 else none) else (bif Nat.beq t 166 then some ty166 else none)))) else (bif Nat.blt t 172 then (bif Nat.blt t 169 then (bif Nat.blt t 168 then (bif Nat.beq t 167 then some ty167 else none) else (bif Nat.beq t 168 then some ty168 else none)) else (bif Nat.blt t 170 then (bif Nat.beq t 169 then some ty169 else none) else (bif Nat.beq t 170 then some ty170 else none))) else (bif Nat.blt t 177 then (bif Nat.blt t 173 then (bif Nat.beq t 172 then some ty172 else none) else (bif Nat.beq t 173 then some ty173 else none)) else (bif Nat.blt t 178 then (bif Nat.beq t 177 then some ty177 else none) else (bif Nat.blt t 179 then (bif Nat.beq t 178 then some ty178 else none) else (bif Nat.beq t 179 then some ty179 else none)))))) else (bif Nat.blt t 189 then (bif Nat.blt t 184 then (bif Nat.blt t 182 then (bif Nat.blt t 181 then (bif Nat.beq t 180 then some ty180 else none) else (bif Nat.beq t 181 then some ty181 else none)) else (bif Nat.blt t 183 then (bif Nat.beq t 182 then some ty182 else none) else (bif Nat.beq t 183 then some ty183 else none))) else (bif Nat.blt t 186 then (bif Nat.blt t 185 then (bif Nat.beq t 184 then some ty184 else none) else (bif Nat.beq t 185 then some ty185 else none)) else (bif Nat.blt t 187 then (bif Nat.beq t 186 then some ty186 else none) else (bif Nat.blt t 188 then (bif Nat.beq t 187 then some ty187 else none) else (bif Nat.beq t 188 then some ty188 else none))))) else (bif Nat.blt t 193 then (bif Nat.blt t 191 then (bif Nat.blt t 190 then (bif Nat.beq t 189 then some ty189 else none) else (bif Nat.beq t 190 then some ty190 else none)) else (bif Nat.blt t 192 then (bif Nat.beq t 191 then some ty191 else none) else (bif Nat.beq t 192 then some ty192 else none))) else (bif Nat.blt t 195 then (bif Nat.blt t 194 then (bif Nat.beq t 193 then some ty193 else none) else (bif Nat.beq t 194 then some ty194 else none)) else (bif Nat.blt t 196 then (bif Nat.beq t 195 then some ty195 else none) else (bif Nat.blt t 197 then (bif Nat.beq t 196 then some ty196 else none) else (bif Nat.beq t 197 then some ty197 else none))))))) else (bif Nat.blt t 218 then (bif Nat.blt t 207 then (bif Nat.blt t 202 then (bif Nat.blt t 200 then (bif Nat.blt t 199 then (bif Nat.beq t 198 then some ty198 else none) else (bif Nat.beq t 199 then some ty199 else none)) else (bif Nat.blt t 201 then (bif Nat.beq t 200 then some ty200 else none) else (bif Nat.beq t 201 then some ty201 else none))) else (bif Nat.blt t 204 then (bif Nat.blt t 203 then (bif Nat.beq t 202 then some ty202 else none) else (bif Nat.beq t 203 then some ty203 else none)) else (bif Nat.blt t 205 then (bif Nat.beq t 204 then some ty204 else none) else (bif Nat.blt t 206 then (bif Nat.beq t 205 then some ty205 else none) else (bif Nat.beq t 206 then some ty206 else none))))) else (bif Nat.blt t 211 then (bif Nat.blt t 209 then (bif Nat.blt t 208 then (bif Nat.beq t 207 then some ty207 else none) else (bif Nat.beq t 208 then some ty208 else none)) else (bif Nat.blt t 210 then (bif Nat.beq t 209 then some ty209 else none) else (bif Nat.beq t 210 then some ty210 else none))) else (bif Nat.blt t 214 then (bif Nat.blt t 213 then (bif Nat.beq t 211 then some ty211 else none) else (bif Nat.beq t 213 then some ty213 else none)) else (bif Nat.blt t 215 then (bif Nat.beq t 214 then some ty214 else none) else (bif Nat.blt t 216 then (bif Nat.beq t 215 then some ty215 else none) else (bif Nat.beq t 216 then some ty216 else none)))))) else (bif Nat.blt t 228 then (bif Nat.blt t 223 then (bif Nat.blt t 221 then (bif Nat.blt t 219 then (bif Nat.beq t 218 then some ty218 else none) else (bif Nat.beq t 219 then some ty219 else none)) else (bif Nat.blt t 222 then (bif Nat.beq t 221 then some ty221 else none) else (bif Nat.beq t 222 then some ty222 else none))) else (bif Nat.blt t 225 then (bif Nat.blt t 224 then (bif Nat.beq t 223 then some ty223 else none) else (bif Nat.beq t 224 then some ty224 else none)) else (bif Nat.blt t 226 then (bif Nat.beq t 225 then some ty225 else none) else (bif Nat.blt t 227 then (bif Nat.beq t 226 then some ty226 else none) else (bif Nat.beq t 227 then some ty227 else none))))) else (bif Nat.blt t 232 then (bif Nat.blt t 230 then (bif Nat.blt t 229 then (bif Nat.beq t 228 then some ty228 else none) else (bif Nat.beq t 229 then some ty229 else none)) else (bif Nat.blt t 231 then (bif Nat.beq t 230 then some ty230 else none) else (bif Nat.beq t 231 then some ty231 else none))) else (bif Nat.blt t 234 then (bif Nat.blt t 233 then (bif Nat.beq t 232 then some ty232 else none) else (bif Nat.beq t 233 then some ty233 else none)) else (bif Nat.blt t 235 then (bif Nat.beq t 234 then some ty234 else none) else (bif Nat.blt t 236 then (bif Nat.beq t 235 then some ty235 else none) else (bif Nat.beq t 236 then some ty236 else none)))))))) else (bif Nat.blt t 278 then (bif Nat.blt t 258 then (bif Nat.blt t 247 then (bif Nat.blt t 241 then (bif Nat.blt t 239 then (bif Nat.blt t 238 then (bif Nat.beq t 237 then some ty237 else none) else (bif Nat.beq t 238 then some ty238 else none)) else (bif Nat.blt t 240 then (bif Nat.beq t 239 then some ty239 else none) else (bif Nat.beq t 240 then some ty240 else none))) else (bif Nat.blt t 243 then (bif Nat.blt t 242 then (bif Nat.beq t 241 then some ty241 else none) else (bif Nat.beq t 242 then some ty242 else none)) else (bif Nat.blt t 244 then (bif Nat.beq t 243 then some ty243 else none) else (bif Nat.blt t 246 then (bif Nat.beq t 244 then some ty244 else none) else (bif Nat.beq t 246 then some ty246 else none))))) else (bif Nat.blt t 251 then (bif Nat.blt t 249 then (bif Nat.blt t 248 then (bif Nat.beq t 247 then some ty247 else none) else (bif Nat.beq t 248 then some ty248 else none)) else (bif Nat.blt t 250 then (bif Nat.beq t 249 then some ty249 else none) else (bif Nat.beq t 250 then some ty250 else none))) else (bif Nat.blt t 253 then (bif Nat.blt t 252 then (bif Nat.beq t 251 then some ty251 else none) else (bif Nat.beq t 252 then some ty252 else none)) else (bif Nat.blt t 254 then (bif Nat.beq t 253 then some ty253 else none) else (bif Nat.blt t 256 then (bif Nat.beq t 254 then some ty254 else none) else (bif Nat.beq t 256 then some ty256 else none)))))) else (bif Nat.blt t 268 then (bif Nat.blt t 262 then (bif Nat.blt t 260 then (bif Nat.blt t 259 then (bif Nat.beq t 258 then some ty258 else none) else (bif Nat.beq t 259 then some ty259 else none)) else (bif Nat.blt t 261 then (bif Nat.beq t 260 then some ty260 else none) else (bif Nat.beq t 261 then some ty261 else none))) else (bif Nat.blt t 264 then (bif Nat.blt t 263 then (bif Nat.beq t 262 then some ty262 else none) else (bif Nat.beq t 263 then some ty263 else none)) else (bif Nat.blt t 266 then (bif Nat.beq t 264 then some ty264 else none) else (bif Nat.blt t 267 then (bif Nat.beq t 266 then some ty266 else none) else (bif Nat.beq t 267 then some ty267 else none))))) else (bif Nat.blt t 272 then (bif Nat.blt t 270 then (bif Nat.blt t 269 then (bif Nat.beq t 268 then some ty268 else none) else (bif Nat.beq t 269 then some ty269 else none)) else (bif Nat.blt t 271 then (bif Nat.beq t 270 then some ty270 else none) else (bif Nat.beq t 271 then some ty271 else none))) else (bif Nat.blt t 274 then (bif Nat.blt t 273 then (bif Nat.beq t 272 then some ty272 else none) else (bif Nat.beq t 273 then some ty273 else none)) else (bif Nat.blt t 275 then (bif Nat.beq t 274 then some ty274 else none) else (bif Nat.blt t 277 then (bif Nat.beq t 275 then some ty275 else none) else (bif Nat.beq t 277 then some ty277 else none))))))) else (bif Nat.blt t 298 then (bif Nat.blt t 287 then (bif Nat.blt t 282 then (bif Nat.blt t 280 then (bif Nat.blt t 279 then (bif Nat.beq t 278 then some ty278 else none) else (bif Nat.beq t 279 then some ty279 else none)) else (bif Nat.blt t 281 then (bif Nat.beq t 280 then some ty280 else none) else (bif Nat.beq t 281 then some ty281 else none))) else (bif Nat.blt t 284 then (bif Nat.blt t 283 then (bif Nat.beq t 282 then some ty282 else none) else (bif Nat.beq t 283 then some ty283 else none)) else (bif Nat.blt t 285 then (bif Nat.beq t 284 then some ty284 else none) else (bif Nat.blt t 286 then (bif Nat.beq t 285 then some ty285 else none) else (bif Nat.beq t 286 then some ty286 else none))))) else (bif Nat.blt t 291 then (bif Nat.blt t 289 then (bif Nat.blt t 288 then (bif Nat.beq t 287 then some ty287 else none) else (bif Nat.beq t 288 then some ty288 else none)) else (bif Nat.blt t 290 then (bif Nat.beq t 289 then some ty289 else none) else (bif Nat.beq t 290 then some ty290 else none))) else (bif Nat.blt t 294 then (bif Nat.blt t 293 then (bif Nat.beq t 291 then some ty291 else none) else (bif Nat.beq t 293 then some ty293 else none)) else (bif Nat.blt t 296 then (bif Nat.beq t 294 then some ty294 else none) else (bif Nat.blt t 297 then (bif Nat.beq t 296 then some ty296 else none) else (bif Nat.beq t 297 then some ty297 else none)))))) else (bif Nat.blt t 307 then (bif Nat.blt t 302 then (bif Nat.blt t 300 then (bif Nat.blt t 299 then (bif Nat.beq t 298 then some ty298 else none) else (bif Nat.beq t 299 then some ty299 else none)) else (bif Nat.blt t 301 then (bif Nat.beq t 300 then some ty300 else none) else (bif Nat.beq t 301 then some ty301 else none))) else (bif Nat.blt t 304 then (bif Nat.blt t 303 then (bif Nat.beq t 302 then some ty302 else none) else (bif Nat.beq t 303 then some ty303 else none)) else (bif Nat.blt t 305 then (bif Nat.beq t 304 then some ty304 else none) else (bif Nat.blt t 306 then (bif Nat.beq t 305 then some ty305 else none) else (bif Nat.beq t 306 then some ty306 else none))))) else (bif Nat.blt t 311 then (bif Nat.blt t 309 then (bif Nat.blt t 308 then (bif Nat.beq t 307 then some ty307 else none) else (bif Nat.beq t 308 then some ty308 else none)) else (bif Nat.blt t 310 then (bif Nat.beq t 309 then some ty309 else none) else (bif Nat.beq t 310 then some ty310 else none))) else (bif Nat.blt t 313 then (bif Nat.blt t 312 then (bif Nat.beq t 311 then some ty311 else none) else (bif Nat.beq t 312 then some ty312 else none)) else (bif Nat.blt t 314 then (bif Nat.beq t 313 then some ty313 else none) else (bif Nat.blt t 315 then (bif Nat.beq t 314 then some ty314 else none) else (bif Nat.beq t 315 then some ty315 else none)))))))))
def ty (t : TypeId) : Option TI := if t < 316 then tyTree t else none
theorem ty_lt {t : TypeId} {i : TI} (h : ty t = some i) : t < 316 := by
  unfold ty at h
  split at h
  · assumption
  · cases h
def lv22 (b : Nat) : List Nat := bif Nat.beq b 0 then [4, 10, 11, 12] else []
def lv23 (b : Nat) : List Nat := bif Nat.beq b 0 then [0, 7, 8, 20] else []
def lv24 (b : Nat) : List Nat := bif Nat.beq b 0 then [3, 6, 7, 8] else []
def lv25 (b : Nat) : List Nat := bif Nat.beq b 0 then [0, 1, 12, 13, 28, 29, 30, 31, 32, 33, 34, 35, 36, 37, 38, 39, 40, 41, 42, 43, 44, 45, 48, 49, 50, 51, 52, 53, 54, 55, 56, 57, 58, 59, 60, 61, 62, 63, 64, 65, 66] else []
def lv35 (b : Nat) : List Nat := bif Nat.beq b 1 then [5, 8, 10, 11, 14, 15, 56, 57] else []
def lv38 (b : Nat) : List Nat := bif Nat.beq b 0 then [2, 3, 97, 98] else []
def lv39 (b : Nat) : List Nat := bif Nat.beq b 0 then [3, 5, 9, 10, 11, 19, 20, 21, 22, 23, 24, 25, 26, 27, 28, 29, 30, 31, 32, 33] else []
def lv40 (b : Nat) : List Nat := bif Nat.beq b 0 then [1, 3, 4, 5, 7, 10, 11, 12] else []
def lv49 (b : Nat) : List Nat := bif Nat.beq b 0 then [0, 2, 10, 11, 26, 27, 28, 29, 30, 31, 32] else []
def lv50 (b : Nat) : List Nat := bif Nat.beq b 0 then [2, 6, 73, 74, 75] else []
def lv55 (b : Nat) : List Nat := bif Nat.beq b 0 then [3, 10, 11, 12] else []
def lv57 (b : Nat) : List Nat := bif Nat.beq b 0 then [2, 3, 10, 11, 12] else []
def lv59 (b : Nat) : List Nat := bif Nat.beq b 0 then [0, 1, 12, 13] else []
def lv61 (b : Nat) : List Nat := bif Nat.beq b 0 then [1, 13, 14, 15, 30, 31, 32, 33, 34, 37, 38, 39, 40, 41, 44, 45, 46, 47, 48, 51, 52, 53, 54, 55, 58, 59, 60, 61, 62] else []
def lv66 (b : Nat) : List Nat := bif Nat.beq b 0 then [0, 1, 12, 13] else []
def lv67 (b : Nat) : List Nat := bif Nat.beq b 0 then [0, 3, 7, 8, 9, 25, 26, 27, 28] else []
def lv68 (b : Nat) : List Nat := bif Nat.beq b 1 then [0, 1, 2, 10, 35, 36, 37] else []
def lv71 (b : Nat) : List Nat := bif Nat.beq b 0 then [0, 1, 5, 13, 14] else []
def lv74 (b : Nat) : List Nat := bif Nat.beq b 0 then [2, 7, 8, 9] else []
def lv75 (b : Nat) : List Nat := bif Nat.beq b 0 then [1, 5, 10, 11, 12] else []
def lv76 (b : Nat) : List Nat := bif Nat.beq b 0 then [0, 4, 5] else []
def lv82 (b : Nat) : List Nat := bif Nat.beq b 0 then [0, 18, 19] else []
def lv84 (b : Nat) : List Nat := bif Nat.beq b 0 then [3, 9, 10, 11] else []
def lv86 (b : Nat) : List Nat := bif Nat.beq b 1 then [3, 7, 9, 38, 39, 40] else []
def lv91 (b : Nat) : List Nat := bif Nat.beq b 0 then [13, 14, 15] else []
def lv92 (b : Nat) : List Nat := bif Nat.beq b 0 then [4, 9, 10, 11, 19, 20, 21] else []
def lv93 (b : Nat) : List Nat := bif Nat.beq b 0 then [5, 6, 7, 8] else []
def lv97 (b : Nat) : List Nat := bif Nat.beq b 0 then [2, 3, 76, 77, 78] else []
def lv99 (b : Nat) : List Nat := bif Nat.beq b 0 then [0, 1, 4, 5, 19, 20, 21, 22, 25, 26, 27, 28] else bif Nat.beq b 2 then [0, 1, 4, 6, 7] else []
def lv101 (b : Nat) : List Nat := bif Nat.beq b 0 then [3, 26, 27, 28] else []
def lv104 (b : Nat) : List Nat := bif Nat.beq b 0 then [1, 2, 15, 16, 17] else []
def lv106 (b : Nat) : List Nat := bif Nat.beq b 0 then [0, 3, 7, 8] else []
def lv110 (b : Nat) : List Nat := bif Nat.beq b 0 then [0, 2, 3] else []
def lv112 (b : Nat) : List Nat := bif Nat.beq b 0 then [8, 10] else []
def lv114 (b : Nat) : List Nat := bif Nat.beq b 0 then [8, 10, 26, 27] else []
def lv115 (b : Nat) : List Nat := bif Nat.beq b 0 then [0, 1, 2, 7, 8] else []
def lv116 (b : Nat) : List Nat := bif Nat.beq b 0 then [0, 3, 4, 23, 24, 25, 26] else bif Nat.beq b 2 then [0, 3, 4, 5, 15, 16, 17, 23, 24, 25, 26] else []
def lv117 (b : Nat) : List Nat := bif Nat.beq b 0 then [0, 1, 5, 6] else []
def lv121 (b : Nat) : List Nat := bif Nat.beq b 0 then [0, 4, 37, 38, 39] else []
def lv122 (b : Nat) : List Nat := bif Nat.beq b 0 then [0, 1, 9, 10, 11, 12] else []
def lv123 (b : Nat) : List Nat := bif Nat.beq b 0 then [0, 1, 9, 10, 11, 12, 13, 14, 15] else []
def lv124 (b : Nat) : List Nat := bif Nat.beq b 0 then [0, 2, 4] else []
def lv125 (b : Nat) : List Nat := bif Nat.beq b 0 then [0, 1] else []
def lv126 (b : Nat) : List Nat := bif Nat.beq b 0 then [0, 1] else []
def lv127 (b : Nat) : List Nat := bif Nat.beq b 0 then [0, 1] else []
def lv128 (b : Nat) : List Nat := bif Nat.beq b 0 then [0, 1] else []
def lv129 (b : Nat) : List Nat := bif Nat.beq b 0 then [1, 2, 3, 4, 9, 10, 11] else []
def lv131 (b : Nat) : List Nat := bif Nat.beq b 0 then [1, 2, 7, 8] else []
def lv132 (b : Nat) : List Nat := bif Nat.beq b 0 then [0, 5, 6, 7] else []
def lv136 (b : Nat) : List Nat := bif Nat.beq b 0 then [3] else bif Nat.beq b 2 then [5] else []
def lv137 (b : Nat) : List Nat := bif Nat.beq b 0 then [0, 3, 4] else []
def lv138 (b : Nat) : List Nat := bif Nat.beq b 0 then [3] else []
def lv139 (b : Nat) : List Nat := bif Nat.beq b 0 then [1, 5, 6] else []
def lv142 (b : Nat) : List Nat := bif Nat.beq b 0 then [3, 7, 8, 9] else []
def lv143 (b : Nat) : List Nat := bif Nat.beq b 0 then [0, 1, 5, 6] else bif Nat.beq b 2 then [0, 1, 5, 6, 7, 8] else []
def lv144 (b : Nat) : List Nat := bif Nat.beq b 0 then [0, 3, 22, 23] else bif Nat.beq b 2 then [0, 3, 4, 22, 23] else []
def lv158 (b : Nat) : List Nat := bif Nat.beq b 0 then [0, 8, 9, 10] else []
def lv162 (b : Nat) : List Nat := bif Nat.beq b 0 then [0, 1, 2, 4] else bif Nat.beq b 2 then [0, 1, 2, 4, 26, 27, 28] else []
def lv164 (b : Nat) : List Nat := bif Nat.beq b 0 then [0, 1, 5] else []
def lv165 (b : Nat) : List Nat := bif Nat.beq b 0 then [0, 1, 2, 8, 9, 10] else []
def lv166 (b : Nat) : List Nat := bif Nat.beq b 0 then [3, 9, 10, 11] else []
def lv167 (b : Nat) : List Nat := bif Nat.beq b 0 then [1, 5, 21, 22] else []
def lv168 (b : Nat) : List Nat := bif Nat.beq b 0 then [0, 1, 2, 9, 10] else []
def lv169 (b : Nat) : List Nat := bif Nat.beq b 0 then [0, 1, 2, 7, 8] else bif Nat.beq b 2 then [7, 9, 35, 36, 37] else []
def lv171 (b : Nat) : List Nat := bif Nat.beq b 0 then [0, 1, 2, 7] else []
def lv172 (b : Nat) : List Nat := bif Nat.beq b 0 then [0, 1, 5, 6, 7, 31, 32, 33, 34, 35, 36] else bif Nat.beq b 2 then [0, 1, 5, 7, 8, 22, 23, 31, 32, 33, 34, 35, 36] else []
def lv177 (b : Nat) : List Nat := bif Nat.beq b 0 then [0, 4, 5, 6] else []
def lv178 (b : Nat) : List Nat := bif Nat.beq b 0 then [2, 3, 5] else bif Nat.beq b 2 then [6, 32, 33, 34] else []
def lv179 (b : Nat) : List Nat := bif Nat.beq b 0 then [2, 3, 4, 6, 7, 8] else []
def lv181 (b : Nat) : List Nat := bif Nat.beq b 0 then [0, 3] else []
def lv183 (b : Nat) : List Nat := bif Nat.beq b 0 then [2, 3, 4, 8, 9, 10] else []
def lv184 (b : Nat) : List Nat := bif Nat.beq b 0 then [0, 3, 4] else []
def lv185 (b : Nat) : List Nat := bif Nat.beq b 0 then [0, 3, 4, 5, 6] else []
def lv186 (b : Nat) : List Nat := bif Nat.beq b 0 then [0, 1, 5, 9, 10] else []
def lv187 (b : Nat) : List Nat := bif Nat.beq b 0 then [0, 1, 5, 6, 7, 13, 14] else []
def lv188 (b : Nat) : List Nat := bif Nat.beq b 0 then [5, 6, 7] else []
def lv189 (b : Nat) : List Nat := bif Nat.beq b 0 then [0, 2, 3, 6, 7] else []
def lv190 (b : Nat) : List Nat := bif Nat.beq b 0 then [1, 2, 4] else bif Nat.beq b 2 then [2, 4] else []
def lv191 (b : Nat) : List Nat := bif Nat.beq b 0 then [1, 3, 7, 8] else []
def lv192 (b : Nat) : List Nat := bif Nat.beq b 0 then [0, 1, 3] else []
def lv195 (b : Nat) : List Nat := bif Nat.beq b 0 then [1, 2, 3, 7, 18, 19] else []
def lv197 (b : Nat) : List Nat := bif Nat.beq b 0 then [0, 1, 12, 13] else []
def lv198 (b : Nat) : List Nat := bif Nat.beq b 0 then [0, 1, 7, 8] else []
def lv201 (b : Nat) : List Nat := bif Nat.beq b 0 then [0, 3, 4, 5, 6] else []
def lv205 (b : Nat) : List Nat := bif Nat.beq b 0 then [1, 4, 19] else bif Nat.beq b 2 then [6, 38, 39, 40] else []
def lv206 (b : Nat) : List Nat := bif Nat.beq b 3 then [7, 8, 9] else []
def lv208 (b : Nat) : List Nat := bif Nat.beq b 0 then [7, 8, 21] else bif Nat.beq b 2 then [7, 8, 21, 23] else bif Nat.beq b 4 then [7, 8, 21, 35] else bif Nat.beq b 6 then [7, 8, 11, 54] else []
def lv209 (b : Nat) : List Nat := bif Nat.beq b 0 then [0, 1, 2, 7, 8] else bif Nat.beq b 2 then [2, 7, 9] else []
def lv212 (b : Nat) : List Nat := bif Nat.beq b 1 then [0, 7, 8, 9] else bif Nat.beq b 3 then [0, 7, 8, 9, 12] else bif Nat.beq b 5 then [0, 7, 8, 9, 14, 15, 133, 134, 135, 136, 137, 138] else bif Nat.beq b 7 then [0, 7, 8, 9, 14, 15, 16, 133, 134, 135, 136, 137, 138] else bif Nat.beq b 9 then [175] else []
def lv214 (b : Nat) : List Nat := bif Nat.beq b 0 then [0, 1, 5, 6] else []
def lv215 (b : Nat) : List Nat := bif Nat.beq b 0 then [1, 2, 3, 7, 8, 9, 10, 11, 12, 13, 14, 15, 16] else []
def lv217 (b : Nat) : List Nat := bif Nat.beq b 0 then [1] else []
def lv219 (b : Nat) : List Nat := bif Nat.beq b 0 then [2, 3, 4, 6, 7, 9] else []
def lv220 (b : Nat) : List Nat := bif Nat.beq b 0 then [2, 3, 4, 6, 7, 9] else []
def lv224 (b : Nat) : List Nat := bif Nat.beq b 0 then [2, 3, 4, 5, 20] else bif Nat.beq b 2 then [2, 3, 4, 5, 6, 7, 20, 23] else bif Nat.beq b 4 then [4, 5, 13, 14, 72] else []
def lv225 (b : Nat) : List Nat := bif Nat.beq b 0 then [0, 2, 3, 4] else []
def lv227 (b : Nat) : List Nat := bif Nat.beq b 0 then [1, 2, 4, 5, 6] else []
def lv231 (b : Nat) : List Nat := bif Nat.beq b 0 then [0, 1, 2, 8, 9] else []
def lv243 (b : Nat) : List Nat := bif Nat.beq b 0 then [1, 2, 4, 5, 14, 15] else bif Nat.beq b 2 then [2, 4, 5, 7, 33, 34] else bif Nat.beq b 4 then [2, 4, 7, 110] else []
def lv247 (b : Nat) : List Nat := bif Nat.beq b 0 then [0, 1, 2, 3, 16, 17] else []
def live (f : Nat) : Nat → List Nat := bif Nat.blt f 137 then (bif Nat.blt f 92 then (bif Nat.blt f 59 then (bif Nat.blt f 39 then (bif Nat.blt f 25 then (bif Nat.blt f 23 then (bif Nat.beq f 22 then lv22 else fun _ => []) else (bif Nat.blt f 24 then (bif Nat.beq f 23 then lv23 else fun _ => []) else (bif Nat.beq f 24 then lv24 else fun _ => []))) else (bif Nat.blt f 35 then (bif Nat.beq f 25 then lv25 else fun _ => []) else (bif Nat.blt f 38 then (bif Nat.beq f 35 then lv35 else fun _ => []) else (bif Nat.beq f 38 then lv38 else fun _ => [])))) else (bif Nat.blt f 50 then (bif Nat.blt f 40 then (bif Nat.beq f 39 then lv39 else fun _ => []) else (bif Nat.blt f 49 then (bif Nat.beq f 40 then lv40 else fun _ => []) else (bif Nat.beq f 49 then lv49 else fun _ => []))) else (bif Nat.blt f 55 then (bif Nat.beq f 50 then lv50 else fun _ => []) else (bif Nat.blt f 57 then (bif Nat.beq f 55 then lv55 else fun _ => []) else (bif Nat.beq f 57 then lv57 else fun _ => []))))) else (bif Nat.blt f 74 then (bif Nat.blt f 67 then (bif Nat.blt f 61 then (bif Nat.beq f 59 then lv59 else fun _ => []) else (bif Nat.blt f 66 then (bif Nat.beq f 61 then lv61 else fun _ => []) else (bif Nat.beq f 66 then lv66 else fun _ => []))) else (bif Nat.blt f 68 then (bif Nat.beq f 67 then lv67 else fun _ => []) else (bif Nat.blt f 71 then (bif Nat.beq f 68 then lv68 else fun _ => []) else (bif Nat.beq f 71 then lv71 else fun _ => [])))) else (bif Nat.blt f 82 then (bif Nat.blt f 75 then (bif Nat.beq f 74 then lv74 else fun _ => []) else (bif Nat.blt f 76 then (bif Nat.beq f 75 then lv75 else fun _ => []) else (bif Nat.beq f 76 then lv76 else fun _ => []))) else (bif Nat.blt f 86 then (bif Nat.blt f 84 then (bif Nat.beq f 82 then lv82 else fun _ => []) else (bif Nat.beq f 84 then lv84 else fun _ => [])) else (bif Nat.blt f 91 then (bif Nat.beq f 86 then lv86 else fun _ => []) else (bif Nat.beq f 91 then lv91 else fun _ => [])))))) else (bif Nat.blt f 117 then (bif Nat.blt f 106 then (bif Nat.blt f 99 then (bif Nat.blt f 93 then (bif Nat.beq f 92 then lv92 else fun _ => []) else (bif Nat.blt f 97 then (bif Nat.beq f 93 then lv93 else fun _ => []) else (bif Nat.beq f 97 then lv97 else fun _ => []))) else (bif Nat.blt f 101 then (bif Nat.beq f 99 then lv99 else fun _ => []) else (bif Nat.blt f 104 then (bif Nat.beq f 101 then lv101 else fun _ => []) else (bif Nat.beq f 104 then lv104 else fun _ => [])))) else (bif Nat.blt f 114 then (bif Nat.blt f 110 then (bif Nat.beq f 106 then lv106 else fun _ => []) else (bif Nat.blt f 112 then (bif Nat.beq f 110 then lv110 else fun _ => []) else (bif Nat.beq f 112 then lv112 else fun _ => []))) else (bif Nat.blt f 115 then (bif Nat.beq f 114 then lv114 else fun _ => []) else (bif Nat.blt f 116 then (bif Nat.beq f 115 then lv115 else fun _ => []) else (bif Nat.beq f 116 then lv116 else fun _ => []))))) else (bif Nat.blt f 126 then (bif Nat.blt f 123 then (bif Nat.blt f 121 then (bif Nat.beq f 117 then lv117 else fun _ => []) else (bif Nat.blt f 122 then (bif Nat.beq f 121 then lv121 else fun _ => []) else (bif Nat.beq f 122 then lv122 else fun _ => []))) else (bif Nat.blt f 124 then (bif Nat.beq f 123 then lv123 else fun _ => []) else (bif Nat.blt f 125 then (bif Nat.beq f 124 then lv124 else fun _ => []) else (bif Nat.beq f 125 then lv125 else fun _ => [])))) else (bif Nat.blt f 129 then (bif Nat.blt f 127 then (bif Nat.beq f 126 then lv126 else fun _ => []) else (bif Nat.blt f 128 then (bif Nat.beq f 127 then lv127 else fun _ => []) else (bif Nat.beq f 128 then lv128 else fun _ => []))) else (bif Nat.blt f 132 then (bif Nat.blt f 131 then (bif Nat.beq f 129 then lv129 else fun _ => []) else (bif Nat.beq f 131 then lv131 else fun _ => [])) else (bif Nat.blt f 136 then (bif Nat.beq f 132 then lv132 else fun _ => []) else (bif Nat.beq f 136 then lv136 else fun _ => []))))))) else (bif Nat.blt f 188 then (bif Nat.blt f 168 then (bif Nat.blt f 158 then (bif Nat.blt f 142 then (bif Nat.blt f 138 then (bif Nat.beq f 137 then lv137 else fun _ => []) else (bif Nat.blt f 139 then (bif Nat.beq f 138 then lv138 else fun _ => []) else (bif Nat.beq f 139 then lv139 else fun _ => []))) else (bif Nat.blt f 143 then (bif Nat.beq f 142 then lv142 else fun _ => []) else (bif Nat.blt f 144 then (bif Nat.beq f 143 then lv143 else fun _ => []) else (bif Nat.beq f 144 then lv144 else fun _ => [])))) else (bif Nat.blt f 165 then (bif Nat.blt f 162 then (bif Nat.beq f 158 then lv158 else fun _ => []) else (bif Nat.blt f 164 then (bif Nat.beq f 162 then lv162 else fun _ => []) else (bif Nat.beq f 164 then lv164 else fun _ => []))) else (bif Nat.blt f 166 then (bif Nat.beq f 165 then lv165 else fun _ => []) else (bif Nat.blt f 167 then (bif Nat.beq f 166 then lv166 else fun _ => []) else (bif Nat.beq f 167 then lv167 else fun _ => []))))) else (bif Nat.blt f 179 then (bif Nat.blt f 172 then (bif Nat.blt f 169 then (bif Nat.beq f 168 then lv168 else fun _ => []) else (bif Nat.blt f 171 then (bif Nat.beq f 169 then lv169 else fun _ => []) else (bif Nat.beq f 171 then lv171 else fun _ => []))) else (bif Nat.blt f 177 then (bif Nat.beq f 172 then lv172 else fun _ => []) else (bif Nat.blt f 178 then (bif Nat.beq f 177 then lv177 else fun _ => []) else (bif Nat.beq f 178 then lv178 else fun _ => [])))) else (bif Nat.blt f 184 then (bif Nat.blt f 181 then (bif Nat.beq f 179 then lv179 else fun _ => []) else (bif Nat.blt f 183 then (bif Nat.beq f 181 then lv181 else fun _ => []) else (bif Nat.beq f 183 then lv183 else fun _ => []))) else (bif Nat.blt f 186 then (bif Nat.blt f 185 then (bif Nat.beq f 184 then lv184 else fun _ => []) else (bif Nat.beq f 185 then lv185 else fun _ => [])) else (bif Nat.blt f 187 then (bif Nat.beq f 186 then lv186 else fun _ => []) else (bif Nat.beq f 187 then lv187 else fun _ => [])))))) else (bif Nat.blt f 209 then (bif Nat.blt f 197 then (bif Nat.blt f 191 then (bif Nat.blt f 189 then (bif Nat.beq f 188 then lv188 else fun _ => []) else (bif Nat.blt f 190 then (bif Nat.beq f 189 then lv189 else fun _ => []) else (bif Nat.beq f 190 then lv190 else fun _ => []))) else (bif Nat.blt f 192 then (bif Nat.beq f 191 then lv191 else fun _ => []) else (bif Nat.blt f 195 then (bif Nat.beq f 192 then lv192 else fun _ => []) else (bif Nat.beq f 195 then lv195 else fun _ => [])))) else (bif Nat.blt f 205 then (bif Nat.blt f 198 then (bif Nat.beq f 197 then lv197 else fun _ => []) else (bif Nat.blt f 201 then (bif Nat.beq f 198 then lv198 else fun _ => []) else (bif Nat.beq f 201 then lv201 else fun _ => []))) else (bif Nat.blt f 206 then (bif Nat.beq f 205 then lv205 else fun _ => []) else (bif Nat.blt f 208 then (bif Nat.beq f 206 then lv206 else fun _ => []) else (bif Nat.beq f 208 then lv208 else fun _ => []))))) else (bif Nat.blt f 220 then (bif Nat.blt f 215 then (bif Nat.blt f 212 then (bif Nat.beq f 209 then lv209 else fun _ => []) else (bif Nat.blt f 214 then (bif Nat.beq f 212 then lv212 else fun _ => []) else (bif Nat.beq f 214 then lv214 else fun _ => []))) else (bif Nat.blt f 217 then (bif Nat.beq f 215 then lv215 else fun _ => []) else (bif Nat.blt f 219 then (bif Nat.beq f 217 then lv217 else fun _ => []) else (bif Nat.beq f 219 then lv219 else fun _ => [])))) else (bif Nat.blt f 227 then (bif Nat.blt f 224 then (bif Nat.beq f 220 then lv220 else fun _ => []) else (bif Nat.blt f 225 then (bif Nat.beq f 224 then lv224 else fun _ => []) else (bif Nat.beq f 225 then lv225 else fun _ => []))) else (bif Nat.blt f 243 then (bif Nat.blt f 231 then (bif Nat.beq f 227 then lv227 else fun _ => []) else (bif Nat.beq f 231 then lv231 else fun _ => [])) else (bif Nat.blt f 247 then (bif Nat.beq f 243 then lv243 else fun _ => []) else (bif Nat.beq f 247 then lv247 else fun _ => [])))))))
end Go.Proofs.YtcpeljfjgbjnjaaDoor
