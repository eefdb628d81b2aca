/- What the machine is told: the seat's types, package-level variables. -/
import Derived.Test.YtlhebakbbfmiiaaDoorAxBd
import Derived.Test.YtlhebakbbfmiiaaDoorProg
import Derived.KernelRfl
namespace Go.Proofs.YtlhebakbbfmiiaaDoor
open Go.Ax
def signsL : List (Int × Str) := [(4, [65, 78, 68]), (5, [79, 82]), (6, [61]), (7, [60, 62]), (8, [60]), (9, [60, 61]), (10, [62]), (11, [62, 61]), (12, [43]), (13, [45]), (14, [42])]
/-- the types -/
def ttL : List (Nat × Ax.Ty) := [
  (3, .int .i64),
  (4, .bool),
  (5, .int .u8),
  (9, .str),
  (23, .st (some .val) [(0, 3), (1, 3), (2, 9)] [.int .i64 0, .int .i64 0, .str []]),
  (24, .sl .expr),
  (26, .st (some .expr) [(0, 3), (1, 23), (4, 9), (5, 24)] [.int .i64 0, .int .i64 0, .int .i64 0, .str [], .str [], .sl .expr [] .nil]),
  (27, .sl .col),
  (28, .sl .val),
  (31, .int .i64),
  (51, .sl .int),
  (54, .st (some .col) [(0, 9), (1, 3), (2, 4), (3, 4), (4, 9)] [.str [], .int .i64 0, .bool false, .bool false, .str []]),
  (63, .arr 2 .int),
  (76, .fn),
  (82, .map),
  (83, .fn),
  (87, .sl .str),
  (88, .int .u64),
  (94, .st (some .num) [(0, 4), (1, 51)] [.bool false, .sl .int [] .nil]),
  (97, .int .u64)]
def elT : Ck → TypeId
  | .byte => 5
  | .int => 3
  | .u64 => 88
  | .str => 9
  | .bool => 4
  | .val => 23
  | .col => 54
  | .expr => 26
  | .num => 94
  | .vals => 28
  | .exprs => 24
  | .strs => 87
  | _ => 0
theorem ttL_ok : (ttL.all fun p => tyOk Tryd.prog elT (ttOf ttL) p.1) = true := by kernel_rfl
def glT : Nat → Option Gv := tbl [(0, .map signsL)]
theorem follows : Tryd.prog.follows .mixedOrders = true := by kernel_rfl
end Go.Proofs.YtlhebakbbfmiiaaDoor
