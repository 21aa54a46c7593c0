/- Contracts of Go functions that the laws reach: what each call answers and leaves in memory, for all arguments within the bounds that each theorem names. -/
import Derived.Test.YthpeejcmkhglmaaInst
import Derived.Test.YthpeejcmkhglmaaAuto
import Derived.Test.YthpeejcmkhglmaaO6
set_option linter.unusedVariables false
set_option maxRecDepth 100000
set_option maxHeartbeats 400000
namespace Go.Tg
open Go Go.Proofs
theorem fill_op0 (n2 n3 n4 n5 n6 : Int) (x0 x1 x2 x3 x4 x5 x6 x7 x8 x9 x10 x11 x12 x13 x14 x15 : Value) : fillL [(0, 2), (2, 1), (3, 1), (4, 1), (5, 1), (6, 1), (7, 16)] [.int .u8 0, .int .u32 0, .int .u8 0, .int .u16 0, .int .u16 0, .int .u16 0, .int .u32 0, .int .u32 0, .int .u32 0, .int .u32 0, .int .u32 0, .int .u32 0, .int .u32 0, .int .u32 0, .int .u32 0, .int .u32 0, .int .u32 0, .int .u32 0, .int .u32 0, .int .u32 0, .int .u32 0, .int .u32 0, .int .u32 0] [(1, .int .u8 n2), (2, .int .u16 n3), (3, .int .u16 n4), (4, .int .u16 n5), (5, .int .u32 n6), (6, .agg [x0, x1, x2, x3, x4, x5, x6, x7, x8, x9, x10, x11, x12, x13, x14, x15].toArray)] = [.int .u8 0, .int .u32 0, .int .u8 n2, .int .u16 n3, .int .u16 n4, .int .u16 n5, .int .u32 n6, x0, x1, x2, x3, x4, x5, x6, x7, x8, x9, x10, x11, x12, x13, x14, x15] := by simp [fillL, setMany, Value.cells]
theorem fill_op (n2 n3 n4 n5 n6 : Int) (v : V16) : fillL [(0, 2), (2, 1), (3, 1), (4, 1), (5, 1), (6, 1), (7, 16)] [.int .u8 0, .int .u32 0, .int .u8 0, .int .u16 0, .int .u16 0, .int .u16 0, .int .u32 0, .int .u32 0, .int .u32 0, .int .u32 0, .int .u32 0, .int .u32 0, .int .u32 0, .int .u32 0, .int .u32 0, .int .u32 0, .int .u32 0, .int .u32 0, .int .u32 0, .int .u32 0, .int .u32 0, .int .u32 0, .int .u32 0] [(1, .int .u8 n2), (2, .int .u16 n3), (3, .int .u16 n4), (4, .int .u16 n5), (5, .int .u32 n6), (6, .agg (cV v).toArray)] = [.int .u8 0, .int .u32 0, .int .u8 n2, .int .u16 n3, .int .u16 n4, .int .u16 n5, .int .u32 n6] ++ cV v := by
  have e : cV v = [u32 (v 0), u32 (v 1), u32 (v 2), u32 (v 3), u32 (v 4), u32 (v 5), u32 (v 6), u32 (v 7), u32 (v 8), u32 (v 9), u32 (v 10), u32 (v 11), u32 (v 12), u32 (v 13), u32 (v 14), u32 (v 15)] := by simp [cV, List.ofFn_succ]
  rw [e]; exact fill_op0 _ _ _ _ _ (u32 (v 0)) (u32 (v 1)) (u32 (v 2)) (u32 (v 3)) (u32 (v 4)) (u32 (v 5)) (u32 (v 6)) (u32 (v 7)) (u32 (v 8)) (u32 (v 9)) (u32 (v 10)) (u32 (v 11)) (u32 (v 12)) (u32 (v 13)) (u32 (v 14)) (u32 (v 15))
theorem fill_ok (n2 n3 n4 n5 n6 : Int) (v : V16) : fillOk [(0, 2), (2, 1), (3, 1), (4, 1), (5, 1), (6, 1), (7, 16)] 23 [(1, .int .u8 n2), (2, .int .u16 n3), (3, .int .u16 n4), (4, .int .u16 n5), (5, .int .u32 n6), (6, .agg (cV v).toArray)] = true := by
  have : (Value.agg (cV v).toArray).cells.toList.length = 16 := by rw [show (Value.agg (cV v).toArray).cells = (cV v).toArray from rfl]; simp [cV_len]
  simp only [fillOk, this]; rfl
end Go.Tg
