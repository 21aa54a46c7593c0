/- Contracts of Go functions that the laws reach: what each call answers and leaves in memory, for all arguments within the bounds that each theorem names. -/
import Derived.Test.YthpeejcmkhglmaaInst
import Derived.Test.YthpeejcmkhglmaaAuto
import Derived.Test.YthpeejcmkhglmaaW7
set_option linter.unusedVariables false
set_option linter.unusedSimpArgs false
set_option maxRecDepth 100000
set_option maxHeartbeats 4000000
namespace Go.Tg
open Go Go.Proofs
theorem rd_Num_ok (b n : Nat) (hn : n < 18446744073709551616) (rest : List UInt8) (a : Option Addr) (c : Nat) (xs : List UInt8) (hx : xs = putB n ++ rest) (g : FH) (w : World) (HO : St w [b] g g [rdr b true 0 a xs.length c] w) (hr : BS g a c xs) :
    Spec Try.prog 30 #[pt b] w [b] g (fun v' h' L' => v' = .tuple #[.int .u64 n, .int .i64 0] ∧ h' = g ∧ ∃ a' c', BS g a' c' rest ∧ L' = [rdr b true 0 a' rest.length c']) := by
  have := rd_Num b 0 a c xs g w HO hr
  rw [hx, numE_putB n hn] at this; exact this
theorem rd_Int_ok (b : Nat) (n : Int) (h1 : -9223372036854775808 ≤ n) (h2 : n ≤ 9223372036854775807) (rest : List UInt8) (a : Option Addr) (c : Nat) (xs : List UInt8) (hx : xs = putB (foldN n) ++ rest) (g : FH) (w : World) (HO : St w [b] g g [rdr b true 0 a xs.length c] w) (hr : BS g a c xs) :
    Spec Try.prog 32 #[pt b] w [b] g (fun v' h' L' => v' = .tuple #[.int .i64 n, .int .i64 0] ∧ h' = g ∧ ∃ a' c', BS g a' c' rest ∧ L' = [rdr b true 0 a' rest.length c']) := by
  have := rd_Int b 0 a c xs g w HO hr
  rw [hx, numE_putB _ (foldN_lt h1 h2), unfold_fold] at this; exact this
theorem rd_Bytes_ok (b : Nat) (bs : List UInt8) (hb : bs.length ≤ 1000000) (rest : List UInt8) (a : Option Addr) (c : Nat) (xs : List UInt8) (hx : xs = fieldB bs ++ rest) (hl : xs.length ≤ 1000000000) (g : FH) (w : World) (HO : St w [b] g g [rdr b true 0 a xs.length c] w) (hr : BS g a c xs) :
    Spec Try.prog 34 #[pt b] w [b] g (fun v' h' L' => ∃ a2 c2 a' c', v' = .tuple #[.slice a2 bs.length c2, .int .i64 0] ∧ h' = g ∧ BS g a' c' rest ∧ L' = [own8 (.slice a2 bs.length c2) 5 bs, rdr b true 0 a' rest.length c']) := by
  have := rd_Bytes b 0 a c xs g w HO hr hl
  rw [hx, bytesE_fieldB bs rest (by omega)] at this; exact this
theorem rd_Bytes_end (b : Nat) (a : Option Addr) (c : Nat) (g : FH) (w : World) (HO : St w [b] g g [rdr b true 0 a ([] : List UInt8).length c] w) (hr : BS g a c []) :
    Spec Try.prog 34 #[pt b] w [b] g (fun v' h' L' => ∃ a2 c2 a' c', v' = .tuple #[.slice a2 0 c2, .int .i64 4] ∧ h' = g ∧ BS g a' c' [] ∧ L' = [own8 (.slice a2 0 c2) 5 [], rdr b true 4 a' 0 c']) := by
  have := rd_Bytes b 0 a c [] g w HO hr (by simp)
  rw [bytesE_nil] at this; exact this
end Go.Tg
