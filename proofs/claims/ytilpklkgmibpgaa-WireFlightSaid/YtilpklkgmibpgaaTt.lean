/- YtilpklkgmibpgaaTt: the types that the functions speak of (printed by gentt.py). -/
import Derived.Test.YtilpklkgmibpgaaAb13
import Derived.Test.YtilpklkgmibpgaaProg
namespace Go.Proofs.Ytilpklkgmibpgaa
open Go.Ab
def tt : Nat → Option TI
  | 3 => some { d := .int .i64, size := 1, bytes := 8, zero := [.int .i64 0], cmp := false }
  | 4 => some { d := .bool, size := 1, bytes := 1, zero := [.bool false], cmp := false }
  | 9 => some { d := .str, size := 1, bytes := 16, zero := [.str []], cmp := false }
  | 22 => some { d := .slice 3, size := 1, bytes := 24, zero := [.nils], cmp := false }
  | 24 => some { d := .ptr, size := 1, bytes := 8, zero := [.nilp], cmp := false }
  | 30 => some { d := .struct [(0, 9), (1, 3), (2, 3)], size := 3, bytes := 32, zero := [.str [], .int .i64 0, .int .i64 0], cmp := true }
  | 31 => some { d := .slice 42, size := 1, bytes := 24, zero := [.nils], cmp := false }
  | 36 => some { d := .slice 30, size := 1, bytes := 24, zero := [.nils], cmp := false }
  | 42 => some { d := .struct [(0, 4), (1, 30)], size := 4, bytes := 40, zero := [.bool false, .str [], .int .i64 0, .int .i64 0], cmp := true }
  | 55 => some { d := .map 3 63, size := 1, bytes := 8, zero := [.nilm], cmp := false }
  | 57 => some { d := .struct [(0, 22), (1, 3), (2, 55), (3, 31), (4, 36)], size := 5, bytes := 88, zero := [.nils, .int .i64 0, .nilm, .nils, .nils], cmp := false }
  | 63 => some { d := .struct [(0, 9), (1, 3), (2, 3)], size := 3, bytes := 32, zero := [.str [], .int .i64 0, .int .i64 0], cmp := false }
  | 71 => some { d := .slice 81, size := 1, bytes := 24, zero := [.nils], cmp := false }
  | 72 => some { d := .slice 77, size := 1, bytes := 24, zero := [.nils], cmp := false }
  | 74 => some { d := .struct [(0, 22), (1, 71), (2, 72), (3, 36), (4, 3)], size := 5, bytes := 104, zero := [.nils, .nils, .nils, .nils, .int .i64 0], cmp := false }
  | 75 => some { d := .slice 9, size := 1, bytes := 24, zero := [.nils], cmp := false }
  | 77 => some { d := .struct [(0, 4), (1, 30)], size := 4, bytes := 40, zero := [.bool false, .str [], .int .i64 0, .int .i64 0], cmp := false }
  | 81 => some { d := .struct [(0, 30), (3, 3), (4, 3)], size := 5, bytes := 48, zero := [.str [], .int .i64 0, .int .i64 0, .int .i64 0, .int .i64 0], cmp := false }
  | 86 => some { d := .int .u64, size := 1, bytes := 8, zero := [.int .u64 0], cmp := false }
  | _ => none
theorem tt3 : tt 3 = some { d := .int .i64, size := 1, bytes := 8, zero := [.int .i64 0], cmp := false } := rfl
theorem tt4 : tt 4 = some { d := .bool, size := 1, bytes := 1, zero := [.bool false], cmp := false } := rfl
theorem tt9 : tt 9 = some { d := .str, size := 1, bytes := 16, zero := [.str []], cmp := false } := rfl
theorem tt22 : tt 22 = some { d := .slice 3, size := 1, bytes := 24, zero := [.nils], cmp := false } := rfl
theorem tt24 : tt 24 = some { d := .ptr, size := 1, bytes := 8, zero := [.nilp], cmp := false } := rfl
theorem tt30 : tt 30 = some { d := .struct [(0, 9), (1, 3), (2, 3)], size := 3, bytes := 32, zero := [.str [], .int .i64 0, .int .i64 0], cmp := true } := rfl
theorem tt31 : tt 31 = some { d := .slice 42, size := 1, bytes := 24, zero := [.nils], cmp := false } := rfl
theorem tt36 : tt 36 = some { d := .slice 30, size := 1, bytes := 24, zero := [.nils], cmp := false } := rfl
theorem tt42 : tt 42 = some { d := .struct [(0, 4), (1, 30)], size := 4, bytes := 40, zero := [.bool false, .str [], .int .i64 0, .int .i64 0], cmp := true } := rfl
theorem tt55 : tt 55 = some { d := .map 3 63, size := 1, bytes := 8, zero := [.nilm], cmp := false } := rfl
theorem tt57 : tt 57 = some { d := .struct [(0, 22), (1, 3), (2, 55), (3, 31), (4, 36)], size := 5, bytes := 88, zero := [.nils, .int .i64 0, .nilm, .nils, .nils], cmp := false } := rfl
theorem tt63 : tt 63 = some { d := .struct [(0, 9), (1, 3), (2, 3)], size := 3, bytes := 32, zero := [.str [], .int .i64 0, .int .i64 0], cmp := false } := rfl
theorem tt71 : tt 71 = some { d := .slice 81, size := 1, bytes := 24, zero := [.nils], cmp := false } := rfl
theorem tt72 : tt 72 = some { d := .slice 77, size := 1, bytes := 24, zero := [.nils], cmp := false } := rfl
theorem tt74 : tt 74 = some { d := .struct [(0, 22), (1, 71), (2, 72), (3, 36), (4, 3)], size := 5, bytes := 104, zero := [.nils, .nils, .nils, .nils, .int .i64 0], cmp := false } := rfl
theorem tt75 : tt 75 = some { d := .slice 9, size := 1, bytes := 24, zero := [.nils], cmp := false } := rfl
theorem tt77 : tt 77 = some { d := .struct [(0, 4), (1, 30)], size := 4, bytes := 40, zero := [.bool false, .str [], .int .i64 0, .int .i64 0], cmp := false } := rfl
theorem tt81 : tt 81 = some { d := .struct [(0, 30), (3, 3), (4, 3)], size := 5, bytes := 48, zero := [.str [], .int .i64 0, .int .i64 0, .int .i64 0, .int .i64 0], cmp := false } := rfl
theorem tt86 : tt 86 = some { d := .int .u64, size := 1, bytes := 8, zero := [.int .u64 0], cmp := false } := rfl
theorem ttok : TTok Try.prog tt := by
  intro T i h
  unfold tt at h
  split at h <;> cases h <;> kernel_rfl
end Go.Proofs.Ytilpklkgmibpgaa
