/-
  The types of the seat, and that the table is right.
-/
import Derived.Test.YtjmmamlipkbckaaVct
import Derived.Test.YtjmmamlipkbckaaProg
import Derived.KernelRfl

set_option maxRecDepth 100000
namespace Go.Proofs
open Go.Vc

namespace Ytjmmamlipkbckaa
def tab : List TI := [
  { id := 3, d := (.int .i64), size := 1, bytes := 8, zero := (.int .i64 (0)), ty := some (.int .i64), eq := false },
  { id := 4, d := .bool, size := 1, bytes := 1, zero := (.bool false), ty := some .bool, eq := false },
  { id := 5, d := (.int .u8), size := 1, bytes := 1, zero := (.int .u8 (0)), ty := some (.int .u8), eq := false },
  { id := 9, d := .str, size := 1, bytes := 16, zero := (.string ⟨⟨[]⟩⟩), ty := some .str, eq := false },
  { id := 22, d := (.slice 42), size := 1, bytes := 24, zero := (.slice none 0 0), ty := some (.list (.pair (.list (.int .i64)) (.pair (.list (.int .i64)) (.list (.pair (.int .i64) (.pair (.list (.pair (.int .i64) (.int .i64))) (.pair (.int .i64) (.pair (.int .i64) (.int .i64))))))))), eq := false },
  { id := 25, d := (.slice 5), size := 1, bytes := 24, zero := (.slice none 0 0), ty := some (.list (.int .u8)), eq := false },
  { id := 32, d := (.int .u64), size := 1, bytes := 8, zero := (.int .u64 (0)), ty := some (.int .u64), eq := false },
  { id := 34, d := (.slice 3), size := 1, bytes := 24, zero := (.slice none 0 0), ty := some (.list (.int .i64)), eq := false },
  { id := 35, d := (.struct [(0, 1, 3), (1, 1, 3)]), size := 2, bytes := 16, zero := (.agg #[(.int .i64 (0)), (.int .i64 (0))]), ty := some (.pair (.int .i64) (.int .i64)), eq := true },
  { id := 36, d := (.struct [(0, 1, 3), (1, 1, 3)]), size := 2, bytes := 16, zero := (.agg #[(.int .i64 (0)), (.int .i64 (0))]), ty := some (.pair (.int .i64) (.int .i64)), eq := true },
  { id := 37, d := (.slice 36), size := 1, bytes := 24, zero := (.slice none 0 0), ty := some (.list (.pair (.int .i64) (.int .i64))), eq := false },
  { id := 38, d := (.struct [(0, 1, 3), (1, 1, 37), (2, 1, 3), (3, 1, 3), (4, 1, 3)]), size := 5, bytes := 56, zero := (.agg #[(.int .i64 (0)), (.slice none 0 0), (.int .i64 (0)), (.int .i64 (0)), (.int .i64 (0))]), ty := some (.pair (.int .i64) (.pair (.list (.pair (.int .i64) (.int .i64))) (.pair (.int .i64) (.pair (.int .i64) (.int .i64))))), eq := true },
  { id := 39, d := (.struct [(0, 1, 3), (1, 1, 37), (2, 1, 3), (3, 1, 3), (4, 1, 3)]), size := 5, bytes := 56, zero := (.agg #[(.int .i64 (0)), (.slice none 0 0), (.int .i64 (0)), (.int .i64 (0)), (.int .i64 (0))]), ty := some (.pair (.int .i64) (.pair (.list (.pair (.int .i64) (.int .i64))) (.pair (.int .i64) (.pair (.int .i64) (.int .i64))))), eq := true },
  { id := 40, d := (.slice 39), size := 1, bytes := 24, zero := (.slice none 0 0), ty := some (.list (.pair (.int .i64) (.pair (.list (.pair (.int .i64) (.int .i64))) (.pair (.int .i64) (.pair (.int .i64) (.int .i64)))))), eq := false },
  { id := 41, d := (.struct [(0, 1, 34), (1, 1, 34), (2, 1, 40)]), size := 3, bytes := 72, zero := (.agg #[(.slice none 0 0), (.slice none 0 0), (.slice none 0 0)]), ty := some (.pair (.list (.int .i64)) (.pair (.list (.int .i64)) (.list (.pair (.int .i64) (.pair (.list (.pair (.int .i64) (.int .i64))) (.pair (.int .i64) (.pair (.int .i64) (.int .i64)))))))), eq := true },
  { id := 42, d := (.struct [(0, 1, 34), (1, 1, 34), (2, 1, 40)]), size := 3, bytes := 72, zero := (.agg #[(.slice none 0 0), (.slice none 0 0), (.slice none 0 0)]), ty := some (.pair (.list (.int .i64)) (.pair (.list (.int .i64)) (.list (.pair (.int .i64) (.pair (.list (.pair (.int .i64) (.int .i64))) (.pair (.int .i64) (.pair (.int .i64) (.int .i64)))))))), eq := true },
  { id := 44, d := (.int .u32), size := 1, bytes := 4, zero := (.int .u32 (0)), ty := some (.int .u32), eq := false },
  { id := 66, d := .plain, size := 1, bytes := 8, zero := .nilFunc, ty := none, eq := false }]

theorem tabOk : TabOk Try.prog tab where
  skels := by kernel_rfl
  infos := by kernel_rfl
  eqs := by kernel_rfl
  mixed := by kernel_rfl
end Ytjmmamlipkbckaa
end Go.Proofs
