/-
  The types of the seat, and that the table is right.
-/
import Derived.Test.YtghpaejpccpgeaaVct
import Derived.Test.YtghpaejpccpgeaaProg
import Derived.KernelRfl

set_option maxRecDepth 100000
namespace Go.Proofs
open Go.Vc

namespace Ytghpaejpccpgeaa
def tab : List TI := [
  { id := 3, d := (.int .i64), size := 1, bytes := 8, zero := (.int .i64 (0)), ty := some (.int .i64), eq := false },
  { id := 4, d := .bool, size := 1, bytes := 1, zero := (.bool false), ty := some .bool, eq := false },
  { id := 5, d := (.int .u8), size := 1, bytes := 1, zero := (.int .u8 (0)), ty := some (.int .u8), eq := false },
  { id := 9, d := .str, size := 1, bytes := 16, zero := (.string ⟨⟨[]⟩⟩), ty := some .str, eq := false },
  { id := 22, d := (.slice 35), size := 1, bytes := 24, zero := (.slice none 0 0), ty := some (.list (.pair (.list (.int .i64)) (.list (.pair (.list (.int .i64)) (.int .i64))))), eq := false },
  { id := 25, d := (.slice 3), size := 1, bytes := 24, zero := (.slice none 0 0), ty := some (.list (.int .i64)), eq := false },
  { id := 32, d := (.slice 4), size := 1, bytes := 24, zero := (.slice none 0 0), ty := some (.list .bool), eq := false },
  { id := 33, d := (.slice 38), size := 1, bytes := 24, zero := (.slice none 0 0), ty := some (.list (.pair (.list (.int .i64)) (.int .i64))), eq := false },
  { id := 34, d := (.struct [(0, 1, 25), (1, 1, 33)]), size := 2, bytes := 48, zero := (.agg #[(.slice none 0 0), (.slice none 0 0)]), ty := some (.pair (.list (.int .i64)) (.list (.pair (.list (.int .i64)) (.int .i64)))), eq := true },
  { id := 35, d := (.struct [(0, 1, 25), (1, 1, 33)]), size := 2, bytes := 48, zero := (.agg #[(.slice none 0 0), (.slice none 0 0)]), ty := some (.pair (.list (.int .i64)) (.list (.pair (.list (.int .i64)) (.int .i64)))), eq := true },
  { id := 37, d := (.struct [(0, 1, 25), (1, 1, 3)]), size := 2, bytes := 32, zero := (.agg #[(.slice none 0 0), (.int .i64 (0))]), ty := some (.pair (.list (.int .i64)) (.int .i64)), eq := true },
  { id := 38, d := (.struct [(0, 1, 25), (1, 1, 3)]), size := 2, bytes := 32, zero := (.agg #[(.slice none 0 0), (.int .i64 (0))]), ty := some (.pair (.list (.int .i64)) (.int .i64)), eq := true },
  { id := 47, d := (.int .u64), size := 1, bytes := 8, zero := (.int .u64 (0)), ty := some (.int .u64), eq := false },
  { id := 48, d := (.int .u64), size := 1, bytes := 8, zero := (.int .u64 (0)), ty := some (.int .u64), eq := false },
  { id := 53, d := (.int .u64), size := 1, bytes := 8, zero := (.int .u64 (0)), ty := some (.int .u64), eq := false }]

theorem tabOk : TabOk Try.prog tab where
  skels := by kernel_rfl
  infos := by kernel_rfl
  eqs := by kernel_rfl
  mixed := by kernel_rfl
end Ytghpaejpccpgeaa
end Go.Proofs
