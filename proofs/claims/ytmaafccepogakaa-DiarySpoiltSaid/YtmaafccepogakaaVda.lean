/-
  The types of the seat, and that the table is right.
-/
import Derived.Test.YtmaafccepogakaaVct
import Derived.Test.YtmaafccepogakaaProg
import Derived.KernelRfl

set_option maxRecDepth 100000
namespace Go.Proofs
open Go.Vc

namespace Ytmaafccepogakaa
def tab : List TI := [
  { id := 3, d := (.int .i64), size := 1, bytes := 8, zero := (.int .i64 (0)), ty := some (.int .i64), eq := false },
  { id := 4, d := .bool, size := 1, bytes := 1, zero := (.bool false), ty := some .bool, eq := false },
  { id := 5, d := (.int .u8), size := 1, bytes := 1, zero := (.int .u8 (0)), ty := some (.int .u8), eq := false },
  { id := 9, d := .str, size := 1, bytes := 16, zero := (.string ⟨⟨[]⟩⟩), ty := some .str, eq := false },
  { id := 22, d := (.slice 4), size := 1, bytes := 24, zero := (.slice none 0 0), ty := some (.list .bool), eq := false },
  { id := 23, d := (.slice 3), size := 1, bytes := 24, zero := (.slice none 0 0), ty := some (.list (.int .i64)), eq := false },
  { id := 24, d := (.struct [(0, 1, 22), (1, 1, 23), (2, 1, 22), (3, 1, 22)]), size := 4, bytes := 96, zero := (.agg #[(.slice none 0 0), (.slice none 0 0), (.slice none 0 0), (.slice none 0 0)]), ty := some (.pair (.list .bool) (.pair (.list (.int .i64)) (.pair (.list .bool) (.list .bool)))), eq := true },
  { id := 25, d := (.struct [(0, 1, 22), (1, 1, 23), (2, 1, 22), (3, 1, 22)]), size := 4, bytes := 96, zero := (.agg #[(.slice none 0 0), (.slice none 0 0), (.slice none 0 0), (.slice none 0 0)]), ty := some (.pair (.list .bool) (.pair (.list (.int .i64)) (.pair (.list .bool) (.list .bool)))), eq := true },
  { id := 26, d := (.struct [(0, 4, 25), (4, 1, 23), (5, 1, 23)]), size := 6, bytes := 144, zero := (.agg #[(.slice none 0 0), (.slice none 0 0), (.slice none 0 0), (.slice none 0 0), (.slice none 0 0), (.slice none 0 0)]), ty := some (.pair (.pair (.list .bool) (.pair (.list (.int .i64)) (.pair (.list .bool) (.list .bool)))) (.pair (.list (.int .i64)) (.list (.int .i64)))), eq := true },
  { id := 27, d := (.struct [(0, 4, 25), (4, 1, 23), (5, 1, 23)]), size := 6, bytes := 144, zero := (.agg #[(.slice none 0 0), (.slice none 0 0), (.slice none 0 0), (.slice none 0 0), (.slice none 0 0), (.slice none 0 0)]), ty := some (.pair (.pair (.list .bool) (.pair (.list (.int .i64)) (.pair (.list .bool) (.list .bool)))) (.pair (.list (.int .i64)) (.list (.int .i64)))), eq := true },
  { id := 31, d := (.slice 5), size := 1, bytes := 24, zero := (.slice none 0 0), ty := some (.list (.int .u8)), eq := false },
  { id := 34, d := (.slice 27), size := 1, bytes := 24, zero := (.slice none 0 0), ty := some (.list (.pair (.pair (.list .bool) (.pair (.list (.int .i64)) (.pair (.list .bool) (.list .bool)))) (.pair (.list (.int .i64)) (.list (.int .i64))))), eq := false },
  { id := 40, d := (.int .u64), size := 1, bytes := 8, zero := (.int .u64 (0)), ty := some (.int .u64), eq := false },
  { id := 53, d := (.slice 23), size := 1, bytes := 24, zero := (.slice none 0 0), ty := some (.list (.list (.int .i64))), eq := false }]

theorem tabOk : TabOk Try.prog tab where
  skels := by kernel_rfl
  infos := by kernel_rfl
  eqs := by kernel_rfl
  mixed := by kernel_rfl
end Ytmaafccepogakaa
end Go.Proofs
