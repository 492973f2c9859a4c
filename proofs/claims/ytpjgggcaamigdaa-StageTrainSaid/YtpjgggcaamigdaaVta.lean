/-
  The types of the seat, and that the table is right.
-/
import Derived.Test.YtpjgggcaamigdaaVcs
import Derived.Test.YtpjgggcaamigdaaProg
import Derived.KernelRfl

set_option maxRecDepth 100000
namespace Go.Proofs
open Go.Vc

namespace Ytpjgggcaamigdaa
def tab : List TI := [
  { id := 3, d := (.int .i64), size := 1, bytes := 8, zero := (.int .i64 (0)), ty := some (.int .i64), eq := false },
  { id := 4, d := .bool, size := 1, bytes := 1, zero := (.bool false), ty := some .bool, eq := false },
  { id := 5, d := (.int .u8), size := 1, bytes := 1, zero := (.int .u8 (0)), ty := some (.int .u8), eq := false },
  { id := 22, d := (.slice 4), size := 1, bytes := 24, zero := (.slice none 0 0), ty := some (.list .bool), eq := false },
  { id := 24, d := (.struct [(0, 1, 3), (1, 1, 3), (2, 1, 4), (3, 1, 22)]), size := 4, bytes := 48, zero := (.agg #[(.int .i64 (0)), (.int .i64 (0)), (.bool false), (.slice none 0 0)]), ty := some (.pair (.int .i64) (.pair (.int .i64) (.pair .bool (.list .bool)))), eq := true },
  { id := 26, d := (.struct [(0, 1, 22), (1, 1, 4), (2, 1, 4), (3, 1, 4), (4, 1, 4), (5, 1, 4), (6, 1, 4)]), size := 7, bytes := 32, zero := (.agg #[(.slice none 0 0), (.bool false), (.bool false), (.bool false), (.bool false), (.bool false), (.bool false)]), ty := some (.pair (.list .bool) (.pair .bool (.pair .bool (.pair .bool (.pair .bool (.pair .bool .bool)))))), eq := true },
  { id := 28, d := (.slice 3), size := 1, bytes := 24, zero := (.slice none 0 0), ty := some (.list (.int .i64)), eq := false },
  { id := 32, d := (.struct [(0, 1, 22), (1, 1, 4), (2, 1, 4), (3, 1, 4), (4, 1, 4), (5, 1, 4), (6, 1, 4)]), size := 7, bytes := 32, zero := (.agg #[(.slice none 0 0), (.bool false), (.bool false), (.bool false), (.bool false), (.bool false), (.bool false)]), ty := some (.pair (.list .bool) (.pair .bool (.pair .bool (.pair .bool (.pair .bool (.pair .bool .bool)))))), eq := true },
  { id := 37, d := (.slice 26), size := 1, bytes := 24, zero := (.slice none 0 0), ty := some (.list (.pair (.list .bool) (.pair .bool (.pair .bool (.pair .bool (.pair .bool (.pair .bool .bool))))))), eq := false },
  { id := 42, d := (.slice 5), size := 1, bytes := 24, zero := (.slice none 0 0), ty := some (.list (.int .u8)), eq := false },
  { id := 52, d := (.struct [(0, 1, 3), (1, 1, 3), (2, 1, 4)]), size := 3, bytes := 24, zero := (.agg #[(.int .i64 (0)), (.int .i64 (0)), (.bool false)]), ty := some (.pair (.int .i64) (.pair (.int .i64) .bool)), eq := true }]

theorem tabOk : TabOk Try.prog tab where
  skels := by kernel_rfl
  infos := by kernel_rfl
  eqs := by kernel_rfl
  mixed := by kernel_rfl
end Ytpjgggcaamigdaa
end Go.Proofs
