/-
  Two arrays of four bytes held against each other. No condition but the program's own type numbers.
-/
import Derived.Test.YtffhejaeliphcaaDoorMBytes
namespace Go.Proofs.YtffhejaeliphcaaDoor
open Go.RowKit
set_option linter.unusedVariables false

theorem eq4 (a b c d a' b' c' d' : Int) (wx : World) :
    (Op.equalIn 10000 132 (.agg #[.int .u8 a, .int .u8 b, .int .u8 c, .int .u8 d]) (.agg #[.int .u8 a', .int .u8 b', .int .u8 c', .int .u8 d'])).run Tryd.prog wx =
      .ok (a == a' && (b == b' && (c == c' && d == d'))) wx := by
  have hn : ((Tryd.prog.info? 5).map (·.size)) = some 1 := by kernel_rfl
  obtain ⟨i, hi, hs⟩ := Option.map_eq_some_iff.1 hn
  have e1 : ∀ (x y : Int) (wy : World), (Op.equalIn 9999 5 (.int .u8 x) (.int .u8 y)).run Tryd.prog wy = .ok (x == y) wy := fun x y wy =>
    run_equalIn_int wy 9998 5 .u8 .u8 x y Tryd.underlying5
  have hag : ∀ wy, (isAgg 5).run Tryd.prog wy = .ok false wy := fun wy => by
    simp [isAgg, run_underlying Tryd.underlying5]
  rw [Op.equalIn]
  simp [run_underlying Tryd.underlying132, sizeOf, typeInfo, hi, hs, Std.Legacy.Range.forIn_eq_forIn_range', List.range', part, hag, e1]
  by_cases h1 : a = a' <;> by_cases h2 : b = b' <;> by_cases h3 : c = c' <;> by_cases h4 : d = d' <;> simp [h1, h2, h3, h4]
end Go.Proofs.YtffhejaeliphcaaDoor
