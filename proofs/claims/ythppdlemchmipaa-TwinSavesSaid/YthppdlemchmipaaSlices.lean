/- Slices that came in: of ints, of slices of strings. No program. -/
import Derived.Test.YthppdlemchmipaaDisk0
namespace Go.Wd
open Go.RowKit
/-- slices that came in: of ints; of slices of strings -/
def SlN (w : World) (v : Value) (ns : List Int) : Prop :=
  ∃ a c, v = .slice a ns.length c ∧ (ns = [] ∨ ∃ bk o, a = some ⟨bk, o, none⟩ ∧ ∀ j n, ns[j]? = some n → w.cell? ⟨bk, o + j, none⟩ = some (.int .i64 n))
def SlR (w : World) (v : Value) (ls : List (List (List UInt8))) : Prop :=
  ∃ a c, v = .slice a ls.length c ∧ (ls = [] ∨ ∃ bk o, a = some ⟨bk, o, none⟩ ∧ ∀ j l, ls[j]? = some l → ∃ u, w.cell? ⟨bk, o + j, none⟩ = some u ∧ SlS w u l)
end Go.Wd
