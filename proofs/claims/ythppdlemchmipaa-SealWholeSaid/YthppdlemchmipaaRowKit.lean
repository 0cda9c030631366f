/- What a row's proof needs: the arguments as the walks want them. -/
import Derived.Test.YthppdlemchmipaaRows
import Derived.Test.YthppdlemchmipaaWords
import Derived.Test.YthppdlemchmipaaDisk0
import Derived.WalkKit
import Derived.ProofKit
import Derived.OpenShut
import Derived.ShutString
import Derived.ChangeOld
import Derived.Below
import Derived.Deep.Grids
namespace Go.Proofs.Ythppdlemchmipaa
open Go.ChangeShapes Go.WideShapes Go.ChangeAt Go.RowKit Go.Wd
open Go.ChangeMaps (open_string shut_string)
open Go.Deep (open_bools)
theorem ownKnob_none : ownKnob Try.prog.godebug = none := by kernel_rfl
theorem laidOut : laidOutB Try.prog = true := by kernel_rfl
theorem S_val (s : ByteArray) : Value.string s = S s.data.toList := rfl
theorem S_len (s : ByteArray) : s.data.toList.length = s.size := rfl
theorem maxLen_le {n : Nat} (h : n ≤ maxLen) : n ≤ 9223372036854775807 := Nat.le_trans h (by unfold maxLen; omega)
/-- a slice of bools that came in -/
theorem bools_in {H : Type} {enc : TypeId × Value → H} {P : Program} {w : World} {base : Nat} {held : Bool} {t e : TypeId} {a : Option Addr} {len cap : Nat} {x : DataW H × List MemPlace} {fuel : Nat} (ht : P.underlying t = some (.slice e)) (he : P.underlying e = some .bool) (hc : P.cellsOf e = 1)
    (h : DataW.trod enc P w base (fun _ => true) held fuel t (Value.slice a len cap).cells.toList = some x) : ∃ ks : List Bool, ks.length = len ∧ Bools w (.slice a len cap) ks ∧ len ≤ maxLen := by
  rcases open_bools ht he hc h with ⟨hcs, _⟩ | ⟨y, l, c, B, hcs, _, hl, hm, _, hcell⟩
  · simp [Value.cells] at hcs
    obtain ⟨rfl, rfl, rfl⟩ := hcs
    exact ⟨[], rfl, .inl ⟨rfl, rfl⟩, by unfold maxLen; omega⟩
  · simp [Value.cells] at hcs
    obtain ⟨rfl, rfl, rfl⟩ := hcs
    refine ⟨(List.range len).map B, by simp, .inr ⟨y, cap, by simp, fun j b hj => ?_⟩, by omega⟩
    have hjl : j < len := by have := (List.getElem?_eq_some_iff.1 hj).1; simpa using this
    have : b = B j := by simpa [hjl] using hj.symm
    rw [this]; exact hcell j (by omega)
end Go.Proofs.Ythppdlemchmipaa
