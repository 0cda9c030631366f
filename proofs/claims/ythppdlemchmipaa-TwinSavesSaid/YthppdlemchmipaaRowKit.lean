/- What a row's proof needs: the arguments as the walks want them. -/
import Derived.Test.YthppdlemchmipaaRows
import Derived.Test.YthppdlemchmipaaWords
import Derived.Test.YthppdlemchmipaaDisk0
import Derived.WalkKit
import Derived.ProofKit
import Derived.OpenShut
import Derived.ShutString
import Derived.ChangeOld
import Derived.Below
import Derived.Deep.Grids
import Derived.SliceStrings
import Derived.ChangeSlices
namespace Go.Proofs.Ythppdlemchmipaa
open Go.ChangeShapes Go.WideShapes Go.ChangeAt Go.RowKit Go.Wd
open Go.ChangeMaps (open_string shut_string)
open Go.Deep (open_bools)
theorem ownKnob_none : ownKnob Try.prog.godebug = none := by kernel_rfl
theorem laidOut : laidOutB Try.prog = true := by kernel_rfl
theorem S_val (s : ByteArray) : Value.string s = S s.data.toList := rfl
theorem S_len (s : ByteArray) : s.data.toList.length = s.size := rfl
theorem maxLen_le {n : Nat} (h : n ≤ maxLen) : n ≤ 9223372036854775807 := Nat.le_trans h (by unfold maxLen; omega)
/-- a slice of bools that came in -/
theorem bools_in {H : Type} {enc : TypeId × Value → H} {P : Program} {w : World} {base : Nat} {held : Bool} {t e : TypeId} {a : Option Addr} {len cap : Nat} {x : DataW H × List MemPlace} {fuel : Nat} (ht : P.underlying t = some (.slice e)) (he : P.underlying e = some .bool) (hc : P.cellsOf e = 1)
    (h : DataW.trod enc P w base (fun _ => true) held fuel t (Value.slice a len cap).cells.toList = some x) : ∃ ks : List Bool, ks.length = len ∧ Bools w (.slice a len cap) ks ∧ len ≤ maxLen := by
  rcases open_bools ht he hc h with ⟨hcs, _⟩ | ⟨y, l, c, B, hcs, _, hl, hm, _, hcell⟩
  · simp [Value.cells] at hcs
    obtain ⟨rfl, rfl, rfl⟩ := hcs
    exact ⟨[], rfl, .inl ⟨rfl, rfl⟩, by unfold maxLen; omega⟩
  · simp [Value.cells] at hcs
    obtain ⟨rfl, rfl, rfl⟩ := hcs
    refine ⟨(List.range len).map B, by simp, .inr ⟨y, cap, by simp, fun j b hj => ?_⟩, by omega⟩
    have hjl : j < len := by have := (List.getElem?_eq_some_iff.1 hj).1; simpa using this
    have : b = B j := by simpa [hjl] using hj.symm
    rw [this]; exact hcell j (by omega)
/-- a slice of strings that came in -/
theorem strings_in {H : Type} {enc : TypeId × Value → H} {P : Program} {w : World} {base : Nat} {held : Bool} {t e : TypeId} {a : Option Addr} {len cap : Nat} {x : DataW H × List MemPlace} {fuel : Nat} (ht : P.underlying t = some (.slice e)) (he : P.underlying e = some .string) (hc : P.cellsOf e = 1)
    (h : DataW.trod enc P w base (fun _ => true) held fuel t (Value.slice a len cap).cells.toList = some x) : ∃ ls : List (List UInt8), ls.length = len ∧ SlS w (.slice a len cap) ls ∧ len ≤ maxLen ∧ ∀ s ∈ ls, s.length ≤ maxLen := by
  rcases open_strings ht he hc h with ⟨hcs, _⟩ | ⟨y, l, c, ss, hcs, _, hl, hm, hlen, _, hcell, hsz⟩
  · simp [Value.cells] at hcs
    obtain ⟨rfl, rfl, rfl⟩ := hcs
    exact ⟨[], rfl, ⟨none, 0, rfl, Nat.le_refl _, .inl rfl⟩, by unfold maxLen; omega, by simp⟩
  · simp [Value.cells] at hcs
    obtain ⟨rfl, rfl, rfl⟩ := hcs
    simp only [if_true] at hlen
    have hl2 : ((ss.take len).map fun s => s.data.toList).length = len := by simp; omega
    refine ⟨(ss.take len).map fun s => s.data.toList, hl2, ?_, by omega, ?_⟩
    · refine ⟨some y, cap, by rw [hl2], by omega, ?_⟩
      by_cases h0 : len = 0
      · left; subst h0; simp
      · right
        have hspot : y.spot = none := by
          have := hcell 0 (by omega)
          have h2 := World.cell?_spot this
          simpa [Addr.add] using h2
        obtain ⟨yb, yo, ys⟩ := y
        simp only at hspot
        subst hspot
        refine ⟨yb, yo, rfl, fun j l hj => ?_⟩
        have hjl : j < len := by have := (List.getElem?_eq_some_iff.1 hj).1; omega
        have hjs : j < ss.length := by omega
        have h1 := hcell j hjs
        have e1 : l = (ss.getD j ByteArray.empty).data.toList := by
          simp only [List.getElem?_map, List.getElem?_take_of_lt hjl, List.getElem?_eq_getElem hjs, Option.map_some] at hj
          injection hj with hj
          rw [← hj]; simp [List.getD, hjs]
        rw [Addr.add_mid] at h1
        rw [e1]
        exact h1
    · intro s hs
      obtain ⟨b, hb, rfl⟩ := List.mem_map.1 hs
      exact hsz b (List.mem_of_mem_take hb)
end Go.Proofs.Ythppdlemchmipaa
