/- Slices of ints and slices of slices of strings that came in. -/
import Derived.Test.YthppdlemchmipaaRowKit
import Derived.Test.YthppdlemchmipaaSlices
import Derived.Deep.Slices
namespace Go.Proofs.Ythppdlemchmipaa
open Go.ChangeShapes Go.WideShapes Go.ChangeAt Go.RowKit Go.Wd
open Go.Deep (open_slice1)
theorem spot_none {w : World} {y : Addr} {v : Value} (h : w.cell? (y.add 0) = some v) : y.spot = none := by
  have := World.cell?_spot h
  simpa [Addr.add] using this
theorem ints_in {H : Type} {enc : TypeId × Value → H} {P : Program} {w : World} {base : Nat} {held : Bool} {t e : TypeId} {a : Option Addr} {len cap : Nat} {x : DataW H × List MemPlace} {fuel : Nat} (ht : P.underlying t = some (.slice e)) (he : P.underlying e = some (.int .i64)) (hc : P.cellsOf e = 1)
    (h : DataW.trod enc P w base (fun _ => true) held fuel t (Value.slice a len cap).cells.toList = some x) : ∃ ls : List Int, ls.length = len ∧ SlN w (.slice a len cap) ls ∧ len ≤ maxLen := by
  rcases open_ints ht he hc h with ⟨hcs, _⟩ | ⟨y, l, c, zs, hcs, _, hl, hm, hlen, _, hcell, _⟩
  · simp [Value.cells] at hcs
    obtain ⟨rfl, rfl, rfl⟩ := hcs
    exact ⟨[], rfl, ⟨none, 0, rfl, .inl rfl⟩, by unfold maxLen; omega⟩
  · simp [Value.cells] at hcs
    obtain ⟨rfl, rfl, rfl⟩ := hcs
    simp only [if_true] at hlen
    have hl2 : (zs.take len).length = len := by simp; omega
    refine ⟨zs.take len, hl2, ⟨some y, cap, by rw [hl2], ?_⟩, by omega⟩
    by_cases h0 : len = 0
    · left; subst h0; simp
    · right
      have hspot := spot_none (hcell 0 (by omega))
      obtain ⟨yb, yo, ys⟩ := y
      simp only at hspot
      subst hspot
      refine ⟨yb, yo, rfl, fun j n hj => ?_⟩
      have hjl : j < len := by have := (List.getElem?_eq_some_iff.1 hj).1; omega
      have h1 := hcell j (by omega)
      rw [Addr.add_mid] at h1
      rw [List.getElem?_take_of_lt hjl, List.getElem?_eq_getElem (by omega)] at hj
      injection hj with hj
      rw [h1, ← hj]
      simp [List.getD, show j < zs.length by omega]
theorem rows_in {H : Type} {enc : TypeId × Value → H} {P : Program} {w : World} {base : Nat} {held : Bool} {t e q : TypeId} {a : Option Addr} {len cap : Nat} {x : DataW H × List MemPlace} {fuel : Nat} (ht : P.underlying t = some (.slice e)) (he : P.underlying e = some (.slice q)) (hq : P.underlying q = some .string) (hc : P.cellsOf e = 1) (hcq : P.cellsOf q = 1)
    (h : DataW.trod enc P w base (fun _ => true) held fuel t (Value.slice a len cap).cells.toList = some x) :
    ∃ ls : List (List (List UInt8)), ls.length = len ∧ SlR w (.slice a len cap) ls ∧ len ≤ maxLen ∧ ∀ l ∈ ls, l.length ≤ maxLen ∧ ∀ s ∈ l, s.length ≤ maxLen := by
  rcases open_slice1 ht hc h with ⟨hcs, _⟩ | ⟨y, l, c, m, n, V, Dd, Pl, hcs, _, hl, hm, hmm, _, hx⟩
  · simp [Value.cells] at hcs
    obtain ⟨rfl, rfl, rfl⟩ := hcs
    exact ⟨[], rfl, ⟨none, 0, rfl, .inl rfl⟩, by unfold maxLen; omega, by simp⟩
  · simp [Value.cells] at hcs
    obtain ⟨rfl, rfl, rfl⟩ := hcs
    simp only [if_true] at hmm
    subst hmm
    -- each element
    have hel : ∀ i, i < m → ∃ ss : List (List UInt8), SlS w (V i) ss ∧ ss.length ≤ maxLen ∧ ∀ s ∈ ss, s.length ≤ maxLen := by
      intro i hi
      have h2 := (hx i hi).2
      have hV : ∃ a' l' c', V i = .slice a' l' c' := by
        rcases open_strings he hq hcq h2 with ⟨hcs, _⟩ | ⟨y', l', c', _, hcs, _⟩
        · simp at hcs; exact ⟨_, _, _, hcs⟩
        · simp at hcs; exact ⟨_, _, _, hcs⟩
      obtain ⟨a', l', c', hV⟩ := hV
      have h3 : DataW.trod enc P w base (fun _ => true) held n e (Value.slice a' l' c').cells.toList = some (Dd i, Pl i) := by rw [← h2, hV]; rfl
      obtain ⟨ss, e1, e2, e3, e4⟩ := strings_in he hq hcq h3
      exact ⟨ss, by rw [hV]; exact e2, by omega, e4⟩
    have hch : ∃ F : Nat → List (List UInt8), ∀ i, i < m → SlS w (V i) (F i) ∧ (F i).length ≤ maxLen ∧ ∀ s ∈ F i, s.length ≤ maxLen :=
      ⟨fun i => if hi : i < m then Classical.choose (hel i hi) else [], fun i hi => by simp only [dif_pos hi]; exact Classical.choose_spec (hel i hi)⟩
    obtain ⟨F, hF⟩ := hch
    have hl2 : ((List.range len).map F).length = len := by simp
    refine ⟨(List.range len).map F, hl2, ⟨some y, m, by rw [hl2], ?_⟩, by omega, ?_⟩
    · by_cases h0 : len = 0
      · left; subst h0; simp
      · right
        have hspot := spot_none (hx 0 (by omega)).1
        obtain ⟨yb, yo, ys⟩ := y
        simp only at hspot
        subst hspot
        refine ⟨yb, yo, rfl, fun j l hj => ?_⟩
        have hjl : j < len := by have := (List.getElem?_eq_some_iff.1 hj).1; omega
        have h1 := (hx j (by omega)).1
        rw [Addr.add_mid] at h1
        have : l = F j := by simpa [hjl] using hj.symm
        subst this
        exact ⟨_, h1, (hF j (by omega)).1⟩
    · intro l hl'
      obtain ⟨j, hj, rfl⟩ := List.mem_map.1 hl'
      exact (hF j (by have := List.mem_range.1 hj; omega)).2
end Go.Proofs.Ythppdlemchmipaa
