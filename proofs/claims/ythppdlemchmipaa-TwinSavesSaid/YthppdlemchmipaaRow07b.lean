/- The statement TwinSaves: when the power goes in a save there is the text that was, or the new one; the call returns true for every input. -/
import Derived.Test.YthppdlemchmipaaRowKit
import Derived.Test.YthppdlemchmipaaRowKit2
import Derived.Test.YthppdlemchmipaaLaw07c
namespace Go.Proofs.Ythppdlemchmipaa
open Go.ChangeShapes Go.WideShapes Go.ChangeAt Go.RowKit Go.Wd
open Go.ChangeMaps (open_string shut_string)
set_option maxRecDepth 100000 in
theorem twinSaves_lifted (os : Os) (started : os.Started) (H : Type) (enc : TypeId × Value → H) :
    ReturnsInHanded {} Try.checked os 12 .any (Rows.twinSavesSpec.pre6 enc Try.prog Try.f12 Rows.twinSavesRow.domain false) (Rows.twinSavesSpec.post enc Try.prog Try.f12 false true false false) := by
  refine returnsInHanded_of_change (C := Try.checked) ownKnob_none started (by kernel_rfl) Try.func12
    (ChangeSpec.witness6 (enc := enc) (C := Try.checked) false ⟨#[], #[.slice none 0 0, .slice none 0 0, .slice none 0 0], []⟩ 8 (by kernel_rfl) (by kernel_rfl) (by kernel_rfl) (by kernel_rfl)) ?_
  intro W base args ds gs before hval0 hW hcnd _
  have hval : ∀ (j : Nat) t v, Try.f12.params[j]? = some t → args[j]? = some v → Value.okWide Try.prog W .any base t v := hval0
  have hW' := hW
  obtain ⟨p, q, hA0, hV, rfl, hfz, hnd⟩ := hW
  have hA : DataW.TrodAll enc Try.prog W 0 (fun _ => true) true Try.f12.params.toList args.toList ds p := hA0
  rw [Try.params12] at hA hval
  obtain ⟨v0, vs0, d0, ds0, p0, q0, hargs, rfl, rfl, h0, r0⟩ := trodAll_cons hA
  obtain ⟨v1, vs1, d1, ds1, p1, q1, rfl, rfl, rfl, h1, r1⟩ := trodAll_cons r0
  obtain ⟨v2, vs2, d2, ds2, p2, q2, rfl, rfl, rfl, h2, r2⟩ := trodAll_cons r1
  obtain ⟨rfl, rfl, rfl⟩ := trodAll_nil r2
  obtain rfl : args = #[v0, v1, v2] := by cases args; simp_all
  obtain ⟨rfl, rfl⟩ := trodVars_none hV
  obtain ⟨x0, len0, cap0, rfl⟩ := okWide_slice Try.underlying147 (hval 0 147 v0 rfl rfl)
  have k0 := h0
  have lt0 : ∀ x ∈ p0, x.block < W.heap.size := by obtain ⟨m, hm⟩ := k0; exact DataW.trod_lt m _ _ _ hm
  obtain ⟨ls0, hls0, hk0, hm0, hn0⟩ : ∃ ls : List (List (List UInt8)), ls.length = len0 ∧ SlR W (.slice x0 len0 cap0) ls ∧ len0 ≤ maxLen ∧ ∀ l ∈ ls, l.length ≤ maxLen ∧ ∀ s ∈ l, s.length ≤ maxLen := by
    obtain ⟨fuel, hf⟩ := h0
    exact rows_in Try.underlying147 Try.underlying104 Try.underlying9 (by kernel_rfl) (by kernel_rfl) hf
  obtain ⟨x1, len1, cap1, rfl⟩ := okWide_slice Try.underlying55 (hval 1 55 v1 rfl rfl)
  have k1 := h1
  have lt1 : ∀ x ∈ p1, x.block < W.heap.size := by obtain ⟨m, hm⟩ := k1; exact DataW.trod_lt m _ _ _ hm
  obtain ⟨ls1, hls1, hk1, hm1⟩ : ∃ ls : List Int, ls.length = len1 ∧ SlN W (.slice x1 len1 cap1) ls ∧ len1 ≤ maxLen := by
    obtain ⟨fuel, hf⟩ := h1
    exact ints_in Try.underlying55 Try.underlying3 (by kernel_rfl) hf
  obtain ⟨x2, len2, cap2, rfl⟩ := okWide_slice Try.underlying88 (hval 2 88 v2 rfl rfl)
  have k2 := h2
  have lt2 : ∀ x ∈ p2, x.block < W.heap.size := by obtain ⟨m, hm⟩ := k2; exact DataW.trod_lt m _ _ _ hm
  obtain ⟨ls2, hls2, hk2, hm2⟩ : ∃ ls : List Bool, ls.length = len2 ∧ Bools W (.slice x2 len2 cap2) ls ∧ len2 ≤ maxLen := by
    obtain ⟨fuel, hf⟩ := h2
    exact bools_in Try.underlying88 Try.underlying4 (by kernel_rfl) hf
  clear hA0 hval0
  refine (TwinSaves_any _ _ _ ls0 ls1 ls2 W hk0 hk1 hk2 (by rw [hls0]; exact maxLen_le hm0) (by rw [hls1]; exact maxLen_le hm1) (by rw [hls2]; exact maxLen_le hm2) (fun l hl => ⟨maxLen_le (hn0 l hl).1, fun x hx => maxLen_le ((hn0 l hl).2 x hx)⟩)).mono fun e W' ⟨he, bel⟩ => ?_
  subst he
  exact ⟨_, rfl, _, _, _, [], _, [], hW', trodAll_mk1 (shut_bool Try.underlying4 _), (trodAll_cons_mk (Below.trod laidOut (by kernel_rfl) (of_decide_eq_true (by kernel_rfl)) k0 bel lt0) (trodAll_cons_mk (Below.trod laidOut (by kernel_rfl) (of_decide_eq_true (by kernel_rfl)) k1 bel lt1) (trodAll_cons_mk (Below.trod laidOut (by kernel_rfl) (of_decide_eq_true (by kernel_rfl)) k2 bel lt2) trodAll_mk0))), rfl, bel.frame _, fun h => by cases h⟩
theorem TwinSaves_holds : Rows.TwinSavesSaid :=
  OpenClaim.holds_of_wide 12 Try.f12 rfl rfl rfl rfl rfl rfl rfl ⟨rfl, rfl, rfl, rfl, rfl⟩ rfl rfl rfl rfl rfl (by kernel_rfl) Try.func12 (by kernel_rfl)
    (of_decide_eq_true (by kernel_rfl)) (by unfold Func.isWrapper; first | (rw [if_pos (by decide +kernel)]; kernel_rfl) | (rw [if_neg (by decide +kernel)]; exact ⟨rfl, rfl⟩))
    (fun os started H enc _ => twinSaves_lifted os started H enc)
#print axioms TwinSaves_holds
end Go.Proofs.Ythppdlemchmipaa
