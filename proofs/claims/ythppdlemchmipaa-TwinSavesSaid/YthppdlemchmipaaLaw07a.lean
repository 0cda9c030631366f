/- statements of layer 7: awake. -/
import Derived.Test.YthppdlemchmipaaTwin3
import Derived.Test.YthppdlemchmipaaLaw06a
import Derived.Test.YthppdlemchmipaaModel7
namespace Go.Proofs.Ythppdlemchmipaa
open Go.RowKit Go.Wd
theorem tk_below {B D T : Nat} {vs : Value} {w w0 w1 : World} (hb : Below B w0 w) (hk : TK B D T vs w w1) : Below B w0 w1 := hb.trans hk.below
theorem f97 : fits 8 [97] = true ∧ fits 8 [98] = true ∧ zoneOK 8 = true ∧ ([97] : List UInt8).length ≤ 1024 ∧ secs ([97] : List UInt8).length ≤ 4 ∧ ([98] : List UInt8).length ≤ 1024 ∧ secs ([98] : List UInt8).length ≤ 4 := by decide
set_option maxRecDepth 100000 in
set_option maxHeartbeats 4000000 in
theorem awake07 (w : World) : Calls Try.prog 71 #[] w fun e w' => e = .returned (.bool true) ∧ Below w.heap.size w w' := by
  obtain ⟨st1, r1, f1, l1, sl1, tw1, _, _⟩ := turn_start 10 1 4 [97] ⟨f97.2.2.2.1, f97.2.2.2.2.1⟩ (by decide)
  obtain ⟨st2, r2, f2, l2, _, _, tw2, _, _⟩ := turn_save tw1 f1 l1 [98] ⟨f97.2.2.2.2.2.1, f97.2.2.2.2.2.2⟩ (by decide)
  have o2 := TwInv.open (by rw [Dsk.now_nil l2]; exact tw2) f2.on
  have hll : st1.loose.length ≤ 0 := by rw [l1]; exact Nat.le_refl _
  have R1 := Lib.hid r1
  have R2 := Lib.hid r2
  have L2 := Lib.hid l2
  have O2 := Lib.hid o2
  clear r1 f1 l1 sl1 tw1 r2 f2 l2 tw2 o2
  go_enter Try.func71, Try.ntmps71
  go_wp2_with fail
  refine (New_n w.heap.size 10 10 rfl w (Nat.le_refl _) (by omega)).mono ?_
  rintro e w1 ⟨D, vs, rfl, hD, h1, b1⟩
  go_wp2_with fail
  refine (ZNew_n w.heap.size D vs _ 1 8 1 8 rfl rfl w1 h1 (by omega) (by simp [Dsk.of]) (by simp [Dsk.of])).mono ?_
  rintro e w2 ⟨Z, rfl, hZ, z2, b2⟩
  have b2 := b1.trans (b2.mono b1.size)
  go_wp2_with fail
  refine (Format_any w.heap.size D Z vs 1 8 _ [97] w2 z2 f97.2.2.1 f97.1 (by simp [Dsk.of])).mono ?_
  rintro e w3 ⟨T, rfl, z3, hT, t3, k3⟩
  have b3 := below_dke b2 k3
  have ht := b2.size
  rw [show (8 : Nat) = 2 * 4 from rfl, R1.out] at z3 t3 ⊢
  have t3b := t3 rfl
  clear t3
  have e3 : tformV 0 T = .tuple #[.pointer (some ⟨T, 0, none⟩), .int .i64 0] := rfl
  simp only at z3
  rw [e3]
  clear k3 b2 z2 b1 h1 e3
  go_wp2_with fail
  refine (Save_any w.heap.size D Z T vs 1 8 st1 ⟨[97], 1, 0, false⟩ [98] w3 z3 t3b (by omega) (by decide) (by decide) (by decide) (by decide) (by decide) (by omega)).mono ?_
  rintro e w4 ⟨rfl, z4, t4, k4⟩
  have b4 := tk_below b3 k4
  rw [show (8 : Nat) = 2 * 4 from rfl, R2.out] at z4 t4 ⊢
  simp only at z4 t4
  clear k4 b3 z3 t3b
  go_wp2_with fail
  refine (Open_any w.heap.size D Z vs 1 (2 * 4) st2 w4 z4 f97.2.2.1).mono ?_
  rintro e w5 ⟨U, rfl, hU, u5, b5⟩
  rw [O2.out] at u5 ⊢
  have u5b := u5 rfl
  clear u5
  have e3 : topenV 0 U = .tuple #[.pointer (some ⟨U, 0, none⟩), .int .i64 0] := rfl
  rw [e3]
  have z5 := z4.new b5
  have t5 := twn_new t4 b5
  have b5 := b4.trans (b5.mono b4.size)
  have c5 : w5.cell? ⟨T, 0, none⟩ = some (.pointer (some ⟨Z, 0, none⟩)) := t5.cell 0
  have d5 : w5.cell? ⟨Z, 0, none⟩ = some (.pointer (some ⟨D, 0, none⟩)) := z5.row.cell 0
  clear e3 z4 t4 b4
  go_wp2_with fail
  refine (TText_any T Z _ w5 t5).mono ?_
  rintro e w6 ⟨rfl, rfl⟩
  go_wp2_with fail
  refine (TGen_any T Z _ w5 t5).mono ?_
  rintro e w6 ⟨rfl, rfl⟩
  go_wp2_with fail
  refine (TSide_any T Z _ w5 t5).mono ?_
  rintro e w6 ⟨rfl, rfl⟩
  go_wp2_with fail
  refine (TText_any U Z _ w5 u5b).mono ?_
  rintro e w6 ⟨rfl, rfl⟩
  go_wp2_with fail
  refine (TGen_any U Z _ w5 u5b).mono ?_
  rintro e w6 ⟨rfl, rfl⟩
  go_wp2_with fail
  refine (Loose_any w.heap.size D vs st2 w5 z5.disk).mono ?_
  rintro e w6 ⟨rfl, rfl⟩
  rw [L2.out]
  go_wp2_with fail
  go_ret
  exact ⟨rfl, b5⟩
end Go.Proofs.Ythppdlemchmipaa
