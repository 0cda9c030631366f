/- statements of layer 6: awake. -/
import Derived.Test.YthppdlemchmipaaSeal5
import Derived.Test.YthppdlemchmipaaModel6
namespace Go.Proofs.Ythppdlemchmipaa
open Go.RowKit Go.Wd
theorem zeros_eq : zeros = zsec := rfl
theorem New_n (B n : Nat) (k : Int) (hk : ((n : Nat) : Int) = k) (w : World) (hB : B ≤ w.heap.size) (hn : n ≤ 4096) :
    Calls Try.prog 50 #[.int .i64 k] w fun e w' => ∃ D vs, e = .returned (.pointer (some ⟨D, 0, none⟩)) ∧ w.heap.size ≤ D ∧ Dk B D vs (Dsk.of (List.replicate n zsec)) w' ∧ Below w.heap.size w w' := by
  subst hk; exact DiskNew_any B n w hB hn
theorem ZNew_n (B D : Nat) (vs : Value) (st : Dsk) (a n : Nat) (i j : Int) (hi : ((a : Nat) : Int) = i) (hj : ((n : Nat) : Int) = j) (w : World) (h : Dk B D vs st w) (h1 : 1 ≤ n) (h2 : a + n ≤ st.safe.length) (hl : st.loose.length ≤ 1000000) :
    Calls Try.prog 51 #[.pointer (some ⟨D, 0, none⟩), .int .i64 i, .int .i64 j] w fun e w' => ∃ Z, e = .returned (.tuple #[.pointer (some ⟨Z, 0, none⟩), .int .i64 0]) ∧ w.heap.size ≤ Z ∧ Zk B D Z vs a n st w' ∧ Below w.heap.size w w' := by
  subst hi hj
  refine (ZNew_any B D vs st a n w h h1 h2).mono ?_
  rintro e w' ⟨rfl, hz, _, hb⟩
  exact ⟨_, rfl, Nat.le_refl _, ⟨dk_new h hb, hz, h2, hl⟩, hb⟩
/-- what a step of a disk newer than the world leaves -/
theorem below_dke {B D : Nat} {vs : Value} {w w0 w1 : World} (hb : Below B w0 w) (hk : DKe B D vs w w1) : Below B w0 w1 := hb.trans hk.below
theorem s7 : isNum 7 = true ∧ isNum 0 = false := by decide
set_option maxRecDepth 100000 in
set_option maxHeartbeats 4000000 in
theorem awake06 (w : World) : Calls Try.prog 49 #[] w fun e w' => e = .returned (.bool true) ∧ Below w.heap.size w w' := by
  -- the steps, in plain Lean
  obtain ⟨st1, r1, f1, sf1, l1, _, n1⟩ := (Dsk.of_free (List.replicate 6 zsec)).zput (from' := 1) (size := 5) (a := 1) (n := 7) (s := [97]) s7.1 (by decide) (by decide) (by decide)
  have g1 : st1.zget 1 5 ((1 : Nat) : Int) = ([97], 7, 0) := zget_lay f1.on s7.1 (by decide) (by decide) (fun j hj => by
    have : secs [(97 : UInt8)].length = 2 := by decide
    rw [n1, if_pos (by omega)]; congr 1; omega)
  have g0 : st1.zget 1 5 ((0 : Nat) : Int) = ([], 0, 5) := zget_zero f1.on (by decide) (by rw [n1, if_neg (by omega), of_now]; exact rep_at (by decide))
  have hlen : st1.loose.length ≤ 100 := by rw [l1]; simp [Dsk.of, placed_length, layOf_length, secs]
  have R1 := Lib.hid r1
  have G1 := Lib.hid g1
  have G0 := Lib.hid g0
  clear r1 f1 sf1 l1 n1 g1 g0
  go_enter Try.func49, Try.ntmps49
  go_wp2_with fail
  refine (New_n w.heap.size 6 6 rfl w (Nat.le_refl _) (by omega)).mono ?_
  rintro e w1 ⟨D, vs, rfl, hD, h1, b1⟩
  go_wp2_with fail
  refine (ZNew_n w.heap.size D vs _ 1 5 1 5 rfl rfl w1 h1 (by omega) (by simp [Dsk.of]) (by simp [Dsk.of])).mono ?_
  rintro e w2 ⟨Z, rfl, hZ, z2, b2⟩
  have b2 := b1.trans (b2.mono b1.size)
  go_wp2_with fail
  refine (Put_any w.heap.size D Z vs 1 5 _ ((1 : Nat) : Int) 7 [97] w2 z2 (by decide) (by simp [Dsk.of])).mono ?_
  rintro e w3 ⟨rfl, z3, k3⟩
  have b3 := below_dke b2 k3
  rw [R1.out] at z3 ⊢
  clear k3 b2 z2 b1 h1
  go_wp2_with fail
  refine (Get_any w.heap.size D Z vs 1 5 st1 ((1 : Nat) : Int) w3 z3).mono ?_
  rintro e w4 ⟨rfl, b4⟩
  rw [G1.out]
  have z4 := z3.new b4
  have b4 := b3.trans (b4.mono b3.size)
  clear z3 b3
  unfold getT
  go_wp2_with fail
  refine (Get_any w.heap.size D Z vs 1 5 st1 ((0 : Nat) : Int) w4 z4).mono ?_
  rintro e w5 ⟨rfl, b5⟩
  rw [G0.out]
  have z5 := z4.new b5
  have b5 := b4.trans (b5.mono b4.size)
  clear z4 b4
  unfold getT
  go_wp2_with fail
  refine (Lay_not 0 [] w5 (.inl s7.2) (by decide)).mono ?_
  rintro e w6 ⟨rfl, rfl⟩
  go_wp2_with fail
  refine (Size_any [97] w5 (by decide)).mono ?_
  rintro e w6 ⟨rfl, rfl⟩
  go_wp2_with fail
  go_ret
  exact ⟨rfl, b5⟩
end Go.Proofs.Ythppdlemchmipaa
