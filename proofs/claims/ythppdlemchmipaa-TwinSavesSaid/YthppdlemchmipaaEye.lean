/- package pen, the reader: Of, take, Num, Err. -/
import Derived.Test.YthppdlemchmipaaProg
import Derived.Test.YthppdlemchmipaaPure0
namespace Go.Proofs.Ythppdlemchmipaa
open Go.RowKit Go.Wd

/-- an eye at block y: what is left, and whether something was wrong -/
abbrev Ey (y : Nat) (l : List UInt8) (bad : Bool) (w : World) : Prop := Row w y 257 [S l, .bool bad]

theorem eyeBuilt (l : List UInt8) : Try.prog.built 257 [(0, S l)] = some #[S l, .bool false] := by kernel_rfl
set_option maxRecDepth 100000 in
set_option maxHeartbeats 1000000 in
theorem eye_Of (l : List UInt8) (w : World) :
    Calls Try.prog 125 #[S l] w fun e w' => e = .returned (.pointer (some ⟨w.heap.size, 0, none⟩)) ∧ Ey w.heap.size l false w' ∧ w'.heap.size = w.heap.size + 1 ∧ Keeps (fun _ => False) w w' := by
  go_enter Try.func125, Try.ntmps125
  go_upto_region 1 with (fail)
  apply wp_region_lit
  go_step
  go_step
  go_step
  refine wpl_build rfl 257 _ rfl [S l, .bool false] (by kernel_rfl) ?_
  go_wp2_with fail
  go_ret
  exact ⟨rfl, Row.alloc _ _ _, by simp, (Keeps.refl _ _).alloc _⟩

set_option maxRecDepth 100000 in
set_option maxHeartbeats 1000000 in
theorem eye_fail (y : Nat) (l : List UInt8) (bad : Bool) (w : World) (h : Ey y l bad w) :
    Calls Try.prog 185 #[.pointer (some ⟨y, 0, none⟩)] w fun e w' => e = .returned (.tuple #[]) ∧ Ey y [] true w' ∧ w'.heap.size = w.heap.size ∧ Keeps (· = y) w w' := by
  have c0 : w.cell? ⟨y, 0, none⟩ = some (S l) := h.cell 0
  have c1 : w.cell? ⟨y, 1, none⟩ = some (.bool bad) := h.cell 1
  have f0 := h.frozen 0
  have f1 := h.frozen 1
  go_enter Try.func185, Try.ntmps185
  go_wp2
  go_end0
  exact ⟨rfl, (h.set 0 _ rfl).set 1 _ rfl, by simp [World.setCell], ((Keeps.refl (· = y) w).setCell (fun _ => rfl) _).setCell (fun _ => rfl) _⟩

set_option maxRecDepth 100000 in
set_option maxHeartbeats 1000000 in
theorem eye_take (y : Nat) (l : List UInt8) (n : Nat) (w : World) (h : Ey y l false w) (hn : n ≤ l.length) :
    Calls Try.prog 184 #[.pointer (some ⟨y, 0, none⟩), .int .i64 n] w fun e w' => e = .returned (.tuple #[S (l.take n), .bool true]) ∧ Ey y (l.drop n) false w' ∧ w'.heap.size = w.heap.size ∧ Keeps (· = y) w w' := by
  have c0 : w.cell? ⟨y, 0, none⟩ = some (S l) := h.cell 0
  have c1 : w.cell? ⟨y, 1, none⟩ = some (.bool false) := h.cell 1
  have f0 := h.frozen 0
  have d0 : decide (l.length < n) = false := by simpa using hn
  have d1 : (n : Int) ≤ (l.length : Int) := by omega
  go_enter Try.func184, Try.ntmps184
  go_wp2
  go_ret2
  exact ⟨rfl, h.set 0 _ rfl, by simp [World.setCell], (Keeps.refl (· = y) w).setCell (fun _ => rfl) _⟩
set_option maxRecDepth 100000 in
set_option maxHeartbeats 1000000 in
theorem eye_take_not (y : Nat) (l : List UInt8) (bad : Bool) (n : Nat) (w : World) (h : Ey y l bad w) (hn : bad = true ∨ l.length < n) :
    Calls Try.prog 184 #[.pointer (some ⟨y, 0, none⟩), .int .i64 n] w fun e w' => e = .returned (.tuple #[S [], .bool false]) ∧ Ey y [] true w' ∧ w'.heap.size = w.heap.size ∧ Keeps (· = y) w w' := by
  have c0 : w.cell? ⟨y, 0, none⟩ = some (S l) := h.cell 0
  have c1 : w.cell? ⟨y, 1, none⟩ = some (.bool bad) := h.cell 1
  cases bad with
  | true =>
    go_enter Try.func184, Try.ntmps184
    go_wp2_with fail
    refine (eye_fail y l true _ h).mono ?_
    rintro e w1 ⟨rfl, h1, s1, k1⟩
    go_wp2_with fail
    go_ret2
    exact ⟨rfl, h1, s1, k1⟩
  | false =>
    have hn2 : l.length < n := by simpa using hn
    have d0 : decide (l.length < n) = true := by simpa using hn2
    go_enter Try.func184, Try.ntmps184
    go_wp2_with fail
    refine (eye_fail y l false _ h).mono ?_
    rintro e w1 ⟨rfl, h1, s1, k1⟩
    go_wp2_with fail
    go_ret2
    exact ⟨rfl, h1, s1, k1⟩

set_option maxRecDepth 100000 in
set_option maxHeartbeats 2000000 in
/-- the loop over the four bytes, and what follows -/
theorem eye_Num (y : Nat) (l : List UInt8) (most : Int) (w : World) (h : Ey y l false w) (hn : 4 ≤ l.length) :
    Calls Try.prog 126 #[.pointer (some ⟨y, 0, none⟩), .int .i64 most] w fun e w' =>
      e = .returned (.int .i64 (eyeN l most)) ∧ Ey y (eyeL l most) (eyeB l most) w' ∧ Keeps (· = y) w w' := by
  go_enter Try.func126, Try.ntmps126
  go_wp2_with fail
  refine (eye_take y l 4 w h hn).mono ?_
  rintro e w1 ⟨rfl, h1, s1, k1⟩
  have hly := h1.lt
  clear s1
  go_wp2_with (refine wpList_bytes_of rfl 9 125 5 (.tmp 17) rfl (l.take 4) rfl Try.underlying9 Try.underlying125 Try.underlying5 ?_)
  intro c w2 hc hrow hs2 hb2
  have hcell : ∀ j, j < 4 → w2.cell? ⟨w1.heap.size, j, none⟩ = some (U8 (l.getD j 0)) := fun j hj => by
    rw [Lib.cell_of_heap hrow, byteRow_at _ _ _ (by simp; omega)]
    simp [List.getD, hj]
  have h2 : Ey y (l.drop 4) false w2 := h1.mono hb2 hly
  have k2 : Keeps (· = y) w w2 := k1.then (Keeps.of_new hb2)
  have Hc := Lib.hid hcell
  clear hcell hrow hs2 hb2 h1 k1 h
  generalize w1.heap.size = g at *
  go_wp2_with fail
  go_loopg [7, 20] 4 (fun gk v7 v20 wr => ∃ j : Nat, j ≤ 4 ∧ gk = 4 - j ∧ v20 = .int .i64 j ∧ v7 = .int .i64 (leSum l j) ∧ wr = w2)
  case atStart => exact ⟨0, by omega, rfl, rfl, rfl, rfl⟩
  case round =>
    obtain ⟨j, hj, hg, rfl, rfl, rfl⟩ := hrel
    have Hg := Lib.hid hg
    clear hg
    obtain ⟨b0, b1⟩ := leSum_bd l j
    by_cases hlt : j < 4
    · have hcl := Hc.out j hlt
      have hor := or_step (leSum l j) (l.getD j 0) j hlt b0 b1
      have hp : (2 : Int) ^ (8 * j) ≤ 16777216 := by
        obtain rfl | rfl | rfl | rfl : j = 0 ∨ j = 1 ∨ j = 2 ∨ j = 3 := by omega
        all_goals decide
      have hp0 : (0 : Int) < 2 ^ (8 * j) := Int.pow_pos (by decide)
      have hsh : ∀ T (x : Int), 0 ≤ x → x < 256 → binOp .shl T (.int .i64 x) (.int .i64 (8 * (j : Int))) = pure (.int .i64 (x * 2 ^ (8 * j))) := fun T x hx0 hx1 => by
        have h1 : x * 2 ^ (8 * j) ≤ 255 * 2 ^ (8 * j) := Int.mul_le_mul_of_nonneg_right (by omega) (by omega)
        have h2 : 0 ≤ x * 2 ^ (8 * j) := Int.mul_nonneg hx0 (by omega)
        rw [show (8 * (j : Int)) = ((8 * j : Nat) : Int) by omega, binOp_shl, shift_shl_i64 _ _ _ (by omega) (by omega), Int.toNat_natCast, IntWalk.i64_in _ (by omega)]
      clear hp hp0
      have hsum : leSum l (j + 1) = leSum l j + ((l.getD j 0).toNat : Int) * 2 ^ (8 * j) := rfl
      have Hsum := Lib.hid hsum
      have hbt : ((l.getD j 0).toNat : Int) < 256 := by have := (l.getD j 0).toNat_lt; omega
      have hbt0 : (0 : Int) ≤ ((l.getD j 0).toNat : Int) := by omega
      clear hsum
      generalize leSum l j = acc at *
      generalize l.getD j 0 = by8 at *
      have hsb := hsh 3 _ hbt0 hbt
      clear hsh
      go_wp2_with fail
      go_roundg (4 - (j + 1))
      case measure => have := Hg.out; omega
      case rel => exact ⟨j + 1, by omega, rfl, by go_num, by rw [Hsum.out], rfl⟩
    · have hj4 : j = 4 := by omega
      have h32 : leSum l j = le32 l := by rw [hj4]; rfl
      rw [h32] at b0 b1 ⊢
      clear h32
      by_cases hm : le32 l ≤ most
      · have d0 : decide (most < le32 l) = false := by simpa using hm
        have Hy := Lib.hid (eye_yes hm)
        clear hm
        go_wp2_with fail
        go_ret
        obtain ⟨y1, y2, y3⟩ := Hy.out
        exact ⟨by rw [y1]; rfl, by rw [y2, y3]; exact h2, k2⟩
      · have d0 : decide (most < le32 l) = true := by simpa using hm
        have Hy := Lib.hid (eye_no hm)
        clear hm
        go_wp2_with fail
        refine (eye_fail y (l.drop 4) false _ h2).mono ?_
        rintro e w3 ⟨rfl, h3, s3, k3⟩
        clear s3
        go_wp2_with fail
        go_ret
        obtain ⟨y1, y2, y3⟩ := Hy.out
        exact ⟨by rw [y1]; rfl, by rw [y2, y3]; exact h3, k2.then k3⟩
theorem eye_Num_not (y : Nat) (l : List UInt8) (bad : Bool) (most : Int) (w : World) (h : Ey y l bad w) (hn : bad = true ∨ l.length < 4) :
    Calls Try.prog 126 #[.pointer (some ⟨y, 0, none⟩), .int .i64 most] w fun e w' =>
      e = .returned (.int .i64 0) ∧ Ey y [] true w' ∧ Keeps (· = y) w w' := by
  go_enter Try.func126, Try.ntmps126
  go_wp2_with fail
  refine (eye_take_not y l bad 4 w h hn).mono ?_
  rintro e w1 ⟨rfl, h1, s1, k1⟩
  go_wp2_with fail
  go_ret
  exact ⟨rfl, h1, k1⟩
theorem eye_Err (y : Nat) (l : List UInt8) (bad : Bool) (w : World) (h : Ey y l bad w) :
    Calls Try.prog 127 #[.pointer (some ⟨y, 0, none⟩)] w fun e w' => e = .returned (.int .i64 (if bad then 5 else 0)) ∧ w = w' := by
  have c1 : w.cell? ⟨y, 1, none⟩ = some (.bool bad) := h.cell 1
  cases bad
  all_goals
    go_enter Try.func127, Try.ntmps127
    go_wp2
    go_ret
    exact ⟨rfl, rfl⟩
end Go.Proofs.Ythppdlemchmipaa
