/- disk: IsOn, Len, Loose, Done, check, Come. -/
import Derived.Test.YthppdlemchmipaaProg
import Derived.Test.YthppdlemchmipaaDisk0
namespace Go.Proofs.Ythppdlemchmipaa
open Go.RowKit Go.Wd

def dt : DT := ⟨196, 198, 9, 4, by decide, by decide, by decide, by decide, by decide, by decide⟩
abbrev Dk (B D : Nat) (vs : Value) (st : Dsk) (w : World) : Prop := DiskAt dt B D vs st w
abbrev DKe (B D : Nat) (vs : Value) (w w' : World) : Prop := DK 198 B D vs w w'

set_option maxRecDepth 100000 in
set_option maxHeartbeats 1000000 in
theorem powerIsOn_any (B D : Nat) (vs : Value) (st : Dsk) (w : World) (h : Dk B D vs st w) :
    Calls Try.prog 164 #[.pointer (some ⟨D, 0, none⟩)] w fun e w' => e = .returned (.bool (!st.away)) ∧ w = w' := by
  obtain ⟨kv, vl, hB, hr, _⟩ := h
  have c0 : w.cell? ⟨D, 0, none⟩ = some (.bool st.away) := hr.cell 0
  go_enter Try.func164, Try.ntmps164
  go_wp2
  go_ret
  exact ⟨rfl, rfl⟩
set_option maxRecDepth 100000 in
set_option maxHeartbeats 1000000 in
theorem IsOn_any (B D : Nat) (vs : Value) (st : Dsk) (w : World) (h : Dk B D vs st w) :
    Calls Try.prog 95 #[.pointer (some ⟨D, 0, none⟩)] w fun e w' => e = .returned (.bool (!st.away)) ∧ w = w' := by
  go_enter Try.func95, Try.ntmps95
  go_wp2_with (go_at_call 164; ((with_reducible refine (powerIsOn_any B D vs st _ h).mono ?_); rintro e w' ⟨rfl, rfl⟩))
  go_ret
  exact ⟨rfl, rfl⟩
set_option maxRecDepth 100000 in
set_option maxHeartbeats 1000000 in
theorem Len_disk (B D : Nat) (vs : Value) (st : Dsk) (w : World) (h : Dk B D vs st w) :
    Calls Try.prog 63 #[.pointer (some ⟨D, 0, none⟩)] w fun e w' => e = .returned (.int .i64 (st.safe.length : Int)) ∧ w = w' := by
  obtain ⟨kv, vl, hB, hr, _, hs, _⟩ := h
  obtain ⟨p, c, rfl⟩ := own_shape hs
  have c3 : w.cell? ⟨D, 3, none⟩ = some (.slice p st.safe.length c) := hr.cell 3
  go_enter Try.func63, Try.ntmps63
  go_wp2
  go_ret
  exact ⟨rfl, rfl⟩
set_option maxRecDepth 100000 in
set_option maxHeartbeats 1000000 in
theorem Loose_any (B D : Nat) (vs : Value) (st : Dsk) (w : World) (h : Dk B D vs st w) :
    Calls Try.prog 66 #[.pointer (some ⟨D, 0, none⟩)] w fun e w' => e = .returned (.int .i64 (st.loose.length : Int)) ∧ w = w' := by
  obtain ⟨kv, vl, hB, hr, hl, hs, _⟩ := h
  obtain ⟨p, c, rfl⟩ := own_shape hl
  have c3 : w.cell? ⟨D, 4, none⟩ = some (.slice p st.loose.length c) := hr.cell 4
  go_enter Try.func66, Try.ntmps66
  go_wp2
  go_ret
  exact ⟨rfl, rfl⟩
set_option maxRecDepth 100000 in
set_option maxHeartbeats 1000000 in
theorem check_any (B D : Nat) (vs : Value) (st : Dsk) (at' : Int) (w : World) (h : Dk B D vs st w) :
    Calls Try.prog 201 #[.pointer (some ⟨D, 0, none⟩), .int .i64 at'] w fun e w' => e = .returned (.int .i64 (st.chk at')) ∧ w = w' := by
  obtain ⟨kv, vl, hB, hr, _, hs, _⟩ := h
  obtain ⟨p, c, rfl⟩ := own_shape hs
  have c0 : w.cell? ⟨D, 0, none⟩ = some (.bool st.away) := hr.cell 0
  have c3 : w.cell? ⟨D, 3, none⟩ = some (.slice p st.safe.length c) := hr.cell 3
  by_cases h0 : at' < 0
  · have e0 : st.chk at' = 3 := by unfold Dsk.chk; rw [if_pos (.inl h0)]
    rw [e0]
    go_enter Try.func201, Try.ntmps201
    go_wp2
    go_ret
    exact ⟨rfl, rfl⟩
  · by_cases h1 : (st.safe.length : Int) ≤ at'
    · have e0 : st.chk at' = 3 := by unfold Dsk.chk; rw [if_pos (.inr h1)]
      rw [e0]
      go_enter Try.func201, Try.ntmps201
      go_wp2
      go_ret
      exact ⟨rfl, rfl⟩
    · cases ha : st.away with
      | true =>
        have e0 : st.chk at' = 4 := by unfold Dsk.chk; rw [if_neg (by omega), if_pos ha]
        rw [ha] at c0
        clear ha
        rw [e0]
        go_enter Try.func201, Try.ntmps201
        go_wp2
        go_ret
        exact ⟨rfl, rfl⟩
      | false =>
        have e0 : st.chk at' = 0 := by unfold Dsk.chk; rw [if_neg (by omega), if_neg (by simp [ha])]
        rw [ha] at c0
        clear ha
        rw [e0]
        go_enter Try.func201, Try.ntmps201
        go_wp2
        go_ret
        exact ⟨rfl, rfl⟩
set_option maxRecDepth 100000 in
set_option maxHeartbeats 1000000 in
theorem Come_any (B D : Nat) (vs : Value) (st : Dsk) (w : World) (h : Dk B D vs st w) :
    Calls Try.prog 56 #[.pointer (some ⟨D, 0, none⟩)] w fun e w' => e = .returned (.tuple #[]) ∧ Dk B D vs st.come w' ∧ DKe B D vs w w' := by
  obtain ⟨kv, vl, h⟩ := h
  obtain ⟨away, fuse, keep, safe, loose, done⟩ := st
  have hr := h.2.1
  have hB := h.1
  have c0 : w.cell? ⟨D, 0, none⟩ = some (.bool away) := hr.cell 0
  have c1 : w.cell? ⟨D, 1, none⟩ = some (.int .i64 fuse) := hr.cell 1
  have f0 := hr.frozen 0
  have f1 := hr.frozen 1
  cases away with
  | true =>
    have h1 := (DiskP.setD h (st' := ⟨false, fuse, keep, safe, loose, done⟩) 0 (.bool false) rfl rfl rfl rfl h.2.2.2.2.2.2.2.2.1 h.2.2.2.2.2.2.2.2.2)
    have h2 := (DiskP.setD h1 (st' := ⟨false, -1, keep, safe, loose, done⟩) 1 (.int .i64 (-1)) rfl rfl rfl rfl (show (-1 : Int) ≤ -1 by decide) (show (-1 : Int) ≤ 9223372036854775807 by decide))
    have hd := ((DK.refl 198 B D vs w).setD hB 0 (.bool false)).setD hB 1 (.int .i64 (-1))
    go_enter Try.func56, Try.ntmps56
    go_wp2
    go_end0
    exact ⟨rfl, ⟨kv, vl, h2⟩, hd⟩
  | false =>
    go_enter Try.func56, Try.ntmps56
    go_wp2
    go_end0
    exact ⟨rfl, ⟨kv, vl, h⟩, DK.refl _ _ _ _ _⟩
end Go.Proofs.Ythppdlemchmipaa
