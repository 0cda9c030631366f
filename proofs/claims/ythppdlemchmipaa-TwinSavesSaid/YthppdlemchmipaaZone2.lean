/- package zone: Read, Write, Part. -/
import Derived.Test.YthppdlemchmipaaZone1
import Derived.Deep.RegionWith
namespace Go.Proofs.Ythppdlemchmipaa
open Go.RowKit Go.Wd
theorem dk_drew {B D : Nat} {vs : Value} {st : Dsk} {w : World} (h : Dk B D vs st w) : Dk B D vs st w.drew := h
theorem inB_false {size : Nat} {at' : Int} (h : inB size at' = false) : at' < 0 ∨ (size : Int) ≤ at' := by
  simp [inB] at h; omega
theorem inB_true {size : Nat} {at' : Int} (h : inB size at' = true) : 0 ≤ at' ∧ at' < size := by simpa [inB] using h
theorem chk_in {st : Dsk} {from' size : Nat} {at' : Int} (h0 : 0 ≤ at') (h1 : at' < size) (hf : from' + size ≤ st.safe.length) : st.chk ((from' : Int) + at') = st.zreadE size at' := by
  have e1 : st.chk ((from' : Int) + at') = if st.away then 4 else 0 := by unfold Dsk.chk; rw [if_neg (by omega)]
  have e2 : st.zreadE size at' = if st.away then 4 else 0 := by unfold Dsk.zreadE; rw [if_neg (by omega)]
  rw [e1, e2]
set_option maxRecDepth 100000 in
set_option maxHeartbeats 1000000 in
theorem ZRead_any (B D Z : Nat) (vs : Value) (from' size : Nat) (st : Dsk) (at' : Int) (w : World) (h : Zk B D Z vs from' size st w) :
    Calls Try.prog 123 #[.pointer (some ⟨Z, 0, none⟩), .int .i64 at'] w fun e w' => e = .returned (.tuple #[S (st.zreadV from' size at'), .int .i64 (st.zreadE size at')]) ∧ Below w.heap.size w w' := by
  have hrow := h.row
  have c0 : w.drew.cell? ⟨Z, 0, none⟩ = some (.pointer (some ⟨D, 0, none⟩)) := hrow.cell 0
  have c1 : w.drew.cell? ⟨Z, 1, none⟩ = some (.int .i64 (from' : Int)) := hrow.cell 1
  cases hb : inB size at' with
  | false =>
    have hE : st.zreadE size at' = 3 := by unfold Dsk.zreadE; rw [if_pos (inB_false hb)]
    have hV : st.zreadV from' size at' = [] := by unfold Dsk.zreadV; rw [if_neg (by rw [hE]; decide)]
    rw [hE, hV]
    clear hE hV
    go_enter Try.func123, Try.ntmps123
    go_wp2_with fail
    refine (isIn_any Z D from' size at' w hrow).mono ?_
    rintro e w' ⟨rfl, rfl⟩
    rw [hb]
    go_wp2_with fail
    go_ret2
    exact ⟨rfl, Below.refl _ _⟩
  | true =>
    obtain ⟨h0, h1⟩ := inB_true hb
    have hsm := h.small
    have hfit := h.fit
    have hch : st.chk ((from' : Int) + at') = st.zreadE size at' := chk_in h0 h1 hfit
    have hV : st.readV ((from' : Int) + at') = st.zreadV from' size at' := by
      unfold Dsk.zreadV Dsk.readV; rw [hch, show ((from' : Int) + at').toNat = from' + at'.toNat by omega]
    have hR := DRead_any B D vs st ((from' : Int) + at') w.drew h.disk h.loose
    rw [hch, hV] at hR
    have HR := Lib.hid hR
    have hsum : IntKind.i64.wrap ((from' : Int) + at') = (from' : Int) + at' := IntWalk.i64_in _ (by omega)
    clear hR hch hV
    go_enter Try.func123, Try.ntmps123
    go_wp2_with fail
    refine (isIn_any Z D from' size at' w hrow).mono ?_
    rintro e w' ⟨rfl, rfl⟩
    rw [hb]
    go_wp2_with fail
    go_region_with (go_at_call 183; ((with_reducible refine HR.out.mono ?_); rintro e w5 ⟨rfl, h5⟩))
    all_goals
      go_wp2_with fail
      go_ret2
      exact ⟨rfl, ((Below.refl _ _).drew).trans h5⟩
set_option maxRecDepth 100000 in
set_option maxHeartbeats 1000000 in
theorem ZWrite_any (B D Z : Nat) (vs : Value) (from' size : Nat) (st : Dsk) (at' : Int) (x : List UInt8) (w : World) (h : Zk B D Z vs from' size st w) :
    Calls Try.prog 80 #[.pointer (some ⟨Z, 0, none⟩), .int .i64 at', S x] w fun e w' => e = .returned (.int .i64 (st.zwriteE from' size at' x)) ∧ Dk B D vs (st.zwrote from' size at' x) w' ∧ DKe B D vs w w' := by
  have hrow := h.row
  have hBw := dk_size h.disk
  have c0 : w.drew.cell? ⟨Z, 0, none⟩ = some (.pointer (some ⟨D, 0, none⟩)) := hrow.cell 0
  have c1 : w.drew.cell? ⟨Z, 1, none⟩ = some (.int .i64 (from' : Int)) := hrow.cell 1
  by_cases hx : x.length = 32
  · have hxb : ((x.length : Int) != 32) = false := by simp [hx]
    cases hb : inB size at' with
    | false =>
      have hE : st.zwriteE from' size at' x = 3 := by unfold Dsk.zwriteE; rw [if_neg (by omega), if_pos (inB_false hb)]
      have hV : st.zwrote from' size at' x = st := by unfold Dsk.zwrote; rw [if_pos (.inr (inB_false hb))]
      rw [hE, hV]
      clear hE hV hx
      go_enter Try.func80, Try.ntmps80
      go_wp2_with fail
      refine (isIn_any Z D from' size at' w hrow).mono ?_
      rintro e w' ⟨rfl, rfl⟩
      rw [hb]
      go_wp2_with fail
      go_ret
      exact ⟨rfl, h.disk, DK.refl _ _ _ _ _⟩
    | true =>
      obtain ⟨h0, h1⟩ := inB_true hb
      have hsm := h.small
      have hE : st.zwriteE from' size at' x = st.writeE ((from' : Int) + at') x := by unfold Dsk.zwriteE; rw [if_neg (by omega), if_neg (by omega)]
      have hV : st.zwrote from' size at' x = st.wrote ((from' : Int) + at') x := by unfold Dsk.zwrote; rw [if_neg (by omega)]
      have hR := DWrite_any B D vs st ((from' : Int) + at') x w.drew h.disk hBw h.loose
      rw [← hE, ← hV] at hR
      have HR := Lib.hid hR
      have hsum : IntKind.i64.wrap ((from' : Int) + at') = (from' : Int) + at' := IntWalk.i64_in _ (by omega)
      clear hR hE hV hx
      go_enter Try.func80, Try.ntmps80
      go_wp2_with fail
      refine (isIn_any Z D from' size at' w hrow).mono ?_
      rintro e w' ⟨rfl, rfl⟩
      rw [hb]
      go_wp2_with fail
      go_region_with (go_at_call 147; ((with_reducible refine HR.out.mono ?_); rintro e w5 ⟨rfl, h5, k5⟩))
      all_goals
        go_wp2_with fail
        go_ret
        exact ⟨rfl, h5, ((DK.refl _ _ _ _ _).drew).trans k5⟩
  · have hxb : ((x.length : Int) != 32) = true := by rw [bne_iff_ne]; omega
    have hE : st.zwriteE from' size at' x = 1 := by unfold Dsk.zwriteE; rw [if_pos hx]
    have hV : st.zwrote from' size at' x = st := by unfold Dsk.zwrote; rw [if_pos (.inl hx)]
    rw [hE, hV]
    clear hE hV hx
    go_enter Try.func80, Try.ntmps80
    go_wp2_with fail
    go_ret
    exact ⟨rfl, h.disk, DK.refl _ _ _ _ _⟩
set_option maxRecDepth 100000 in
set_option maxHeartbeats 1000000 in
theorem ZPart_any (B D Z : Nat) (vs : Value) (from' size : Nat) (st : Dsk) (a n : Nat) (w : World) (h : Zk B D Z vs from' size st w) (h1 : 1 ≤ n) (h2 : a + n ≤ size) :
    Calls Try.prog 200 #[.pointer (some ⟨Z, 0, none⟩), .int .i64 (a : Int), .int .i64 (n : Int)] w fun e w' => ∃ Z', e = .returned (.tuple #[.pointer (some ⟨Z', 0, none⟩), .int .i64 0]) ∧ w.heap.size ≤ Z' ∧ Zn Z' D (from' + a) n w' ∧ Below w.heap.size w w' := by
  have hrow := h.row
  have hsm := h.small
  have hfit := h.fit
  have c0 : w.drew.cell? ⟨Z, 0, none⟩ = some (.pointer (some ⟨D, 0, none⟩)) := hrow.cell 0
  have c1 : w.drew.cell? ⟨Z, 1, none⟩ = some (.int .i64 (from' : Int)) := hrow.cell 1
  have c2 : w.cell? ⟨Z, 2, none⟩ = some (.int .i64 (size : Int)) := hrow.cell 2
  have hR := ZNew_any B D vs st (from' + a) n w.drew h.disk h1 (by omega)
  have hcast : ((from' + a : Nat) : Int) = (from' : Int) + (a : Int) := by omega
  rw [hcast] at hR
  have HR := Lib.hid hR
  have Hc := Lib.hid hcast
  have hsum : IntKind.i64.wrap ((from' : Int) + (a : Int)) = (from' : Int) + (a : Int) := IntWalk.i64_in _ (by omega)
  clear hR hcast
  go_enter Try.func200, Try.ntmps200
  go_wp2_with fail
  refine (isPart_yes a n size w h1 h2 (by omega)).mono ?_
  rintro e w' ⟨rfl, rfl⟩
  go_wp2_with fail
  go_region_with (go_at_call 51; ((with_reducible refine HR.out.mono ?_); rintro e w5 ⟨rfl, h5, s5, k5⟩))
  all_goals
    go_wp2_with fail
    go_ret2
    exact ⟨_, rfl, Nat.le_refl _, h5, ((Below.refl _ _).drew).trans k5⟩
end Go.Proofs.Ythppdlemchmipaa
