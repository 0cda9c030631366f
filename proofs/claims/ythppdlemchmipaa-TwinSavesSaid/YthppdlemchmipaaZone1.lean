/- package zone: isPart, New, Len, isIn, Read, Write, Part. -/
import Derived.Test.YthppdlemchmipaaDisk8
import Derived.Test.YthppdlemchmipaaModel2
namespace Go.Proofs.Ythppdlemchmipaa
open Go.RowKit Go.Wd

/-- what a row needs to lie on while a disk's methods run -/
theorem dk_ne {B D n : Nat} {vs : Value} {st : Dsk} {w : World} {T : TypeId} {cs : List Value} (h : Dk B D vs st w) (hr : Row w n T cs) (h1 : T ≠ 196) (h2 : T ≠ 9) : n ≠ D ∧ vs.ownBlock ≠ some n := by
  obtain ⟨kv, vl, hP⟩ := h
  constructor
  · rintro rfl
    have := hP.2.1
    unfold Row at this hr
    rw [hr] at this
    injection this with this
    injection this with _ this _
    exact h1 this
  · intro hv
    obtain ⟨cur, hcur⟩ := own_typed hP.2.2.2.1 hv
    unfold Row at hr
    rw [hr] at hcur
    injection hcur with hcur
    injection hcur with _ hcur _
    exact h2 hcur
theorem dk_row {B D n : Nat} {vs : Value} {st : Dsk} {w w1 : World} {T : TypeId} {cs : List Value} (h : Dk B D vs st w) (hk : DKe B D vs w w1) (hr : Row w n T cs) (h1 : T ≠ 196) (h2 : T ≠ 9) (h3 : T ≠ 198) : Row w1 n T cs :=
  hk.row hr (dk_ne h hr h1 h2).1 (dk_ne h hr h1 h2).2 h3
theorem dk_new {B D : Nat} {vs : Value} {st : Dsk} {w w1 : World} (h : Dk B D vs st w) (hb : Below w.heap.size w w1) : Dk B D vs st w1 := by
  obtain ⟨kv, vl, hP⟩ := h; exact ⟨kv, vl, hP.new hb⟩
theorem dk_lt {B D : Nat} {vs : Value} {st : Dsk} {w : World} (h : Dk B D vs st w) : B ≤ D ∧ D < w.heap.size := by
  obtain ⟨kv, vl, hP⟩ := h; exact ⟨hP.1, hP.2.1.lt⟩
theorem dk_size {B D : Nat} {vs : Value} {st : Dsk} {w : World} (h : Dk B D vs st w) : B ≤ w.heap.size := by have := dk_lt h; omega
theorem dk_big {B D : Nat} {vs : Value} {st : Dsk} {w : World} (h : Dk B D vs st w) : st.safe.length ≤ 4096 := by
  obtain ⟨kv, vl, hP⟩ := h; exact hP.2.2.2.2.2.2.2.1
theorem dk_len {B D : Nat} {vs : Value} {st : Dsk} {w : World} (h : Dk B D vs st w) : ∀ s ∈ st.safe, s.length = 32 := by
  obtain ⟨kv, vl, hP⟩ := h; exact hP.2.2.2.2.2.2.1
theorem dk_loose {B D : Nat} {vs : Value} {st : Dsk} {w : World} (h : Dk B D vs st w) : ∀ p ∈ st.loose, p.1 < st.safe.length ∧ p.2.length = 32 := by
  obtain ⟨kv, vl, hP⟩ := h; exact hP.2.2.2.2.2.1
theorem dke_new {B D : Nat} {vs : Value} {w w1 : World} (hB : B ≤ w.heap.size) (hb : Below w.heap.size w w1) : DKe B D vs w w1 := (DK.refl _ B D vs w).new hB hb

theorem DRead_any (B D : Nat) (vs : Value) (st : Dsk) (at' : Int) (w : World) (h : Dk B D vs st w) (hn : st.loose.length ≤ 1000000) :
    Calls Try.prog 183 #[.pointer (some ⟨D, 0, none⟩), .int .i64 at'] w fun e w' => e = .returned (.tuple #[S (st.readV at'), .int .i64 (st.chk at')]) ∧ Below w.heap.size w w' := by
  by_cases hc : st.chk at' = 0
  · have h0 : 0 ≤ at' ∧ at' < st.safe.length ∧ st.away = false := by
      unfold Dsk.chk at hc
      split at hc
      · cases hc
      · split at hc
        · cases hc
        · rename_i h1 h2; exact ⟨by omega, by omega, by simpa using h2⟩
    obtain ⟨n, rfl⟩ := Int.eq_ofNat_of_zero_le h0.1
    have hv : st.readV (n : Int) = st.now.getD n [] := by unfold Dsk.readV; rw [if_pos hc]; rfl
    rw [hv, hc]
    exact Read_ok B D vs st n w h (by omega) h0.2.2 hn
  · have hv : st.readV at' = [] := by unfold Dsk.readV; rw [if_neg hc]
    rw [hv]
    exact Read_not B D vs st at' w h hc

/-- a zone at block Z -/
abbrev Zn (Z D from' size : Nat) (w : World) : Prop := Row w Z 98 [.pointer (some ⟨D, 0, none⟩), .int .i64 (from' : Int), .int .i64 (size : Int)]
structure Zk (B D Z : Nat) (vs : Value) (from' size : Nat) (st : Dsk) (w : World) : Prop where
  disk : Dk B D vs st w
  row : Zn Z D from' size w
  fit : from' + size ≤ st.safe.length
  loose : st.loose.length ≤ 1000000
theorem Zk.step {B D Z : Nat} {vs : Value} {from' size : Nat} {st st' : Dsk} {w w1 : World} (h : Zk B D Z vs from' size st w) (hd : Dk B D vs st' w1) (hk : DKe B D vs w w1) (hs : st'.safe.length = st.safe.length) (hl : st'.loose.length ≤ 1000000) : Zk B D Z vs from' size st' w1 :=
  ⟨hd, dk_row h.disk hk h.row (by decide) (by decide) (by decide), by rw [hs]; exact h.fit, hl⟩
theorem Zk.new {B D Z : Nat} {vs : Value} {from' size : Nat} {st : Dsk} {w w1 : World} (h : Zk B D Z vs from' size st w) (hb : Below w.heap.size w w1) : Zk B D Z vs from' size st w1 :=
  ⟨dk_new h.disk hb, h.row.mono hb h.row.lt, h.fit, h.loose⟩
theorem Zk.small {B D Z : Nat} {vs : Value} {from' size : Nat} {st : Dsk} {w : World} (h : Zk B D Z vs from' size st w) : from' + size ≤ 4096 := by
  have := dk_big h.disk; have := h.fit; omega

set_option maxHeartbeats 400000 in
theorem ZLen_any (Z D from' size : Nat) (w : World) (h : Zn Z D from' size w) :
    Calls Try.prog 120 #[.pointer (some ⟨Z, 0, none⟩)] w fun e w' => e = .returned (.int .i64 (size : Int)) ∧ w = w' := by
  have c2 : w.cell? ⟨Z, 2, none⟩ = some (.int .i64 (size : Int)) := h.cell 2
  go_enter Try.func120, Try.ntmps120
  go_wp2
  go_ret
  exact ⟨rfl, rfl⟩
def inB (size : Nat) (at' : Int) : Bool := decide (0 ≤ at' ∧ at' < size)
set_option maxHeartbeats 400000 in
theorem isIn_any (Z D from' size : Nat) (at' : Int) (w : World) (h : Zn Z D from' size w) :
    Calls Try.prog 146 #[.pointer (some ⟨Z, 0, none⟩), .int .i64 at'] w fun e w' => e = .returned (.bool (inB size at')) ∧ w = w' := by
  have c2 : w.cell? ⟨Z, 2, none⟩ = some (.int .i64 (size : Int)) := h.cell 2
  by_cases h1 : 0 ≤ at'
  · have d1 : decide (0 ≤ at') = true := by simpa using h1
    by_cases h2 : at' < size
    · have d2 : decide (at' < size) = true := by simpa using h2
      have hn : inB size at' = true := by simp [inB, h1, h2]
      rw [hn]
      go_enter Try.func146, Try.ntmps146
      go_wp2
      go_ret
      exact ⟨rfl, rfl⟩
    · have d2 : decide (at' < size) = false := by simpa using h2
      have hn : inB size at' = false := by simp [inB, h2]
      rw [hn]
      go_enter Try.func146, Try.ntmps146
      go_wp2
      go_ret
      exact ⟨rfl, rfl⟩
  · have d1 : decide (0 ≤ at') = false := by simpa using h1
    have hn : inB size at' = false := by simp [inB, h1]
    rw [hn]
    go_enter Try.func146, Try.ntmps146
    go_wp2
    go_ret
    exact ⟨rfl, rfl⟩
set_option maxHeartbeats 400000 in
theorem isPart_yes (a n all : Nat) (w : World) (h1 : 1 ≤ n) (h2 : a + n ≤ all) (h3 : all ≤ 4096) :
    Calls Try.prog 119 #[.int .i64 (a : Int), .int .i64 (n : Int), .int .i64 (all : Int)] w fun e w' => e = .returned (.bool true) ∧ w = w' := by
  have d1 : decide (1 ≤ n) = true := by simpa using h1
  have d3 : decide (a < all) = true := by simp; omega
  have d4 : decide ((n : Int) ≤ (all : Int) - (a : Int)) = true := by simp; omega
  go_enter Try.func119, Try.ntmps119
  go_wp2
  go_ret
  exact ⟨rfl, rfl⟩
theorem isPart_none (a all : Nat) (w : World) :
    Calls Try.prog 119 #[.int .i64 (a : Int), .int .i64 0, .int .i64 (all : Int)] w fun e w' => e = .returned (.bool false) ∧ w = w' := by
  go_enter Try.func119, Try.ntmps119
  go_wp2
  go_ret
  exact ⟨rfl, rfl⟩
set_option maxRecDepth 100000 in
set_option maxHeartbeats 1000000 in
theorem ZNew_any (B D : Nat) (vs : Value) (st : Dsk) (a n : Nat) (w : World) (h : Dk B D vs st w) (h1 : 1 ≤ n) (h2 : a + n ≤ st.safe.length) :
    Calls Try.prog 51 #[.pointer (some ⟨D, 0, none⟩), .int .i64 (a : Int), .int .i64 (n : Int)] w fun e w' => e = .returned (.tuple #[.pointer (some ⟨w.heap.size, 0, none⟩), .int .i64 0]) ∧ Zn w.heap.size D a n w' ∧ w'.heap.size = w.heap.size + 1 ∧ Below w.heap.size w w' := by
  have hbig := dk_big h
  go_enter Try.func51, Try.ntmps51
  go_wp2_with fail
  refine (Len_disk B D vs st w h).mono ?_
  rintro e w' ⟨rfl, rfl⟩
  go_wp2_with fail
  refine (isPart_yes a n st.safe.length w h1 h2 hbig).mono ?_
  rintro e w' ⟨rfl, rfl⟩
  go_wp2_with (refine wpl_build rfl 98 _ rfl [.pointer (some ⟨D, 0, none⟩), .int .i64 (a : Int), .int .i64 (n : Int)] (by kernel_rfl) ?_)
  go_wp2_with fail
  go_ret2
  exact ⟨rfl, Row.alloc _ _ _, by simp, (Below.refl _ _).alloc (Nat.le_refl _) _⟩
set_option maxRecDepth 100000 in
set_option maxHeartbeats 1000000 in
theorem ZNew_none (B D : Nat) (vs : Value) (st : Dsk) (a : Nat) (w : World) (h : Dk B D vs st w) :
    Calls Try.prog 51 #[.pointer (some ⟨D, 0, none⟩), .int .i64 (a : Int), .int .i64 0] w fun e w' => e = .returned (.tuple #[.pointer none, .int .i64 1]) ∧ w = w' := by
  go_enter Try.func51, Try.ntmps51
  go_wp2_with fail
  refine (Len_disk B D vs st w h).mono ?_
  rintro e w' ⟨rfl, rfl⟩
  go_wp2_with fail
  refine (isPart_none a st.safe.length w).mono ?_
  rintro e w' ⟨rfl, rfl⟩
  go_wp2_with fail
  go_ret2
  exact ⟨rfl, rfl⟩
end Go.Proofs.Ythppdlemchmipaa
