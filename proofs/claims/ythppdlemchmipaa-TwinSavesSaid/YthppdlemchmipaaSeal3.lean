/- seal.Put. -/
import Derived.Test.YthppdlemchmipaaZone3
import Derived.Test.YthppdlemchmipaaSeal2
namespace Go.Proofs.Ythppdlemchmipaa
open Go.RowKit Go.Wd
theorem vs_lt {B D : Nat} {vs : Value} {st : Dsk} {w : World} (h : Dk B D vs st w) : ∀ g, vs.ownBlock = some g → g < w.heap.size := by
  obtain ⟨kv, vl, hP⟩ := h
  intro g hg
  obtain ⟨cur, hcur⟩ := own_typed hP.2.2.2.1 hg
  exact (Array.getElem?_eq_some_iff.1 hcur).1
/-- a row of another type, or of strings, that is newer than the disk stays -/
theorem owns_dke {B D n0 n base size : Nat} {vs v : Value} {w w1 : World} {e : TypeId} {xs : List Value} (hk : DKe B D vs w w1) (ho : w.ownsRow base e size v n xs) (hD : D < n0) (hv : ∀ g, vs.ownBlock = some g → g < n0) (hb : n0 ≤ base) (he : e ≠ 198) : w1.ownsRow base e size v n xs := by
  refine ⟨ho.1, ?_⟩
  rcases ho.2 with hn | ⟨g, cap, cur, rfl, hbg, hg, rest⟩
  · exact .inl hn
  · refine .inr ⟨g, cap, cur, rfl, hbg, ?_, rest⟩
    exact hk.others g _ (by omega) (fun e => by have := hv g e; omega) hg (fun c fz hh => by injection hh with _ hh _; exact he hh)
theorem putRows_len : ∀ (ts : List (List UInt8)) (st : Dsk) (a : Nat), (st.putRows a ts).2.safe.length = st.safe.length ∧ (st.putRows a ts).2.loose.length ≤ st.loose.length + ts.length
  | [], st, a => ⟨rfl, Nat.le_refl _⟩
  | t :: ts, st, a => by
    have h := wrote_len st (a : Int) t
    unfold Dsk.putRows
    split
    · have := putRows_len ts (st.wrote (a : Int) t) (a + 1)
      simp only [List.length_cons]
      exact ⟨this.1.trans h.1, by omega⟩
    · simp only [List.length_cons]
      exact ⟨h.1, by omega⟩
theorem putRows_step (st : Dsk) (a k : Nat) (rows : List (List UInt8)) (t : List UInt8) (ht : rows[k]? = some t) :
    st.putRows (a + k) (rows.drop k) = if st.writeE ((a + k : Nat) : Int) t = 0 then (st.wrote ((a + k : Nat) : Int) t).putRows (a + (k + 1)) (rows.drop (k + 1)) else (st.writeE ((a + k : Nat) : Int) t, st.wrote ((a + k : Nat) : Int) t) := by
  have h1 : rows.drop k = t :: rows.drop (k + 1) := by
    obtain ⟨hk, he⟩ := List.getElem?_eq_some_iff.1 ht
    rw [← he]; exact List.drop_eq_getElem_cons hk
  rw [h1]; rfl
set_option maxRecDepth 100000 in
set_option maxHeartbeats 2000000 in
theorem Put_not (B D Z : Nat) (vs : Value) (from' size : Nat) (st : Dsk) (at' n : Int) (s : List UInt8) (w : World) (_ : Zk B D Z vs from' size st w) (hs : s.length ≤ 9223372036854775807) (hno : isNum n = false ∨ 1024 < s.length) :
    Calls Try.prog 52 #[.pointer (some ⟨Z, 0, none⟩), .int .i64 at', .int .i64 n, S s] w fun e w' => e = .returned (.int .i64 1) ∧ w = w' := by
  go_enter Try.func52, Try.ntmps52
  go_wp2_with fail
  refine (Lay_not n s w hno hs).mono ?_
  rintro e w' ⟨rfl, rfl⟩
  go_wp2_with fail
  go_ret
  exact ⟨rfl, rfl⟩
set_option maxRecDepth 100000 in
set_option maxHeartbeats 2000000 in
theorem Put_range (B D Z : Nat) (vs : Value) (from' size : Nat) (st : Dsk) (at' n : Int) (s : List UInt8) (w : World) (h : Zk B D Z vs from' size st w) (hs : s.length ≤ 1024) (hno : isNum n = true) (hr : at' < 0 ∨ (size : Int) ≤ at' ∨ (size : Int) - at' < secs s.length) :
    Calls Try.prog 52 #[.pointer (some ⟨Z, 0, none⟩), .int .i64 at', .int .i64 n, S s] w fun e w' => e = .returned (.int .i64 3) ∧ Below w.heap.size w w' := by
  have hsm := h.small
  have hll := layOf_length n s
  go_enter Try.func52, Try.ntmps52
  go_wp2_with fail
  refine (Lay_any n s w hno hs).mono ?_
  rintro e w1 ⟨v, rfl, hown, hb⟩
  have hrow := (h.new hb).row
  have hsec := secs_le s.length
  obtain ⟨q, c, rfl⟩ := own_shape hown
  rw [hll]
  generalize secs s.length = N at *
  clear hll hown
  by_cases h0 : at' < 0
  · have d0 : decide (at' < 0) = true := by simpa using h0
    go_wp2_with fail
    go_ret
    exact ⟨rfl, hb⟩
  · have d0 : decide (at' < 0) = false := by simpa using h0
    by_cases h1 : (size : Int) ≤ at'
    · have d1 : decide ((size : Int) ≤ at') = true := by simpa using h1
      go_wp2_with fail
      refine (ZLen_any Z D from' size w1 hrow).mono ?_
      rintro e w' ⟨rfl, rfl⟩
      go_wp2_with fail
      go_ret
      exact ⟨rfl, hb⟩
    · have d1 : decide ((size : Int) ≤ at') = false := by simpa using h1
      have d2 : decide ((size : Int) - at' < (N : Int)) = true := by simp; omega
      go_wp2_with fail
      refine (ZLen_any Z D from' size w1 hrow).mono ?_
      rintro e w' ⟨rfl, rfl⟩
      go_wp2_with fail
      refine (ZLen_any Z D from' size w1 hrow).mono ?_
      rintro e w' ⟨rfl, rfl⟩
      go_wp2_with fail
      go_ret
      exact ⟨rfl, hb⟩
set_option maxRecDepth 100000 in
set_option maxHeartbeats 4000000 in
theorem Put_in (B D Z : Nat) (vs : Value) (from' size : Nat) (st : Dsk) (a : Nat) (n : Int) (s : List UInt8) (w : World) (h : Zk B D Z vs from' size st w) (hs : s.length ≤ 1024) (hno : isNum n = true) (hr : a + secs s.length ≤ size) (hn : st.loose.length ≤ 999000) :
    Calls Try.prog 52 #[.pointer (some ⟨Z, 0, none⟩), .int .i64 (a : Int), .int .i64 n, S s] w fun e w' => e = .returned (.int .i64 (st.putRows (from' + a) (layOf n s)).1) ∧ Zk B D Z vs from' size (st.putRows (from' + a) (layOf n s)).2 w' ∧ DKe B D vs w w' := by
  have hsm := h.small
  have hll := layOf_length n s
  have hl32 := layOf_len n s
  have hBw := dk_size h.disk
  have hDlt := (dk_lt h.disk).2
  have hvl := vs_lt h.disk
  have hsec := secs_le s.length
  have hs2 := secs_two s.length
  go_enter Try.func52, Try.ntmps52
  go_wp2_with fail
  refine (Lay_any n s w hno hs).mono ?_
  rintro e w1 ⟨v, rfl, hown, hb⟩
  have h1 := h.new hb
  have k1 : DKe B D vs w w1 := dke_new hBw hb
  have hrow := h1.row
  rw [hll] at hown
  obtain ⟨g, c, rfl, hgb, hgl, hgo⟩ := own_pos hown (by omega)
  have d0 : decide ((a : Int) < 0) = false := by simp
  have d1 : decide (size ≤ a) = false := by simp; omega
  have d2 : decide ((size : Int) - (a : Int) < (secs s.length : Int)) = false := by simp; omega
  generalize hrows : layOf n s = rows at *
  generalize secs s.length = N at *
  have Hrows := Lib.hid hrows
  have Hll := Lib.hid hll
  have Hl32 := Lib.hid hl32
  have Hvl := Lib.hid hvl
  have Hgo := Lib.hid hgo
  clear hrows hll hl32 hvl hgo hb
  go_wp2_with fail
  refine (ZLen_any Z D from' size w1 hrow).mono ?_
  rintro e w' ⟨rfl, rfl⟩
  go_wp2_with fail
  refine (ZLen_any Z D from' size w1 hrow).mono ?_
  rintro e w' ⟨rfl, rfl⟩
  go_wp2_with fail
  go_loopg [44] N (fun gk s wr => ∃ (k : Nat) (st' : Dsk), k ≤ N ∧ gk = N - k ∧ s = .int .i64 k ∧ st.putRows (from' + a) rows = st'.putRows (from' + a + k) (rows.drop k) ∧ Zk B D Z vs from' size st' wr ∧ DKe B D vs w wr ∧ st'.loose.length ≤ st.loose.length + k ∧ wr.ownsRow w.heap.size 9 1 (.slice (some ⟨g, 0, none⟩) N c) N (rows.map S))
  case atStart => exact ⟨0, st, by omega, by omega, rfl, rfl, h1, k1, by omega, hown⟩
  case round =>
    clear h1 k1 hrow hown
    obtain ⟨k, st', hk, hg, rfl, hf, hZ, hK, hl, hown⟩ := hrel
    have Hg := Lib.hid hg
    have Hf := Lib.hid hf
    clear hg hf
    by_cases hlt : k < N
    · have hkr : k < rows.length := by rw [Hll.out]; exact hlt
      obtain ⟨t, ht⟩ : ∃ t, rows[k]? = some t := ⟨_, List.getElem?_eq_getElem hkr⟩
      have ht32 : t.length = 32 := Hl32.out t (List.mem_of_getElem? ht)
      have hcell : wr.cell? ⟨g, k, none⟩ = some (S t) := by
        have := hown.cells Hgo.out k (S t) (by simp [ht])
        simpa [Addr.add_mid] using this
      have hfin := Hf.out
      rw [putRows_step st' (from' + a) k rows t ht] at hfin
      have hW := ZWrite_any B D Z vs from' size st' ((a : Int) + (k : Int)) t wr hZ
      have hcast : ((from' + a + k : Nat) : Int) = (from' : Int) + ((a : Int) + (k : Int)) := by omega
      have e1 : st'.zwriteE from' size ((a : Int) + (k : Int)) t = st'.writeE ((from' + a + k : Nat) : Int) t := by unfold Dsk.zwriteE; rw [if_neg (by omega), if_neg (by omega), hcast]
      have e2 : st'.zwrote from' size ((a : Int) + (k : Int)) t = st'.wrote ((from' + a + k : Nat) : Int) t := by unfold Dsk.zwrote; rw [if_neg (by omega), hcast]
      rw [e1, e2] at hW
      have hlen := wrote_len st' ((from' + a + k : Nat) : Int) t
      obtain ⟨we, hwe⟩ : ∃ we, we = st'.writeE ((from' + a + k : Nat) : Int) t := ⟨_, rfl⟩
      obtain ⟨st2, hst2⟩ : ∃ s, s = st'.wrote ((from' + a + k : Nat) : Int) t := ⟨_, rfl⟩
      rw [← hwe, ← hst2] at hW hfin
      rw [← hst2] at hlen
      obtain ⟨hl1, hl2⟩ := hlen
      have HW := Lib.hid hW
      have Hl1 := Lib.hid hl1
      clear hW hl1 hcast e1 e2 hwe hst2 ht ht32
      by_cases h0 : we = 0
      · rw [if_pos h0] at hfin
        have Hfin := Lib.hid hfin
        subst h0
        clear hfin
        go_wp2_with fail
        refine HW.out.mono ?_
        rintro e w3 ⟨rfl, h3, k3⟩
        have hZ3 := hZ.step h3 k3 Hl1.out (by omega)
        have hK3 := hK.trans k3
        have ho3 := owns_dke k3 hown hDlt Hvl.out (Nat.le_refl _) (by decide)
        clear HW h3 k3 hZ hK hown hcell
        go_wp2_with fail
        go_roundg (N - (k + 1))
        case measure => have := Hg.out; omega
        case rel => exact ⟨k + 1, st2, by omega, rfl, by go_num, Hfin.out, hZ3, hK3, by omega, ho3⟩
      · rw [if_neg h0] at hfin
        have Hfin := Lib.hid hfin
        have hne : (we != 0) = true := by simpa using h0
        clear hfin h0
        go_wp2_with fail
        refine HW.out.mono ?_
        rintro e w3 ⟨rfl, h3, k3⟩
        have hZ3 := hZ.step h3 k3 Hl1.out (by omega)
        have hK3 := hK.trans k3
        clear HW h3 k3 hZ hK hown hcell
        go_wp2_with fail
        go_ret
        rw [Hrows.out, Hfin.out]
        exact ⟨rfl, hZ3, hK3⟩
    · obtain rfl : k = N := by omega
      have hfin : st.putRows (from' + a) rows = (0, st') := by rw [Hf.out, List.drop_eq_nil_of_le (by rw [Hll.out]; exact Nat.le_refl _)]; rfl
      have Hfin := Lib.hid hfin
      clear hfin hown
      go_wp2_with fail
      go_ret
      rw [Hrows.out, Hfin.out]
      exact ⟨rfl, hZ, hK⟩
theorem zput_len (st : Dsk) (from' size : Nat) (at' n : Int) (s : List UInt8) : (st.zput from' size at' n s).2.safe.length = st.safe.length ∧ (st.zput from' size at' n s).2.loose.length ≤ st.loose.length + secs s.length := by
  unfold Dsk.zput
  split
  · exact ⟨rfl, by simp only; omega⟩
  · split
    · exact ⟨rfl, by simp only; omega⟩
    · have := putRows_len (layOf n s) st (from' + at'.toNat)
      rw [layOf_length] at this
      exact this
theorem Put_any (B D Z : Nat) (vs : Value) (from' size : Nat) (st : Dsk) (at' n : Int) (s : List UInt8) (w : World) (h : Zk B D Z vs from' size st w) (hs : s.length ≤ 9223372036854775807) (hn : st.loose.length ≤ 999000) :
    Calls Try.prog 52 #[.pointer (some ⟨Z, 0, none⟩), .int .i64 at', .int .i64 n, S s] w fun e w' => e = .returned (.int .i64 (st.zput from' size at' n s).1) ∧ Zk B D Z vs from' size (st.zput from' size at' n s).2 w' ∧ DKe B D vs w w' := by
  have hBw := dk_size h.disk
  by_cases h1 : isNum n = false ∨ 1024 < s.length
  · have e : st.zput from' size at' n s = (1, st) := by unfold Dsk.zput; rw [if_pos h1]
    rw [e]
    refine (Put_not B D Z vs from' size st at' n s w h hs h1).mono ?_
    rintro e w' ⟨rfl, rfl⟩
    exact ⟨rfl, h, DK.refl _ _ _ _ _⟩
  · have h1' : isNum n = true ∧ s.length ≤ 1024 := by
      constructor
      · cases hq : isNum n with
        | true => rfl
        | false => exact absurd (.inl hq) h1
      · rcases Nat.lt_or_ge 1024 s.length with hq | hq
        · exact absurd (.inr hq) h1
        · exact hq
    by_cases h2 : at' < 0 ∨ (size : Int) ≤ at' ∨ (size : Int) - at' < secs s.length
    · have e : st.zput from' size at' n s = (3, st) := by unfold Dsk.zput; rw [if_neg h1, if_pos h2]
      rw [e]
      refine (Put_range B D Z vs from' size st at' n s w h h1'.2 h1'.1 h2).mono ?_
      rintro e w' ⟨rfl, hb⟩
      exact ⟨rfl, h.new hb, dke_new hBw hb⟩
    · have e : st.zput from' size at' n s = st.putRows (from' + at'.toNat) (layOf n s) := by unfold Dsk.zput; rw [if_neg h1, if_neg h2]
      rw [e]
      obtain ⟨a, rfl⟩ := Int.eq_ofNat_of_zero_le (a := at') (by omega)
      exact Put_in B D Z vs from' size st a n s w h h1'.2 h1'.1 (by omega) hn
end Go.Proofs.Ythppdlemchmipaa
