/- package twin: isZone, isText, Text, Gen, Side, lay. -/
import Derived.Test.YthppdlemchmipaaSeal5
import Derived.Test.YthppdlemchmipaaModel4
namespace Go.Proofs.Ythppdlemchmipaa
open Go.RowKit Go.Wd
/-- a twin at block T, over the zone at block Z -/
abbrev Twn (T Z : Nat) (t : Tw) (w : World) : Prop := Row w T 165 [.pointer (some ⟨Z, 0, none⟩), S t.text, .int .i64 t.gen, .int .i64 (t.side : Int), .bool t.down]
theorem twn_dke {B D T Z : Nat} {vs : Value} {st : Dsk} {t : Tw} {w w1 : World} (h : Dk B D vs st w) (hk : DKe B D vs w w1) (ht : Twn T Z t w) : Twn T Z t w1 := dk_row h hk ht (by decide) (by decide) (by decide)
theorem twn_new {T Z : Nat} {t : Tw} {w w1 : World} (ht : Twn T Z t w) (hb : Below w.heap.size w w1) : Twn T Z t w1 := ht.mono hb ht.lt
set_option maxHeartbeats 400000 in
theorem TText_any (T Z : Nat) (t : Tw) (w : World) (h : Twn T Z t w) :
    Calls Try.prog 75 #[.pointer (some ⟨T, 0, none⟩)] w fun e w' => e = .returned (S t.text) ∧ w = w' := by
  have c : w.cell? ⟨T, 1, none⟩ = some (S t.text) := h.cell 1
  go_enter Try.func75, Try.ntmps75
  go_wp2
  go_ret
  exact ⟨rfl, rfl⟩
set_option maxHeartbeats 400000 in
theorem TGen_any (T Z : Nat) (t : Tw) (w : World) (h : Twn T Z t w) :
    Calls Try.prog 76 #[.pointer (some ⟨T, 0, none⟩)] w fun e w' => e = .returned (.int .i64 t.gen) ∧ w = w' := by
  have c : w.cell? ⟨T, 2, none⟩ = some (.int .i64 t.gen) := h.cell 2
  go_enter Try.func76, Try.ntmps76
  go_wp2
  go_ret
  exact ⟨rfl, rfl⟩
set_option maxHeartbeats 400000 in
theorem TSide_any (T Z : Nat) (t : Tw) (w : World) (h : Twn T Z t w) :
    Calls Try.prog 77 #[.pointer (some ⟨T, 0, none⟩)] w fun e w' => e = .returned (.int .i64 (t.side : Int)) ∧ w = w' := by
  have c : w.cell? ⟨T, 3, none⟩ = some (.int .i64 (t.side : Int)) := h.cell 3
  go_enter Try.func77, Try.ntmps77
  go_wp2
  go_ret
  exact ⟨rfl, rfl⟩
/-- whether a zone of so many can be a twin's -/
def zoneOK (size : Nat) : Bool := decide (4 ≤ size ∧ size % 2 = 0)
set_option maxHeartbeats 400000 in
theorem isZone_any (Z D from' size : Nat) (w : World) (h : Zn Z D from' size w) :
    Calls Try.prog 142 #[.pointer (some ⟨Z, 0, none⟩)] w fun e w' => e = .returned (.bool (zoneOK size)) ∧ w = w' := by
  by_cases h1 : 4 ≤ size
  · have d1 : decide ((4 : Int) ≤ (size : Int)) = true := by simp; omega
    by_cases h2 : size % 2 = 0
    · have d2 : ((size : Int) % 2 == 0) = true := by simp; omega
      have hn : zoneOK size = true := by simp [zoneOK, h1, h2]
      rw [hn]
      clear h2
      go_enter Try.func142, Try.ntmps142
      go_wp2_with fail
      refine (ZLen_any Z D from' size w h).mono ?_
      rintro e w' ⟨rfl, rfl⟩
      go_wp2_with fail
      refine (ZLen_any Z D from' size w h).mono ?_
      rintro e w' ⟨rfl, rfl⟩
      go_wp2_with fail
      go_ret
      exact ⟨rfl, rfl⟩
    · have d2 : ((size : Int) % 2 == 0) = false := by simp; omega
      have hn : zoneOK size = false := by simp [zoneOK, h2]
      rw [hn]
      clear h2
      go_enter Try.func142, Try.ntmps142
      go_wp2_with fail
      refine (ZLen_any Z D from' size w h).mono ?_
      rintro e w' ⟨rfl, rfl⟩
      go_wp2_with fail
      refine (ZLen_any Z D from' size w h).mono ?_
      rintro e w' ⟨rfl, rfl⟩
      go_wp2_with fail
      go_ret
      exact ⟨rfl, rfl⟩
  · have d1 : decide ((4 : Int) ≤ (size : Int)) = false := by simp; omega
    have hn : zoneOK size = false := by simp [zoneOK, h1]
    rw [hn]
    go_enter Try.func142, Try.ntmps142
    go_wp2_with fail
    refine (ZLen_any Z D from' size w h).mono ?_
    rintro e w' ⟨rfl, rfl⟩
    go_wp2_with fail
    go_ret
    exact ⟨rfl, rfl⟩
set_option maxHeartbeats 400000 in
theorem isText_any (Z D from' size : Nat) (s : List UInt8) (w : World) (h : Zn Z D from' size w) (hs : s.length ≤ 9223372036854775000) (hz : size ≤ 4096) :
    Calls Try.prog 143 #[.pointer (some ⟨Z, 0, none⟩), S s] w fun e w' => e = .returned (.bool (fits size s)) ∧ w = w' := by
  by_cases h1 : s.length ≤ 1024
  · have d1 : decide ((s.length : Int) ≤ 1024) = true := by simp; omega
    by_cases h2 : secs s.length ≤ size / 2
    · have d2 : decide ((secs s.length : Int) ≤ (size : Int) / 2) = true := by simp; omega
      have hn : fits size s = true := by simp [fits, h1, h2]
      rw [hn]
      clear h2
      go_enter Try.func143, Try.ntmps143
      go_wp2_with fail
      refine (Size_any s w hs).mono ?_
      rintro e w' ⟨rfl, rfl⟩
      go_wp2_with fail
      refine (ZLen_any Z D from' size w h).mono ?_
      rintro e w' ⟨rfl, rfl⟩
      go_wp2_with fail
      go_ret
      exact ⟨rfl, rfl⟩
    · have d2 : decide ((secs s.length : Int) ≤ (size : Int) / 2) = false := by simp; omega
      have hn : fits size s = false := by simp [fits, h2]
      rw [hn]
      clear h2
      go_enter Try.func143, Try.ntmps143
      go_wp2_with fail
      refine (Size_any s w hs).mono ?_
      rintro e w' ⟨rfl, rfl⟩
      go_wp2_with fail
      refine (ZLen_any Z D from' size w h).mono ?_
      rintro e w' ⟨rfl, rfl⟩
      go_wp2_with fail
      go_ret
      exact ⟨rfl, rfl⟩
  · have d1 : decide ((s.length : Int) ≤ 1024) = false := by simp; omega
    have hn : fits size s = false := by simp [fits, h1]
    rw [hn]
    go_enter Try.func143, Try.ntmps143
    go_wp2_with fail
    go_ret
    exact ⟨rfl, rfl⟩
theorem ZPart_n (B D Z : Nat) (vs : Value) (from' size : Nat) (st : Dsk) (a n : Nat) (i j : Int) (hi : ((a : Nat) : Int) = i) (hj : ((n : Nat) : Int) = j) (w : World) (h : Zk B D Z vs from' size st w) (h1 : 1 ≤ n) (h2 : a + n ≤ size) :
    Calls Try.prog 200 #[.pointer (some ⟨Z, 0, none⟩), .int .i64 i, .int .i64 j] w fun e w' => ∃ Z', e = .returned (.tuple #[.pointer (some ⟨Z', 0, none⟩), .int .i64 0]) ∧ w.heap.size ≤ Z' ∧ Zk B D Z' vs (from' + a) n st w' ∧ Below w.heap.size w w' := by
  subst hi hj
  refine (ZPart_any B D Z vs from' size st a n w h h1 h2).mono ?_
  rintro e w' ⟨Z', rfl, hz, hr, hb⟩
  exact ⟨Z', rfl, hz, ⟨dk_new h.disk hb, hr, by have := h.fit; omega, h.loose⟩, hb⟩
set_option maxRecDepth 100000 in
set_option maxHeartbeats 4000000 in
theorem lay_any (B D Z T : Nat) (vs : Value) (from' size : Nat) (st : Dsk) (t : Tw) (side : Nat) (s : List UInt8) (w : World) (h : Zk B D Z vs from' size st w) (ht : Twn T Z t w) (hsd : side ≤ 1) (hsz : 2 ≤ size) (hg0 : 0 ≤ t.gen) (hg1 : t.gen ≤ 2147483646) (hs : s.length ≤ 9223372036854775807) (hn : st.loose.length ≤ 900000) :
    Calls Try.prog 145 #[.pointer (some ⟨T, 0, none⟩), .int .i64 (side : Int), S s] w fun e w' => e = .returned (.int .i64 (st.tlayAt (from' + side * (size / 2)) (size / 2) t.gen s).1) ∧ Zk B D Z vs from' size (st.tlayAt (from' + side * (size / 2)) (size / 2) t.gen s).2 w' ∧ Twn T Z t w' ∧ DKe B D vs w w' := by
  have hsm := h.small
  have hfit := h.fit
  have c0 : w.cell? ⟨T, 0, none⟩ = some (.pointer (some ⟨Z, 0, none⟩)) := ht.cell 0
  have hBw := dk_size h.disk
  obtain ⟨H, hH⟩ : ∃ H, size / 2 = H := ⟨_, rfl⟩
  have hHi : (size : Int) / 2 = (H : Int) := by omega
  rw [hH]
  obtain ⟨a, haa⟩ : ∃ a, side * H = a := ⟨_, rfl⟩
  have hai : (side : Int) * (H : Int) = (a : Int) := by rw [← haa]; simp
  rw [haa]
  have hab : a + H ≤ size := by rcases (by omega : side = 0 ∨ side = 1) with e | e <;> rw [e] at haa <;> omega
  have hf := fillZ_len zsec H st (from' + a)
  have hF := fun Z' w1 (z : Zk B D Z' vs (from' + a) H st w1) => ZFill_any B D Z' vs (from' + a) H st w1 z (by omega)
  obtain ⟨r, hr⟩ : ∃ r, r = st.tlayAt (from' + a) H t.gen s := ⟨_, rfl⟩
  rw [← hr]
  unfold Dsk.tlayAt at hr
  generalize st.fillZ zsec (from' + a) H = f at *
  obtain ⟨fe, fs⟩ := f
  simp only at hf hF hr
  have HF := Lib.hid hF
  have Hf := Lib.hid hf
  have Hr := Lib.hid hr
  clear hF hf haa hH hr
  go_enter Try.func145, Try.ntmps145
  go_wp2_with fail
  refine (ZLen_any Z D from' size w h.row).mono ?_
  rintro e w' ⟨rfl, rfl⟩
  go_wp2_with fail
  refine (ZPart_n B D Z vs from' size st a H _ _ rfl rfl w h (by omega) (by omega)).mono ?_
  rintro e w1 ⟨Z', rfl, hZ', z1, b1⟩
  have h1 := h.new b1
  have t1 := twn_new ht b1
  have k1 : DKe B D vs w w1 := dke_new hBw b1
  clear b1 hai c0 hHi
  go_wp2_with fail
  refine (HF.out Z' w1 z1).mono ?_
  rintro e w2 ⟨rfl, z2, k2⟩
  have h2 := h1.step z2.disk k2 Hf.out.1 (by have := Hf.out.2; omega)
  have t2 := twn_dke h1.disk k2 t1
  have k2 := k1.trans k2
  have hfl := Hf.out.2
  clear h1 t1 k1 z1 HF
  by_cases f0 : fe = 0
  · subst f0
    have hsl := synced_len fs
    have hsl2 := hsl.2
    have Hsl := Lib.hid hsl.1
    have c2 : w2.cell? ⟨T, 0, none⟩ = some (.pointer (some ⟨Z, 0, none⟩)) := t2.cell 0
    have d2 : w2.cell? ⟨Z, 0, none⟩ = some (.pointer (some ⟨D, 0, none⟩)) := h2.row.cell 0
    have hB2 := dk_size h2.disk
    clear hsl
    go_wp2_with fail
    refine (DSync_any B D vs fs w2 h2.disk hB2).mono ?_
    rintro e w3 ⟨rfl, d3, k3⟩
    have h3 := h2.step d3 k3 Hsl.out (by omega)
    have z3 := z2.step d3 k3 Hsl.out (by omega)
    have t3 := twn_dke h2.disk k3 t2
    have k3 := k2.trans k3
    clear h2 z2 t2 k2 c2 d2 d3 hB2
    by_cases e0 : fs.syncE = 0
    · rw [e0]
      have c3 : w3.cell? ⟨T, 2, none⟩ = some (.int .i64 t.gen) := t3.cell 2
      have hP := Put_any B D Z' vs (from' + a) H fs.synced 0 (t.gen + 1) s w3 z3 hs (by omega)
      have hpl := zput_len fs.synced (from' + a) H 0 (t.gen + 1) s
      have hps : (fs.synced.zput (from' + a) H 0 (t.gen + 1) s).2.loose.length ≤ 960000 := by
        unfold Dsk.zput
        split
        · simp only; omega
        · split
          · simp only; omega
          · rename_i q1 q2
            have := putRows_len (layOf (t.gen + 1) s) fs.synced (from' + a + (0 : Int).toNat)
            have q3 := layOf_length (t.gen + 1) s
            have q4 := secs_le s.length
            have q5 : s.length ≤ 1024 := by
              rcases Nat.lt_or_ge 1024 s.length with hq | hq
              · exact absurd (.inr hq) q1
              · exact hq
            omega
      have He0 := Lib.hid e0
      generalize hp : fs.synced.zput (from' + a) H 0 (t.gen + 1) s = pp at *
      obtain ⟨pe, ps⟩ := pp
      simp only at hP hpl hps
      have Hp := Lib.hid hp
      have HP := Lib.hid hP
      have Hpl := Lib.hid hpl.1
      clear e0 hp hP hpl
      go_wp2_with fail
      refine HP.out.mono ?_
      rintro e w4 ⟨rfl, z4, k4⟩
      have h4 := h3.step z4.disk k4 Hpl.out (by omega)
      have t4 := twn_dke h3.disk k4 t3
      have k4 := k3.trans k4
      clear h3 z3 t3 k3 c3 HP
      by_cases p0 : pe = 0
      · subst p0
        have c4 : w4.cell? ⟨T, 0, none⟩ = some (.pointer (some ⟨Z, 0, none⟩)) := t4.cell 0
        have d4 : w4.cell? ⟨Z, 0, none⟩ = some (.pointer (some ⟨D, 0, none⟩)) := h4.row.cell 0
        have hB4 := dk_size h4.disk
        have hsl := synced_len ps
        have hsl2 := hsl.2
        have Hsl2 := Lib.hid hsl.1
        clear hsl
        go_wp2_with fail
        refine (DSync_any B D vs ps w4 h4.disk hB4).mono ?_
        rintro e w5 ⟨rfl, d5, k5⟩
        have h5 := h4.step d5 k5 Hsl2.out (by omega)
        have t5 := twn_dke h4.disk k5 t4
        have k5 := k4.trans k5
        go_wp2_with fail
        go_ret
        have hfin : r = (ps.syncE, ps.synced) := by rw [Hr.out, if_neg (by simp), if_neg (by simpa using He0.out), if_neg (by simp)]
        rw [hfin]
        exact ⟨rfl, h5, t5, k5⟩
      · have hne : (pe != 0) = true := by simpa using p0
        have P0 := Lib.hid p0
        clear p0
        go_wp2_with fail
        go_ret
        have hfin : r = (pe, ps) := by rw [Hr.out, if_neg (by simp), if_neg (by simpa using He0.out), if_pos P0.out]
        rw [hfin]
        exact ⟨rfl, h4, t4, k4⟩
    · have hne : (fs.syncE != 0) = true := by simpa using e0
      have E0 := Lib.hid e0
      clear e0
      go_wp2_with fail
      go_ret
      have hfin : r = (fs.syncE, fs.synced) := by rw [Hr.out, if_neg (by simp), if_pos E0.out]
      rw [hfin]
      exact ⟨rfl, h3, t3, k3⟩
  · have hne : (fe != 0) = true := by simpa using f0
    have F0 := Lib.hid f0
    clear f0
    go_wp2_with fail
    go_ret
    have hfin : r = (fe, fs) := by rw [Hr.out, if_pos F0.out]
    rw [hfin]
    exact ⟨rfl, h2, t2, k2⟩
end Go.Proofs.Ythppdlemchmipaa
